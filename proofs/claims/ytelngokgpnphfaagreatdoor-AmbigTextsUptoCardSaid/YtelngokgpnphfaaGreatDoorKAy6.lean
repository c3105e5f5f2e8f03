import Derived.Test.YtelngokgpnphfaaGreatDoorKAy5
set_option maxHeartbeats 0
open BitVec renaming allOnes -> Ap9
open List renaming replicate -> AnL, range -> AnZ
open Option renaming some -> AoW
set_option maxRecDepth 100000
open Go.Proofs.Tryz
open Go renaming Value -> v_, TypeId -> x_, Program -> w_, Operand -> z_
open Option renaming some -> zY, none -> zV
open Bool renaming true -> zW, false -> zU
open Decidable renaming decide -> zT
set_option linter.unusedVariables false
set_option linter.unusedSimpArgs false
set_option linter.defProp false
namespace Go.Proofs.YtelngokgpnphfaaGreatDoor
variable{b q c i:Nat}{S B:Nat->Prop}{H H0:Aa}{ps:List Pc}{K:v_->Prop}{l:List Nd}{v:v_}{g:Gr}{n:Nd}{a o:Option AM}{w:List Nat}{f:Nat->Bool}{t V:ByteArray}{sim:Nat->Nat->Bool}{D:DM}{x y:BitVec 256}{F:List (List Int)}{e:Int}
def B_.mqNil{α β:Type}{Ok:α->Prop}{enc:α->v_}{T:Ty β}{e:x_}{m:α->Option v_}(f:B_ B H0 H ps)(i:Nat)(g:ps[i]?=zY (xN Ok enc b m))(d:∀a,EG m a= .slice zV 0 0):B_ B H0 H (ps.set i (vG Ok enc T e b m λ_=>[])):=by refine f.upd i g (D_.refl _ _) _ ⟨f.mapW i g,λa=>by rw[d];exact Z_.nil,λa a' k _ c=>?_,λa c=>?_⟩ (λk c=>?_) (λk c=>?_) (M_ _);{rw[d]at c;exact absurd c EL};{rw[d]at c;exact EL c};{rcases c with c | ⟨a,c⟩;{exact .inl c};rw[d]at c;exact absurd c EL};rcases c with c | ⟨a,c⟩;{exact(f.in_ i g c).2};rw[d]at c;exact absurd c EL
def Al5{H':Aa}{k:Nat}(h:D_ S H H')(a:S k)(b:k<H.size):k<H'.size:=by have e:=h k a;rw[Array.getElem?_eq_getElem b]at e;exact(Array.getElem?_eq_some_iff.1 e).1
def B_.apart{p q:Pc}(b:B_ B H0 H ps){j:Nat}(a:i<j)(c:ps[i]?=zY p)(d:ps[j]?=zY q):Dis p q:=by have⟨e,f⟩:=T_.1 c;have⟨g,h⟩:=T_.1 d;have:=xU.1 b.dis i j e g a;rwa [f,h]at this
def lZ{β:Type}{T:Ty β}{e:x_}{xs:List β}{x:β}{n cap:Nat}{a:Option Addr}{P:w_}{t by_ j:Nat}{z:v_}{k:IntKind}{d:Int}{H2:Aa}(m:SlT P t e T.size by_ z)(f:B_ B H0 H ps)(i:Nat)(g:ps[i]?=zY (pS T e a n cap xs))(l:xs[j]?=zY x) (p:d=(j:Int)) (q:∀b o c,Q_ (.slice a n cap) b->H_ H b->Bi H b o c->T.rep (H_ H) H c x->K (.pointer (zY ⟨b,o,zV⟩))):AH P (Instr.indexAt t (.slice a n cap) (.int k d)) S H2 K:=by have h:=f.view i g;have v:=f.len i g;obtain⟨b,o,c,rfl,r,s,u⟩:=h.get l;subst p;have w:=(T_.1 l).1;exact ix m zO zO (by simpa using q b _ c ⟨_,_,_,rfl⟩ r s u)
def oO:Hg prog 149 96 97 (.slice zV 0 0):=⟨rfl,rfl⟩
def Rk:Hg prog 152 96 3 (.int .i64 0):=⟨rfl,rfl⟩
def Ua:Ao.Ok:=⟨BJ (x:=0) zQ,BJ (x:=0) zQ,BJ (x:=0) zQ⟩
def DF:(prog.info? 96).bind (·.zero)=zY (ndV Ao):=zX
structure Mv(g:Gr)(by_:List Nat)(M C:Nat):Prop where
 byl:∀b∈by_,b<256
 nb:by_.length<=256
 ok:∀n,CC g by_ Ao n->n.Ok
 card:∀l:List Nd,l.Nodup->(∀n∈l,CC g by_ Ao n)->l.length<=M
 occ:∀n b t,CC g by_ Ao n->b∈by_->(g.next n b).count t<=C
 c0:1<=C
 big:C*(256*M)<=5864062014805
structure Sw(S:Nat->Prop)(H:Aa)(v:v_)(g:Gr)(by_:List Nat):Prop where
 out:∃(pg:Nat) (ba:Option Addr) (bc:Nat) (f e:FuncId) (fs cs es ds:List v_),v= U_ pg/\S pg/\
  S_ H pg 94 [.slice ba by_.length bc,.func (.func f) fs.toArray cs.toArray,.func (.func e) es.toArray ds.toArray]/\Y_ (E7 .u8) S H ba bc (by_.map fun(b:Nat)=>(b:Int))/\
  (∀H',D_ S H H'->∀n b,CC g by_ Ao n->b∈by_->Ai prog f (fs++[ndV n,.int .u8 (b:Int)]++cs).toArray H' λv H''=>D_ (H_ H') H' H''/\Z_ tNd none_ H'' H'.size 96 v (g.next n b))/\
  (∀H',D_ S H H'->∀n,CC g by_ Ao n->BK prog e (es++[ndV n]++ds).toArray H' (.bool (g.ends n)))
def JH(n t:Nd):Ah (q_ n) 0 (q_ t)=q_ t:=rfl
def WF{t:Nd}(j:Nat):(l.take j).count t<=l.count t:=by
 conv=>rhs;rw[<-uT j l,lK]
 omega
def WE{t:Nd}{j:Nat}(h:l[j]?=zY t):(l.take j).count t+1<=l.count t:=by have:=WF (l:=l) (t:=t) (j+1);rw[Ab h,lK,fV]at this;omega
def AmJ{k nb M:Nat}(b:i<M)(d:k<nb)(a:nb<=256):i*nb+k+1<=256*M:=by have c:(i+1)*nb<=M*nb:=wO _ b;have e:M*nb<=M*256:=vY _ a;rw[Nat.succ_mul]at c;omega
def AiX{by_:List Nat}{M C:Nat}(hS:∀k,S k->k<H.size)(Z:Mv g by_ M C)(N:Sw S H v g by_):
  Ai prog 65 #[v] H λv H'=>∃(a:Option Addr) (c:Nat) (order:List Nd) (mb:Nat) (m:Nd->Option v_) (xs:Nd->List Nd),v= .tuple #[.slice a order.length c,.map (zY mb)]/\
   St H H' [pS tNd 96 a order.length c order,vG Nd.Ok ndV tNd 96 mb m xs]/\order.Nodup/\(∀n,n∈order↔CC g by_ Ao n)/\∀t p,p∈xs t↔CC g by_ Ao p/\∃b,b∈by_/\t∈g.next p b:=by
 obtain⟨pg,ba,bc,f,e,fs,cs,es,ds,rfl,ae,a2,hby,ag,ct⟩:=N;have cu:=Z.nb;have dy:=Z.big;have cw:=Z.c0;have e7:256*M<=C*(256*M):=f_ _ cw;refine Ai.of_vc func65 rfl (call65 _) (Au underlying96 rfl (ndV Ao) DF (q_ Ao) rfl (Af (ndV Ao) (q_ Ao) DF rfl ?_));intro p1 H1 cx cy cz d0;have F_:=(St.nil H).box cx cy cz d0;refine AI (cs:=q_ Ao) F_ 0 rfl rfl (zQ:0+3<=3) rfl λH2 az=>?_;rw[JH]at az;refine Mi (Ok:=Nd.Ok) (enc:=ndV) λmb H3 d1 d2 d3 d4=>?_;have b0:=az.mapNewW d1 d2 d3 d4;have q3:=b0.blk 0 rfl;refine L_ (cs:=q_ Ao) Hi (q3.cells λj v N=>by rw[K_];exact N) zA ?_;refine K3 (a:=Ao) b0 1 oO NA Ua rfl rfl λH4 d5=>?_;have d6:∀a,EG (put (λ_=>zV) Ao (zY (.slice zV 0 0))) a= .slice zV 0 0:=λa=>by
  by_cases h:a=Ao
  ·subst h;rw[QG]
  ·rw[Ui h];rfl
 have d7:∀t,(put (λ_=>zV) Ao (zY (.slice zV 0 0)) t:Option v_).isSome=zW↔t∈[Ao]:=λt=>by
  rw[V_];by_cases h:t=Ao
  ·subst h;rw[D8];simp
  ·rw[GA h];simp[h]
 generalize put (λ_=>zV) Ao (zY (Value.slice zV 0 0))=m0 at*;have b4:=d5.mqNil (T:=tNd) (e:=96) 1 rfl d6;have q5:=b4.blk 0 rfl;refine L_ (cs:=q_ Ao) Hi (q5.cells λj v N=>by rw[K_];exact N) zA ?_;refine Aj Fw (q_ Ao) rfl rfl zQ zQ ?_;intro b6 H6 d8 d9 da db;have dc:=(b4.new (T:=tNd) (n:=1) (xs:=[Ao]) d8 d9 da db (Ty.reps_one rfl) rfl zQ).pick [2,1] zQ;(conv=>whnf);refine A0.mk [6,7] (λx:Nat×List Nd×Option Addr×Nat=>match x with | (i,order,a,c)=>[.slice a order.length c,A_ i])
  (λx H7=>x.1<=x.2.1.length/\∃m xs,Py g by_ Ao x.2.1 (λt p=>p∈xs t) (λn b t=>n∈x.2.1.take x.1/\b∈by_/\t∈g.next n b)/\(∀t,(m t).isSome=zW↔t∈x.2.1)/\(∀t,(xs t).length<=C*(x.1*by_.length))/\
   St H H7 [pS tNd 96 x.2.2.1 x.2.1.length x.2.2.2 x.2.1,vG Nd.Ok ndV tNd 96 mb m xs]) (λx _=>M-x.1) ?_ ?_
 ·(conv=>whnf);refine⟨(0,[Ao],zY ⟨b6,0,zV⟩,1),rfl,zZ,m0,λ_=>[],⟨rfl,zZ,λn hn=>?_,λt p hp=>(by cases hp),λn b t h=>(by simp at h)⟩,d7,zZ,dc⟩;rw[V_]at hn;subst hn;exact .refl
 ·rintro⟨i,order,a7,c7⟩ H7 de ⟨hi,m7,b5,w,b7,b8,a0⟩;simp only at hi w b7 b8 a0;have df:=Z.card order w.nodup w.reach;refine AB.m2 (λhz=>?_) (λhz=>?_)
  ·have⟨n,hn⟩:=Ac (l:=order) (k:=i) zO;have ah:=d_ hn;have ai:=w.reach n ah;have q7:=a2.agr (a0.old.mono hS) ae;refine fa jR ?_;refine C_ (v:=.slice ba by_.length bc) qY (by rw[q7.cell];rfl) zA ?_;(conv=>whnf);refine A0.mk [6,31] (λx:Nat×List Nd×Option Addr×Nat=>match x with | (k,order,a,c)=>[.slice a order.length c,A_ k])
    (λx H8=>x.1<=by_.length/\x.2.1[i]?=zY n/\∃m xs,Py g by_ Ao x.2.1 (λt p=>p∈xs t) (λn' b t=>(n'∈x.2.1.take i/\b∈by_/\t∈g.next n' b)\/(n'=n/\b∈by_.take x.1/\t∈g.next n b))/\(∀t,(m t).isSome=zW↔t∈x.2.1)/\(∀t,(xs t).length<=C*(i*by_.length+x.1))/\
     St H H8 [pS tNd 96 x.2.2.1 x.2.1.length x.2.2.2 x.2.1,vG Nd.Ok ndV tNd 96 mb m xs]) (λx _=>by_.length-x.1) ?_ ?_
   ·(conv=>whnf);exact⟨(0,order,a7,c7),rfl,zZ,hn,m7,b5,w.weak λn' b t h=>by simpa using h,b7,by simpa using b8,a0⟩
   ·rintro⟨k,D,a8,c8⟩ H8 dg ⟨F,Q,m8,bd,u,aj,R,G⟩;simp only at F Q u aj R G;have cp:=Z.card D u.nodup u.reach;have dz:=(T_.1 Q).1;refine AB.m2 (λdh=>?_) (λdh=>?_)
    ·have⟨b,hb⟩:=Ac (l:=by_) (k:=k) zO;have y:=d_ hb;have e8:=Z.byl b y;have hP:=AmJ (i:=i) (k:=k) (M:=M) (nb:=by_.length) zO zO cu;have di:C*(i*by_.length+k+1)<=C*(256*M):=vY _ hP;rw[Nat.mul_succ]at di;refine DY (i:=k) (x:=(b:Int)) OL (hby.frame (G.old.mono hS)) zZ (by rw[Y',hb];rfl) rfl ?_;rintro b9 o9 e9 ea dj ⟨rfl,-⟩;refine C_ vZ dj.one zA (Ap.held (H_ H8) 99 (sq [0,1,2,3,4,5,6,7,8,11] (.f 9 (sq [10] .e))) rfl zX ?_);have q8:=a2.agr (G.old.mono hS) ae;refine fa Tk ?_;refine C_ (v:=.func (.func f) fs.toArray cs.toArray) oK (by rw[q8.cell];rfl) (G.up (hS pg ae)) ?_;refine zK (j:=i) Fw G 0 rfl Q rfl λeb ec e0 be bf bg=>?_;obtain rfl:=bg;refine L_ (cs:=q_ n) Hi bf be (Ae.mk (ag H8 (G.old.mono hS) n b ai y) ?_);rintro _ H9 ⟨bh,ak⟩;refine⟨bh,?_⟩;obtain⟨a9,c9,rfl,dk⟩:=G.got bh ak;have a3:=λt=>Z.occ n b t ai y;have am:∀t,t∈g.next n b->t.Ok:=λt ht=>Z.ok t (ai.step y ht)
     generalize bi:g.next n b=X at*
     (conv=>whnf);refine A0.mk [6,46] (λx:Nat×List Nd×Option Addr×Nat=>match x with | (j,order,a,c)=>[.slice a order.length c,A_ j])
      (λx H10=>x.1<=X.length/\x.2.1[i]?=zY n/\∃m xs,Py g by_ Ao x.2.1 (λt p=>p∈xs t) (λn' b' t=>((n'∈x.2.1.take i/\b'∈by_/\t∈g.next n' b')\/(n'=n/\b'∈by_.take k/\t∈g.next n b'))\/(n'=n/\b'=b/\t∈X.take x.1))/\(∀t,(m t).isSome=zW↔t∈x.2.1)/\(∀t,(xs t).length<=C*(i*by_.length+k)+(X.take x.1).count t)/\
       St H H10 [pS tNd 96 x.2.2.1 x.2.1.length x.2.2.2 x.2.1,vG Nd.Ok ndV tNd 96 mb m xs,pS tNd 96 a9 X.length c9 X]) (λx _=>X.length-x.1) ?_ ?_
     ·(conv=>whnf);exact⟨(0,D,a8,c8),rfl,zZ,Q,m8,bd,u.weak λn' b t h=>by simpa using h,aj,by simpa using R,dk⟩
     ·rintro⟨j,d,bj,bm⟩ H10 cq ⟨hj,B,U,z,q,I,A,J⟩;simp only at hj B q I A J;have bn:=Z.card d q.nodup q.reach;have ao:=(T_.1 B).1;refine AB.m2 (λdl=>?_) (λdl=>?_)
      ·have⟨t,ht⟩:=Ac (l:=X) (k:=j) zO;have E:=d_ ht;have bo:=J.max 2 rfl;unfold maxLen at bo;have ed:=WE ht;have ee:=a3 t;refine zK (j:=j) Fw J 2 rfl ht rfl λef eg e1 e3 bp bq=>?_;obtain rfl:=bq;refine L_ (cs:=q_ t) Hi bp zA (Af (ndV Ao) (q_ Ao) DF rfl ?_);intro dm H12 br bu bv bw;have bx:=J.box br bu bv bw;refine AI (cs:=q_ t) bx 3 rfl rfl (zQ:0+3<=3) rfl λH13 K=>?_;rw[JH]at K;have bz:=K.blk 3 rfl;(conv=>whnf);refine A7.cut [6] (λx:List Nd×Option Addr×Nat=>match x with | (order,a,c)=>[.slice a order.length c])
        (λx H14=>((t∈d/\x.1=d)\/(t∉d/\x.1=d++[t]))/\St H H14 [pS tNd 96 x.2.1 x.1.length x.2.2 x.1,vG Nd.Ok ndV tNd 96 mb U z,pS tNd 96 a9 X.length c9 X,pB 96 dm (q_ t)]) ?_ ?_
       ·refine L_ (cs:=q_ t) Hi (bz.cells λj v N=>by rw[K_];exact N) zA ?_;refine IM (S:=λ_=>True) (a:=t) oO NA (am t E) (K.mqMap 1 rfl) zA ?_;by_cases a1:t∈d
        ·rw[(I t).2 a1];(conv=>whnf);exact⟨rfl,(d,bj,bm),rfl,.inl ⟨a1,rfl⟩,K⟩
        ·have dn:(U t).isSome=zU:=by
          cases h:(U t).isSome with
          | false=>rfl
          | true=>exact absurd ((I t).1 h) a1
         rw[dn];refine L_ (cs:=q_ t) Hi (bz.cells λj v N=>by rw[K_];exact N) zA ?_;refine Aj Fw (q_ t) rfl rfl zQ zQ ?_;intro ap H14 c1 e4 c2 c3;have r:=K.skip c1 c3;refine GM (ys:=[t]) (ds:=q_ t) r 0 Fw rfl (c2.cells λj v N=>by rw[K_];exact N) (Ty.reps_one rfl) rfl (by simp[q_,Value.oneCell']) (by simp only[c_,maxLen];omega) (by simp only[c_];omega) λa' c' H15 a4 _=>?_;(conv=>whnf);refine⟨rfl,(d++[t],a',c'),zZ,.inr ⟨a1,rfl⟩,?_⟩;simp only[O_,c_]at a4 ⊢;exact a4
       ·rintro⟨o,dp,dq⟩ H14 cr ⟨V,r⟩;simp only at V r;have a5:o[i]?=zY n:=by
         rcases V with⟨-,rfl⟩ | ⟨-,rfl⟩
         ·exact B
         ·rw[List.getElem?_append_left ao];exact B
        have aq:o.take i=d.take i:=by
         rcases V with⟨-,rfl⟩ | ⟨-,rfl⟩
         ·rfl
         ·rw[nC zO]
        have ar:∀x,x∈o↔x∈d\/x=t:=λx=>by
         rcases V with⟨h,rfl⟩ | ⟨-,rfl⟩
         ·exact⟨.inl,λhx=>hx.elim id λe=>e ▸ h⟩
         ·simp
        refine Ap.held (λk=>k<H14.size/\¬(vG Nd.Ok ndV tNd 96 mb U z).foot k) 11 (sq [0,1,2,3,4,5] (.f 6 (.f 7 (sq [8,10] (.f 9 (.f 11 .e)))))) rfl zX ?_;have ap:=r.blk 3 rfl;have dr:=r.apart (i:=0) (j:=1) zQ rfl rfl;have dt:=r.apart (i:=1) (j:=3) zQ rfl rfl;have du:=(r.in_ 1 rfl (.inl rfl)).2;refine L_ (cs:=q_ t) Hi (ap.cells λj v N=>by rw[K_];exact N) ⟨ap.lt,λhf=>dt _ hf rfl⟩ ?_;refine lZ (j:=i) Fw r 0 rfl a5 rfl λeh ei e5 au c4 c5 c6=>?_;obtain rfl:=c6;refine L_ (cs:=q_ n) Hi c5 ⟨c4,dr _ (.inl au)⟩ (Aj Fw (q_ n) rfl rfl zQ zQ ?_);intro dv H16 cd e6 ce L;have cg:=r.skip cd L;refine⟨L.mono λk F=>by have:=F.1;omega,?_⟩;refine Ai7 (a:=t) cg 1 oO NA (am t E) rfl λs ej H17 aw O ch a6=>?_;refine⟨(L.mono λk F=>by have:=F.1;omega).trans (O.mono λk F W=>F.2 (.inl W)),?_⟩;have dw:=A t;refine AnG (ys:=[n]) (ds:=q_ n) a6 1 Fw rfl ((ce.agr O (by show dv≠mb;omega)).cells λj v N=>by rw[K_];exact N) (Ty.reps_one rfl) rfl (by simp[q_,Value.oneCell']) (by simp only[c_,maxLen];omega) (by simp only[c_];omega) λek H18 cj ab ax=>?_;refine⟨((L.mono λk F=>by have:=F.1;omega).trans (O.mono λk F W=>F.2 (.inl W))).trans (ab.mono λk F=>⟨?_,λhs=>F.2 (.inr ⟨t,hs⟩)⟩),?_⟩
        ·have:=F.1;have el:=BF (H:=H14) (H':=H16) (L.mono λk F=>by unfold H_ at F;omega);exact Al5 O (λW=>F.2 (.inl W)) zO
        have ay:=aw.agr ab ⟨a6.in_ 1 rfl (.inl rfl) |>.2,ax⟩;refine AiC cj 1 NA (am t E) rfl ay λdx H19 ck cm=>?_;(conv=>whnf);rw[R_ j zO];have co:=q.see (bk':=λx p=>p∈upd z t (z t++[n]) x) (d_ B) y (by rw[bi];exact E) (λx p=>by
         by_cases hx:x=t
         ·subst hx;rw[QU];simp
         ·rw[XI hx];simp[hx]) o V
        refine⟨rfl,(j+1,o,dp,dq),zZ,⟨by simp only;omega,a5,dx,upd z t (z t++[n]),co.weak λn' b' x h=>?_,λx=>?_,λx=>?_,cm.pick [0,1,2] zQ⟩,by simp only;omega⟩
        ·simp only at h;rw[aq,Ab ht,k_,V_]at h;rcases h with h | ⟨P,Y,h3 | h3⟩
         ·exact .inl (.inl h)
         ·exact .inl (.inr ⟨P,Y,h3⟩)
         ·exact .inr ⟨P,Y,h3⟩
        ·rw[ck,ch,I,ar]
        ·simp only;rw[Ab ht,lK];have:=A x;by_cases hx:x=t
         ·subst hx;rw[QU,O_,fV,c_];omega
         ·rw[XI hx];omega
      ·obtain rfl:j=X.length:=zO
       rw[M']at q A;(conv=>whnf);rw[R_ k zO];refine⟨rfl,(k+1,d,bj,bm),zZ,⟨by simp only;omega,B,U,z,q.weak λn' b' t h=>?_,I,λt=>?_,J.pick [0,1] zQ⟩,by simp only;omega⟩
       ·rcases h with h | ⟨rfl,P,Y⟩
        ·exact .inl (.inl h)
        ·rw[Ab hb,k_,V_]at P;rcases P with P | rfl
         ·exact .inl (.inr ⟨rfl,P,Y⟩)
         ·exact .inr ⟨rfl,rfl,bi ▸ Y⟩
       ·have:=A t;have:=a3 t;rw[<-rI,Nat.mul_succ];omega
    ·obtain rfl:k=by_.length:=zO
     rw[M']at u;(conv=>whnf);rw[R_ i zO];refine⟨rfl,(i+1,D,a8,c8),zZ,⟨by simp only;omega,m8,bd,u.weak λn' b' t h=>?_,aj,λt=>?_,G⟩,by simp only;omega⟩
     ·have⟨P,Y,h3⟩:=h;rw[Ab Q,k_,V_]at P;rcases P with P | rfl
      ·exact .inl ⟨P,Y,h3⟩
      ·exact .inr ⟨rfl,Y,h3⟩
     ·rw[Nat.succ_mul];exact R t
  ·obtain rfl:i=order.length:=zO
   rw[M']at w;have⟨r1,r2⟩:=w.all λn b t P Y h3=>⟨P,Y,h3⟩;(conv=>whnf);exact⟨a7,c7,order,mb,m7,b5,rfl,a0,w.nodup,r1,r2⟩
def AjS{P:w_}{s d e cap n:Nat}{a:Option Addr}{K:v_->Aa->Prop}(bs:List Nat)(g:B_ B H0 H ps)(i:Nat)(m:ps[i]?=zY (pN (E7 .u8) S e a n cap (bs.map fun(x:Nat)=>(x:Int))))(hs:P.underlying s=zY (.slice e)) (o:P.underlying e=zY (.int .u8)) (p:P.underlying d=zY .string) (k:K (.string ⟨(bs.map UInt8.ofNat).toArray⟩) H):B0 P (convert s d (.slice a n cap)) H K:=by have h:=g.view i m;have q:=g.len i m;rw[e_]at q;cases bs with|nil=>{cases a with|none=>exact gM hs o p k|some z=>{have r:=g.at_ i m;obtain⟨A,⟨C,f⟩,D⟩:=r.1;rcases f with⟨f,-⟩ | ⟨b,c,l,f,E,F,G,I,J,L⟩;{cases f};injection f with g1 g2 g3;injection g1 with g1;subst g1;exact mS [] hs o p (λj x t=>by simp at t) q k}}|cons x xs=>{obtain⟨b,rfl⟩:=g.adr i m zZ;refine mS (x::xs) hs o p (λj y u=>?_) q k;obtain⟨b',M,N,e,-,v,w⟩:=h.get (i:=j) (x:=(y:Int)) (by rw[Y',u];rfl);injection e with e;injection e with e1 e2 e3;subst e1;subst e2;obtain⟨rfl,-⟩:=w;have:=v.one;rw[show(E7 .u8).size=1 from rfl,Nat.mul_one]at this;exact this}
structure Pre(g:Gr)(a:Nd)(lf:Nd->Option Nat)(L r:Nat)(w:List Nat)(P:Nd->Prop):Prop where
 len:w.length+r=L
 fst:∀v,DJ g P r v->DJ g (·=a) L (w++v)
 all:∀n,P n->lf n=zY r
 ne:∃n,P n
section
variable{g:Gr}{by_:List Nat}{a:Nd}{lf:Nd->Option Nat}{L k b:Nat}{w:List Nat}{P Q:Nd->Prop}
def Pre.start(h:lf a=zY L):Pre g a lf L L [] (·=a):=⟨zZ,λv b=>b,λn c=>by rw[c,h],a,rfl⟩
def Pre.done(h:Pre g a lf L 0 w P)(c:DT g by_ a lf):DJ g (·=a) L w:=by have⟨n,b⟩:=h.ne;obtain⟨-,u,d,-,e⟩:=c.word n 0 (h.all n b);obtain rfl:=List.eq_nil_of_length_eq_zero d;have:=h.fst [] (DJ.nil b e);rwa [yU]at this
def Pre.some(h:Pre g a lf L (k+1) w P)(m:DT g by_ a lf):∃b,b∈by_/\∃t,Eu g P b t/\lf t=zY k:=by have⟨n,r⟩:=h.ne;have e:=h.all n r;have⟨s,u,v,f,o⟩:=m.word n _ e;cases u with|nil=>simp at v|cons b u=>{have⟨t,p,o⟩:=o;have q:=f b xI;have⟨j,y,l⟩:=m.le (s.step q p) (λc x=>f c (yH _ x)) o;have⟨i,z,d⟩:=m.pred t j l n b s q p;rw[e]at d;injection d with d;simp only[b_,Nat.add_right_cancel_iff]at v;have:j=k:=zO;exact⟨b,q,t,⟨n,r,p⟩,this ▸ l⟩}
variable(hby:∀c,c<256->∃r∈by_,r<=c/\∀n,g.next n r=g.next n c)
include hby
def DT.narrow(h:DT g by_ a lf)(q:∀n,P n->lf n=AoW (k+1))(r:b∈by_)(s:∀t,Q t↔Eu g P b t/\lf t=AoW k){v:List Nat}(y:DJ g Q k v):DJ g (Eu g P b) k v:=by obtain⟨z,A,⟨n,B,o⟩,C⟩:=y;refine⟨z,A,⟨n,((s n).1 B).1,o⟩,λu D d p=>?_⟩;have⟨t,w,o⟩:=p;refine C u D d ⟨t,(s t).2 ⟨w,?_⟩,o⟩;have⟨m,x,e⟩:=w;have f:=(h.word m _ (q m x)).1;have⟨j,E,l⟩:=h.bytes hby (f.step r e) d o;have⟨i,F,c⟩:=h.pred t j l m b f r e;rw[q m x]at c;injection c with c;have:j=k:=zO;exact this ▸ l
def Pre.step(h:Pre g a lf L (k+1) w P)(z:DT g by_ a lf)(d:∀b∈by_,b<256)(hs:by_.Pairwise (·<=·)){j:Nat}(f:by_[j]?=AoW b)(A:∀t,Q t↔Eu g P b t/\lf t=AoW k)(o:∃t,Q t)(p:∀c∈by_.take j,∀t,¬(Eu g P c t/\lf t=AoW k)):Pre g a lf L k (w++[b]) Q:=by have q:=d_ f;refine⟨by rw[O_,c_];have:=h.len;omega,λv C=>?_,λn D=>((A n).1 D).2,o⟩;have E:=DJ.cons (d b q) (z.narrow hby h.all q A C) λc M u F s l=>by{have⟨r,B,G,x⟩:=hby c (by have:=d b q;omega);have e:Eu g P c=Eu g P r:=by{funext t;unfold Eu;simp only[x]};rw[e]at l;have⟨t,H,I⟩:=(z.fwd hby d h.all B).1 ⟨u,F,s,l⟩;refine p r ?_ t ⟨H,I⟩;have⟨i,y⟩:=xB B;have⟨p1,p2⟩:=T_.1 y;have⟨J,K⟩:=T_.1 f;by_cases m:i<j;{exact d_ (i:=i) (by rw[List.getElem?_take,J_ m];exact y)};exfalso;rcases Nat.lt_or_eq_of_le (Nat.not_lt.1 m)with h | h;{have:=xU.1 hs j i J p1 h;rw[p2,K]at this;omega};subst h;rw[y]at f;injection f with f;omega};have:=h.fst _ E;rwa [List.append_cons]at this
end
def Ff(lf:Nd->Option Nat):Nd->Option v_:=λn=>(lf n).map fun(k:Nat)=>Value.int .i64 (k:Int)
def Va(lf:Nd->Option Nat)(p:Nd)(k:Nat):put (Ff lf) p (zY (.int .i64 (k:Int)))=Ff λm=>if m=p then zY k else lf m:=by funext m;by_cases h:m=p;{subst h;rw[D8];simp[Ff]};rw[GA h];simp[Ff,h]
def ZI(todo:List Nd)(p:Nd):put (Ff λn=>if n∈todo then zY 0 else zV) p (zY (.int .i64 0))=Ff λn=>if n∈todo++[p]then zY 0 else zV:=by have:=Va (λn=>if n∈todo then zY 0 else zV) p 0;refine Eq.trans this ?_;congr 1;funext m;by_cases h:m=p;{subst h;simp};simp[h]
def L5(q:Nd->Bool):Nd->Option v_:=λn=>if q n then zY (.int .i64 1)else zV
def UZ(q:Nd->Bool)(p:Nd):put (L5 q) p (zY (.int .i64 1))=L5 λm=>zT (m=p)|| q m:=by funext m;by_cases h:m=p;{subst h;rw[D8];unfold L5;simp};rw[GA h];unfold L5;simp[h]
def R8{q:Nd->Bool}:(L5 q n).isSome=zW↔q n=zW:=by unfold L5;cases h:q n<;>simp
def R7{q:Nd->Bool}:L5 q n=zV↔q n=zU:=by unfold L5;cases h:q n<;>simp
def Pv(g:Gr)(w:List Nat)(ok:Bool):Prop:=(ok=zW->Hf g (·=Ao) w)/\(ok=zU->w=[]/\∀u,Cb u->¬It g (·=Ao) u)
structure Zw(g:Gr)(by_:List Nat)(lf:Nd->Option Nat)(seen:List Nd):Prop where
 nd:seen.Nodup
 mem:∀n,(lf n).isSome=zW↔n∈seen
 le:∀n j,lf n=zY j->j<=seen.length
 rch:∀n∈seen,CC g by_ Ao n
def Zw.push{by_:List Nat}{lf:Nd->Option Nat}{a:List Nd}{p:Nd}{k:Nat}(h:Zw g by_ lf a)(i:lf p=zV)(l:CC g by_ Ao p)(o:lf n=zY k):Zw g by_ (λm=>if m=p then zY (k+1)else lf m) (a++[p]):=by have d:p∉a:=λq=>by{have:=(h.mem p).2 q;rw[i]at this;cases this};refine⟨List.nodup_append.2 ⟨h.nd,zZ,λx r y f=>?_⟩,λm=>?_,λm j c=>?_,λm b=>?_⟩;{rw[V_]at f;subst f;exact λe=>d (e ▸ r)};{by_cases b:m=p;{subst b;simp};rw[I_ b,h.mem];simp[b]};{rw[O_,c_];split at c;{have:=h.le n k o;injection c with c;omega};have:=h.le m j c;omega};rcases k_.1 b with b | b;{exact h.rch m b};rw[V_]at b;subst b;exact l
def Yr{by_:List Nat}{M C:Nat}(hS:∀k,S k->k<H.size)(hg:Mv g by_ M C)(am:∀c,c<256->∃r∈by_,r<=c/\∀n,g.next n r=g.next n c)(bv:by_.Pairwise (·<=·))(A:Sw S H v g by_):
  Ai prog 35 #[v] H λv H'=>D_ (H_ H) H H'/\∃w ok,v= .tuple #[.string (bA w),.bool ok]/\Pv g w ok/\w.length<=M:=by
 have g6:=hg.nb;have fo:=hg.big;have g7:256*M<=C*(256*M):=f_ _ hg.c0;have b8:=AiX hS hg A;obtain⟨pg,ba,bc,f,e,fs,cs,es,ds,rfl,ao,ap,hby,bw,bx⟩:=A;refine Ai.of_vc func35 rfl (call35 _) (Ae.mk b8 ?_);rintro _ H1 ⟨a1,c1,order,mb,m1,xs,rfl,F_,cr,b9,ct⟩;have e6:=hg.card order cr λn hn=>(b9 n).1 hn;refine Mi (Ok:=Nd.Ok) (enc:=ndV) λlb H2 e7 e8 e9 ea=>?_;have eb:=F_.mapNewW e7 e8 e9 ea;have ec:=eb.nils tNd 96;(conv=>whnf);refine A0.mk [7,36] (λx:Nat×List Nd×Option Addr×Nat=>match x with | (i,todo,a,c)=>[.slice a todo.length c,A_ i])
  (λx H3=>x.1<=order.length/\x.2.1=(order.take x.1).filter g.ends/\St H H3 [pS tNd 96 a1 order.length c1 order,vG Nd.Ok ndV tNd 96 mb m1 xs,xN Nd.Ok ndV lb (Ff λn=>if n∈x.2.1 then zY 0 else zV),pS tNd 96 x.2.2.1 x.2.1.length x.2.2.2 x.2.1]) (λx _=>order.length-x.1) ?_ ?_
 ·(conv=>whnf);refine⟨(0,[],zV,0),rfl,zZ,rfl,?_⟩;have e0:(Ff λn=>if n∈([]:List Nd)then zY 0 else zV)=λ_=>zV:=by funext n;simp[Ff]
  simp only[e0];exact ec
 ·rintro⟨i,todo,a4,c4⟩ H4 ed ⟨hi,s,bd⟩;simp only at hi s bd;refine AB.m2 (λhz=>?_) (λhz=>?_)
  ·have⟨n,hn⟩:=Ac (l:=order) (k:=i) zO;have bz:=d_ hn;have a0:=(b9 n).1 bz;have J:(order.take (i+1)).filter g.ends=todo++[n].filter g.ends:=by
    rw[s,Ab hn,vI]
   have ee:todo.length<=i:=by
    rw[s];refine yS (vX _ _) ?_;rw[wI];omega
   refine A7.run (zK (j:=i) Fw bd 0 rfl hn rfl λb5 o5 g8 g9 ef eg=>?_);obtain rfl:=eg;refine L_ (cs:=q_ n) Hi ef zA (Af (ndV Ao) (q_ Ao) DF rfl ?_);intro p5 H5 eh ei ej ek;have c2:=bd.box eh ei ej ek;refine AI (cs:=q_ n) c2 4 rfl rfl (zQ:0+3<=3) rfl λH6 E=>?_;rw[JH]at E;refine Ap.held (H_ H6) 99 (sq [0,1,2,3,4] (.f 5 .e)) rfl zX ?_;have q6:=ap.agr (E.old.mono hS) ao;have r6:=E.blk 4 rfl;refine fa WS ?_;refine C_ (v:=.func (.func e) es.toArray ds.toArray) mK (by rw[q6.cell];rfl) (E.up (hS pg ao)) ?_;refine L_ (cs:=q_ n) Hi (r6.cells λj v A=>by rw[K_];exact A) r6.lt ?_;refine Al (bx H6 (E.old.mono hS) n a0) λH7 ak=>(⟨ak,?_⟩);have a2:=E.call ak;have r7:=a2.blk 4 rfl;cases he:g.ends n with
   | false=>
     have hf:[n].filter g.ends=[]:=vN (by rw[he];decide);rw[hf,yU]at J;(conv=>whnf);rw[R_ i zO];exact⟨rfl,(i+1,todo,a4,c4),zZ,⟨by simp only;omega,J.symm,a2.pick [0,1,2,3] zQ⟩,by simp only;omega⟩
   | true=>
     have hf:[n].filter g.ends=[n]:=wY he;rw[hf]at J;refine L_ (cs:=q_ n) Hi (r7.cells λj v A=>by rw[K_];exact A) zA ?_;refine K3 (a:=n) a2 2 Rk NA (hg.ok n a0) rfl (ZI todo n) λH8 a3=>?_;have r8:=a3.blk 4 rfl;refine L_ (cs:=q_ n) Hi (r8.cells λj v A=>by rw[K_];exact A) zA ?_;refine Aj Fw (q_ n) rfl rfl zQ zQ ?_;intro q9 H9 el ga en eo;have R:=a3.skip el eo;refine GM (ys:=[n]) (ds:=q_ n) R 3 Fw rfl (en.cells λj v A=>by rw[K_];exact A) (Ty.reps_one rfl) rfl (by simp[q_,Value.oneCell']) (by simp only[c_,maxLen];omega) (by simp only[c_];omega) λa' c' H10 o _=>?_;(conv=>whnf);rw[R_ i zO];refine⟨rfl,(i+1,todo++[n],a',c'),zZ,⟨by simp only;omega,J.symm,?_⟩,by simp only;omega⟩;simp only[O_,c_];exact o.pick [0,1,2,3] zQ
  ·obtain rfl:i=order.length:=zO
   rw[M']at s;have hB:=Sr.start (g:=g) (by_:=by_) (a:=Ao) (todo:=todo) (left:=λn=>if n∈todo then zY 0 else zV) (λn=>rfl) (λn=>by rw[s,zP,b9]);have z:Zw g by_ (λn=>if n∈todo then zY 0 else zV) todo:=by
    refine⟨by rw[s];exact cr.filter _,λn=>by by_cases h:n∈todo<;>simp[h],λn j hj=>?_,λn hn=>?_⟩
    ·split at hj
     ·injection hj with hj;omega
     ·cases hj
    ·rw[s,zP]at hn;exact(b9 n).1 hn.1
   generalize (λn=>if n∈todo then zY 0 else zV:Nd->Option Nat)=ep at*;have c2:=bd.toQ 3 rfl;clear s;(conv=>whnf);refine A0.mk [7] (λx:List Nd×Option Addr×Nat×List Nd=>match x with | (todo,a,c,X)=>[.slice a todo.length c])
    (λx H5=>∃lf k,Sr g by_ Ao lf x.1 k/\Zw g by_ lf x.2.2.2/\x.1.length<=x.2.2.2.length/\St H H5 [pS tNd 96 a1 order.length c1 order,vG Nd.Ok ndV tNd 96 mb m1 xs,xN Nd.Ok ndV lb (Ff lf),pQ tNd 96 x.2.1 x.1.length x.2.2.1 x.1]) (λx _=>2*(M-x.2.2.2.length)+x.1.length) ?_ ?_
   ·(conv=>whnf);exact⟨(todo,a4,c4,todo),rfl,ep,0,hB,z,M_ _,c2⟩
   ·rintro⟨todo,a6,c6,X⟩ H6 eu ⟨lf,k0,hB,z,c3,E⟩;simp only at hB z c3 E;have gb:=hg.card X z.nd z.rch;refine AB.m2 (λc5=>?_) (λc5=>?_)
    ·cases todo with
     | nil=>simp at c5
     | cons n todo=>
     have⟨k,be,cu⟩:=hB.take;have a0:=(hB.word n k be).1;have bm:=hg.ok n a0;obtain⟨-,ev⟩:=E.qview 3 rfl;refine U' (i:=0) (x:=n) Fw ev rfl rfl ?_;rintro b7 o7 gc gd ew rfl;refine L_ (cs:=q_ n) Hi ew zA (Af (ndV Ao) (q_ Ao) DF rfl ?_);intro p7 H7 ey c7 ez ak;have a2:=E.box ey c7 ez ak;refine AI (cs:=q_ n) a2 4 rfl rfl (zQ:0+3<=3) rfl λH8 a3=>?_;rw[JH]at a3;refine qZ a3 3 Fw rfl λa9 c9 R=>?_;have r9:=R.blk 4 rfl;obtain⟨ad,cap,cw,-⟩:=R.mqView 1 rfl n;refine L_ (cs:=q_ n) Hi (r9.cells λj v A=>by rw[K_];exact A) zA ?_;refine Xh (S:=λ_=>True) (a:=n) oO NA bm (R.mqMap 1 rfl) zA ?_;have cx:(m1 n).getD (.slice zV 0 0)= .slice ad (xs n).length cap:=cw;rw[cx];simp only[b_]at c3;(conv=>whnf);refine A0.mk [7,65] (λx:Nat×List Nd×Option Addr×Nat×List Nd=>match x with | (j,todo,a,c,X)=>[.slice a todo.length c,A_ j])
      (λx H10=>x.1<=(xs n).length/\∃lf,Ra g by_ Ao lf x.2.1 n k (λp=>p∈(xs n).take x.1)/\Zw g by_ lf x.2.2.2.2/\x.2.1.length+1<=x.2.2.2.2.length/\2*(M-x.2.2.2.2.length)+x.2.1.length<=2*(M-X.length)+todo.length/\
       St H H10 [pS tNd 96 a1 order.length c1 order,vG Nd.Ok ndV tNd 96 mb m1 xs,xN Nd.Ok ndV lb (Ff lf),pQ tNd 96 x.2.2.1 x.2.1.length x.2.2.2.1 x.2.1,pB 96 p7 (q_ n)]) (λx _=>(xs n).length-x.1) ?_ ?_
     ·(conv=>whnf);exact⟨(0,todo,a9,c9,X),rfl,zZ,lf,by simpa using cu,z,c3,M_ _,R⟩
     ·rintro⟨j,T,a5,a7,K⟩ H10 bf ⟨hj,G,u,d,aq,ar,o⟩;simp only at hj u d aq ar o;have fp:=hg.card K d.nd d.rch;have⟨gf,fq,bn,cy⟩:=o.mqView 1 rfl n;rw[cw]at bn;injection bn with g1 g2 g3
      subst g1;subst g3;have au:=((o.at_ 1 rfl).2.1 n).len;unfold maxLen at au;refine AB.m2 (λc8=>?_) (λc8=>?_)
      ·have⟨p,hp⟩:=Ac (l:=xs n) (k:=j) zO;have⟨cd,b,hb,f0⟩:=(ct n p).1 (d_ hp);have bo:=hg.ok p cd;have aw:∀x,x∈(xs n).take (j+1)↔x∈(xs n).take j\/x=p:=λx=>by
        rw[Ab hp,k_,V_]
       refine A7.run (U' (i:=j) Fw cy hp rfl ?_);rintro gg gh fu fw cz rfl;refine L_ (cs:=q_ p) Hi cz zA (Af (ndV Ao) (q_ Ao) DF rfl ?_);intro gi H11 d0 d3 d4 d5;have N:=o.box d0 d3 d4 d5;refine AI (cs:=q_ p) N 5 rfl rfl (zQ:0+3<=3) rfl λH12 y=>?_;rw[JH]at y;have ce:=y.blk 5 rfl;have d6:=y.blk 4 rfl;refine L_ (cs:=q_ p) Hi (ce.cells λj v A=>by rw[K_];exact A) zA ?_;refine IM (S:=λ_=>True) (a:=p) Rk NA bo (y.mapW 2 rfl) zA ?_;cases ax:G p with
       | some l=>
         rw[show Ff G p=zY (.int .i64 (l:Int)) by simp[Ff,ax]];(conv=>whnf);rw[R_ j zO];have cg:=u.skip (p:=p) (by rw[ax];rfl);refine⟨rfl,(j+1,T,a5,a7,K),zZ,⟨by simp only;omega,G,?_,d,aq,ar,y.pick [0,1,2,3,4] zQ⟩,by simp only;omega⟩;simp only[aw];exact cg
       | none=>
         rw[show Ff G p=zV by simp[Ff,ax]];have a8:=u.here;have fx:=d.le n k a8;refine Ap.held (H_ H12) 6 (sq [0,1,2,3,4,5] (.f 6 .e)) rfl zX ?_;refine L_ (cs:=q_ p) Hi (ce.cells λj v A=>by rw[K_];exact A) ce.lt ?_;refine L_ (cs:=q_ n) Hi (d6.cells λj v A=>by rw[K_];exact A) d6.lt ?_;refine Xh (a:=n) Rk NA bm (y.mapW 2 rfl) (y.in_ 2 rfl rfl).2 ?_;rw[show(Ff G n).getD (.int .i64 0)= .int .i64 (k:Int) by simp[Ff,a8]];(conv=>whnf);rw[R_ k zO];refine K3 (a:=p) y 2 Rk NA bo rfl (Va G p (k+1)) λH13 ag=>?_;have O:=d.push ax cd a8;have d7:=hg.card _ O.nd O.rch;have ch:=u.push (left':=λm=>if m=p then zY (k+1)else G m) ax cd hb f0 λm=>rfl;rw[O_,c_]at d7;have f1:=ag.blk 5 rfl;refine L_ (cs:=q_ p) Hi (f1.cells λj v A=>by rw[K_];exact A) zA ?_;refine Aj Fw (q_ p) rfl rfl zQ zQ ?_;intro gj H14 d8 fy d9 da;have Y:=ag.skip d8 da;refine qW (ys:=[p]) (ds:=q_ p) Y 3 Fw rfl (d9.cells λj v A=>by rw[K_];exact A) (Ty.reps_one rfl) rfl (by simp[q_,Value.oneCell']) (by simp only[c_,maxLen];omega) (by simp only[c_];omega) λa' c' H15 I _=>?_;(conv=>whnf);rw[R_ j zO];refine⟨rfl,(j+1,T++[p],a',c',K++[p]),zZ,⟨by simp only;omega,_,?_,O,by simp;omega,by simp;omega,?_⟩,by simp only;omega⟩
         ·simp only[aw];exact ch
         ·simp only[O_,c_];exact I.pick [0,1,2,3,4] zQ
      ·obtain rfl:j=(xs n).length:=zO
       rw[M']at u;have db:=u.end_ λp b V W h3=>(ct n p).2 ⟨V,b,W,h3⟩;(conv=>whnf);exact⟨rfl,(T,a5,a7,K),rfl,⟨G,k,db,d,by simp only;omega,o.pick [0,1,2,3] zQ⟩,by simp only[b_];omega⟩
    ·obtain rfl:todo=[]:=by
      cases todo with
      | nil=>rfl
      | cons x l=>simp at c5
     have hD:=hB.end_;refine Au underlying96 rfl (ndV Ao) DF (q_ Ao) rfl (IM (S:=λ_=>True) (a:=Ao) Rk NA Ua (E.mapW 2 rfl) zA ?_);cases F:lf Ao with
     | none=>
       rw[show Ff lf Ao=zV by simp[Ff,F]];(conv=>whnf);exact⟨E.old,[],zU,rfl,⟨λh=>(by cases h),λ_=>⟨rfl,hD.none am F⟩⟩,p_ _⟩
     | some L=>
     rw[show Ff lf Ao=zY (.int .i64 (L:Int)) by simp[Ff,F]];have hL:=z.le Ao L F;refine Mi (Ok:=Nd.Ok) (enc:=ndV) λf2 H7 dc c7 f3 ak=>?_;have a2:=E.mapNewW dc c7 f3 ak;refine Au underlying96 rfl (ndV Ao) DF (q_ Ao) rfl (K3 (a:=Ao) a2 4 Rk NA Ua rfl (UZ (λ_=>zU) Ao) λH8 a3=>?_);have R:=(a3.pick [2,4] zQ).nils (E7 .u8) 5;obtain⟨q0,de⟩:∃q:Nd->Bool,q=λm=>zT (m=Ao)|| false:=⟨_,rfl⟩
     rw[<-de]at R;have cj:Pre g Ao lf L L [] (λn=>q0 n=zW):=by
      have:=Pre.start (g:=g) (a:=Ao) (lf:=lf) F;rw[de];simpa using this
     (conv=>whnf);rw[W_ (x:=(L:Int)-1) zO];(conv=>whnf);refine A0.mk [17,18,19] (λx:Nat×List Nat×Option Addr×Nat×Nat×(Nd->Bool)=>match x with | (r,w,a,c,nb,q)=>[.map (zY nb),.slice a w.length c,A_ ((r:Int)-1)])
      (λx H9=>Pre g Ao lf L x.1 x.2.1 (λn=>x.2.2.2.2.2 n=zW)/\St H H9 [xN Nd.Ok ndV lb (Ff lf),xN Nd.Ok ndV x.2.2.2.2.1 (L5 x.2.2.2.2.2),pS (E7 .u8) 5 x.2.2.1 x.2.1.length x.2.2.2.1 (x.2.1.map fun(b:Nat)=>(b:Int))]) (λx _=>x.1) ?_ ?_
     ·(conv=>whnf);exact⟨(L,[],zV,0,f2,q0),rfl,cj,R⟩
     ·rintro⟨r,w,a5,a7,ah,Z⟩ H10 bf ⟨P,o⟩;simp only at P o;have gk:=P.len;refine AB.m2 (λc8=>?_) (λc8=>?_)
      ·obtain⟨k,rfl⟩:∃k,r=k+1:=⟨r-1,zO⟩;rw[show((k+1:Nat):Int)-1=(k:Int) by omega];(conv=>whnf);refine A7.cut [17,18] (λx:List Nat×Option Addr×Nat×Nat×(Nd->Bool)=>match x with | (w,a,c,nb,q)=>[.map (zY nb),.slice a w.length c])
        (λx H11=>Pre g Ao lf L k x.1 (λn=>x.2.2.2.2 n=zW)/\St H H11 [xN Nd.Ok ndV lb (Ff lf),xN Nd.Ok ndV x.2.2.2.1 (L5 x.2.2.2.2),pS (E7 .u8) 5 x.2.1 x.1.length x.2.2.1 (x.1.map fun(b:Nat)=>(b:Int))]) ?_ ?_
       ·have df:=ap.agr (o.old.mono hS) ao;refine fa jR ?_;refine C_ (v:=.slice ba by_.length bc) qY (by rw[df.cell];rfl) zA ?_;(conv=>whnf);refine A0.mk [17,18,110] (λj:Nat=>[.map (zY ah),.slice a5 w.length a7,A_ j])
         (λj H11=>j<=by_.length/\(∀c∈by_.take j,∀t,¬(Eu g (λn=>Z n=zW) c t/\lf t=zY k))/\St H H11 [xN Nd.Ok ndV lb (Ff lf),xN Nd.Ok ndV ah (L5 Z),pS (E7 .u8) 5 a5 w.length a7 (w.map fun(b:Nat)=>(b:Int))]) (λj _=>by_.length-j) ?_ ?_
        ·(conv=>whnf);exact⟨0,rfl,p_ _,zZ,o⟩
        ·rintro j H11 bg ⟨hj,bh,N⟩;refine AB.m2 (λf4=>?_) (λf4=>?_)
         ·have⟨b,hb⟩:=Ac (l:=by_) (k:=j) zO;have ab:=d_ hb;have f5:=hg.byl b ab;refine DY (i:=j) (x:=(b:Int)) OL (hby.frame (N.old.mono hS)) zZ (by rw[Y',hb];rfl) rfl ?_;rintro gl gm fz g0 dg ⟨rfl,-⟩;refine C_ vZ dg.one zA (Mi (Ok:=Nd.Ok) (enc:=ndV) λtb H12 ck dh di dj=>?_);have y:=N.mapNewW ck dh di dj;refine YO y 1 Rk rfl λrr n0 H13 ag=>?_;(conv=>whnf);refine A0.mk [] (λx:Nat×(Nd->Prop)×Option Nd×(Nd->Bool)=>[])
           (λx H14=>(∀t,x.2.2.2 t=zW↔∃n,x.2.1 n/\Z n=zW/\t∈g.next n b/\lf t=zY k)/\
            St H H14 [xN Nd.Ok ndV lb (Ff lf),tN Nd.Ok ndV ah rr (L5 Z) x.2.1 x.2.2.1 x.1,pS (E7 .u8) 5 a5 w.length a7 (w.map fun(b:Nat)=>(b:Int)),xN Nd.Ok ndV tb (L5 x.2.2.2)]) (λx _=>x.1) ?_ ?_
          ·(conv=>whnf);exact⟨(n0,λ_=>False,zV,λ_=>zU),rfl,zZ,ag⟩
          ·rintro⟨cnt,D,last,qt⟩ H14 e4 ⟨cm,Y⟩;simp only at cm Y;refine jZ Y 1 TD rfl (λdk=>?_) λn f6 H15 ay ae gn U I=>?_
           ·have I:=Y.iterEnd 1 rfl;have hQ:∀t,qt t=zW↔Eu g (λn=>Z n=zW) b t/\lf t=zY k:=λt=>by
             rw[cm];constructor
             ·rintro⟨n,-,V,W,h3⟩;exact⟨⟨n,V,W⟩,h3⟩
             ·rintro⟨⟨n,V,W⟩,h3⟩;exact⟨n,dk n (R8.2 V),V,W,h3⟩
            refine kD (S:=λ_=>True) Rk (I.mapW 3 rfl) zA λc hc=>?_;by_cases bi:∃t,qt t=zW
            ·have dl:c≠0:=λh=>by
              have⟨t,ht⟩:=bi;have:=R7.1 (hc.1 h t);rw[ht]at this;cases this
             have d1:zT ((0:Int)<(c:Int))=zW:=t_;have co:=P.step am hD hg.byl bv hb hQ bi bh;(conv=>whnf);rw[d1];refine Aj OL [.int .u8 (b:Int)] rfl rfl zQ zQ ?_;intro gp H16 dm bp az b0;have b4:=I.skip dm b0;refine GM (ys:=[(b:Int)]) (ds:=[.int .u8 (b:Int)]) b4 2 OL rfl (az.cells λj v A=>by rw[K_];exact A) (Ty.reps_one ⟨rfl,Tu f5⟩) rfl (by simp[Value.oneCell']) (by simp only[c_,e_,maxLen];omega) (by simp only[c_,e_];omega) λa' c' H17 B _=>?_;(conv=>whnf);simp only[e_,c_]at B;refine⟨rfl,(w++[b],a',c',tb,qt),zZ,co,?_⟩;simp only[O_,c_,yV,wF,uQ];exact B.pick [0,3,2] zQ
            ·have dl:c=0:=hc.2 λt=>by
              refine R7.2 ?_;cases h:qt t with
              | false=>rfl
              | true=>exact absurd ⟨t,h⟩ bi
             subst dl;(conv=>whnf);rw[R_ j zO];refine⟨rfl,j+1,rfl,⟨zO,λc hc t ht=>?_,I.pick [0,1,2] zQ⟩,zO⟩;rw[Ab hb,k_,V_]at hc;rcases hc with hc | rfl
             ·exact bh c hc t ht
             ·exact bi ⟨t,(hQ t).2 ht⟩
           ·have cp:Z n=zW:=R8.1 (by rw[ae];rfl);have f7:=P.all n cp;obtain⟨a0,-⟩:=hD.word n _ f7;have dn:f6= .int .i64 1:=by
             unfold L5 at ae;rw[cp,J_ rfl]at ae;injection ae with ae
             exact ae.symm
            subst dn;refine gH (I.iterW 1 rfl) TD ae (Af (ndV Ao) (q_ Ao) DF rfl ?_);intro gq H16 dp bp az b0;have b4:=I.box dp bp az b0;refine AI (cs:=q_ n) b4 4 rfl rfl (zQ:0+3<=3) rfl λH17 B=>?_;rw[JH]at B;have dq:=B.blk 4 rfl;refine Ap.held (H_ H17) 99 (sq [0,1,2,3,4,5,8] (.f 6 (sq [7] .e))) rfl zX ?_;have f8:=ap.agr (B.old.mono hS) ao;refine fa Tk ?_;refine C_ (v:=.func (.func f) fs.toArray cs.toArray) oK (by rw[f8.cell];rfl) (B.up (hS pg ao)) ?_;refine L_ (cs:=q_ n) Hi (dq.cells λj v A=>by rw[K_];exact A) dq.lt ?_;refine Ae.mk (bw H17 (B.old.mono hS) n b a0 ab) ?_;rintro _ H18 ⟨bq,bj⟩;refine⟨bq,?_⟩;obtain⟨f9,fe,rfl,br⟩:=B.got bq bj;have au:=br.max 5 rfl;unfold maxLen at au;have ff:∀t,t∈g.next n b->t.Ok:=λt ht=>hg.ok t (a0.step ab ht)
            have cq:∀t,(∃m,(D m\/m=n)/\Z m=zW/\t∈g.next m b/\lf t=zY k)↔qt t=zW\/(t∈g.next n b/\lf t=zY k):=λt=>by
             rw[cm];constructor
             ·rintro⟨m,V | rfl,W,h3,h4⟩
              ·exact .inl ⟨m,V,W,h3,h4⟩
              ·exact .inr ⟨h3,h4⟩
             ·rintro(⟨m,V,W,h3,h4⟩ | ⟨h3,h4⟩)
              ·exact⟨m,.inl V,W,h3,h4⟩
              ·exact⟨n,.inr rfl,cp,h3,h4⟩
            generalize g.next n b=ls at*
            (conv=>whnf);refine A0.mk [129] (λx:Nat×(Nd->Bool)=>match x with | (j,q)=>[A_ j])
             (λx H19=>x.1<=ls.length/\(∀t,x.2 t=zW↔qt t=zW\/(t∈ls.take x.1/\lf t=zY k))/\
              St H H19 [xN Nd.Ok ndV lb (Ff lf),tN Nd.Ok ndV ah rr (L5 Z) (λx=>D x\/x=n) (zY n) ay,pS (E7 .u8) 5 a5 w.length a7 (w.map fun(b:Nat)=>(b:Int)),xN Nd.Ok ndV tb (L5 x.2),pS tNd 96 f9 ls.length fe ls]) (λx _=>ls.length-x.1) ?_ ?_
            ·(conv=>whnf);exact⟨(0,qt),rfl,zZ,zZ,br.pick [0,1,2,3,5] zQ⟩
            ·rintro⟨l,qu⟩ H19 e5 ⟨hl,b6,ai⟩;simp only at hl b6 ai;refine AB.m2 (λfg=>?_) (λfg=>?_)
             ·have⟨t,ht⟩:=Ac (l:=ls) (k:=l) zO;have bu:=ff t (d_ ht);have aw:∀x,x∈ls.take (l+1)↔x∈ls.take l\/x=t:=λx=>by
               rw[Ab ht,k_,V_]
              refine A7.run (zK (j:=l) Fw ai 4 rfl ht rfl λgr gs g4 g5 dr dt=>?_);obtain rfl:=dt;refine L_ (cs:=q_ t) Hi dr zA (Af (ndV Ao) (q_ Ao) DF rfl ?_);intro gt H20 du dv dw dx;have dy:=ai.box du dv dw dx;refine AI (cs:=q_ t) dy 5 rfl rfl (zQ:0+3<=3) rfl λH21 Q=>?_;rw[JH]at Q;have dz:=Q.blk 5 rfl;refine L_ (cs:=q_ t) Hi (dz.cells λj v A=>by rw[K_];exact A) zA ?_;refine IM (S:=λ_=>True) (a:=t) Rk NA bu (Q.mapW 0 rfl) zA ?_;have skip:lf t≠zY k->∀t',qu t'=zW↔qt t'=zW\/(t'∈ls.take (l+1)/\lf t'=zY k):=λU t'=>by
               rw[b6,aw];constructor
               ·rintro(h | ⟨V,W⟩)
                ·exact .inl h
                ·exact .inr ⟨.inl V,W⟩
               ·rintro(h | ⟨V | rfl,W⟩)
                ·exact .inl h
                ·exact .inr ⟨V,W⟩
                ·exact absurd W U
              cases U:lf t with
              | none=>
                rw[show Ff lf t=zV by simp[Ff,U]];(conv=>whnf);rw[R_ l zO];exact⟨rfl,(l+1,qu),rfl,⟨by simp only;omega,skip (by rw[U];simp),Q.pick [0,1,2,3,4] zQ⟩,by simp only;omega⟩
              | some l'=>
                rw[show Ff lf t=zY (.int .i64 (l':Int)) by simp[Ff,U]];by_cases be:l'=k
                ·subst be;have d2:((l':Int)==(l':Int))=zW:=beq_self_eq_true _;(conv=>whnf);rw[d2];refine L_ (cs:=q_ t) Hi (dz.cells λj v A=>by rw[K_];exact A) zA ?_;refine K3 (a:=t) Q 3 Rk NA bu rfl (UZ qu t) λH22 e1=>?_;(conv=>whnf);rw[R_ l zO];refine⟨rfl,(l+1,λm=>zT (m=t)|| qu m),rfl,⟨by simp only;omega,λt'=>?_,e1.pick [0,1,2,3,4] zQ⟩,by simp only;omega⟩;simp only[Bool.or_eq_true,z'];rw[b6,aw];constructor
                 ·rintro(rfl | h | ⟨V,W⟩)
                  ·exact .inr ⟨.inr rfl,U⟩
                  ·exact .inl h
                  ·exact .inr ⟨.inl V,W⟩
                 ·rintro(h | ⟨V | rfl,W⟩)
                  ·exact .inr (.inl h)
                  ·exact .inr (.inr ⟨V,W⟩)
                  ·exact .inl rfl
                ·have d2:((l':Int)==(k:Int))=zU:=beq_eq_false_iff_ne.2 zO;(conv=>whnf);rw[d2];(conv=>whnf);rw[R_ l zO];exact⟨rfl,(l+1,qu),rfl,⟨by simp only;omega,skip (by rw[U];intro h;injection h with h;exact be h),Q.pick [0,1,2,3,4] zQ⟩,by simp only;omega⟩
             ·obtain rfl:l=ls.length:=zO
              rw[M']at b6;(conv=>whnf);refine⟨rfl,(ay,λx=>D x\/x=n,zY n,qu),rfl,⟨λt=>?_,ai.pick [0,1,2,3] zQ⟩,U⟩;rw[cq,b6]
         ·obtain rfl:j=by_.length:=zO
          rw[M']at bh;have⟨b,hb,t,ht⟩:=P.some hD;exact absurd ht (bh b hb t)
       ·rintro⟨fh,fj,fk,e3,fm⟩ H11 bg ⟨aj,N⟩;simp only at aj N;(conv=>whnf);rw[W_ (x:=(k:Int)-1) zO];exact⟨rfl,(k,fh,fj,fk,e3,fm),rfl,⟨aj,N⟩,by simp only;omega⟩
      ·obtain rfl:r=0:=zO
       refine AjS w o 2 rfl rfl rfl rfl ?_;(conv=>whnf);exact⟨o.old,w,zW,rfl,⟨λ_=>hD.first am F (P.done hD),λh=>(by cases h)⟩,zO⟩
section
attribute [local irreducible] Bs AE Ak
def Xl:∀(n:Nat) (l:List Nat),l.Nodup->(∀x∈l,x<n)->l.length<=n
 | 0,l,_,h=>by
   cases l with
   | nil=>exact M_ _
   | cons x l=>exact absurd (h x xI) (Nat.not_lt_zero _)
 | n+1,l,hd,h=>by
   have i:=Xl n (l.filter λx=>zT (x<n)) (hd.filter _) (λx b=>by simpa using(zP.1 b).2);have j:(l.filter λx=> !zT (x<n)).length<=1:=by
    have a:(l.filter λx=> !zT (x<n)).Nodup:=hd.filter _;have c:∀x∈l.filter (λx=> !zT (x<n)),x=n:=λx b=>by
     have⟨d,e⟩:=zP.1 b;have:=h x d;simp at e;omega
    generalize l.filter (λx=> !zT (x<n))=m at a c
    match m,a,c with
    | [],_,_=>simp
    | [_],_,_=>simp
    | x::y::r,a,c=>
      have f:=c x zZ;have e2:=c y zZ;rw[f,e2]at a;simp at a
   have g:∀m:List Nat,(m.filter λx=>zT (x<n)).length+(m.filter λx=> !zT (x<n)).length=m.length:=λm=>by
    induction m with
    | nil=>rfl
    | cons x m k=>by_cases b:x<n<;>simp[List.filter_cons,b]<;>omega
   have:=g l;omega
def YZ{α:Type}{f:α->Nat}{l:List α}(a:l.Nodup)(b:∀x∈l,∀y∈l,f x=f y->x=y):(l.map f).Nodup:=by unfold List.Nodup;rw[List.pairwise_map];exact(List.Pairwise.and_mem.1 a).imp fun{x y} ⟨c,d,g⟩ e=>g (b x c y d e)
def inA(o:Option AM)(q:Int):Prop:=0<=q/\q<stN o
structure Cs(o:Option AM):Prop where
 n1:1<=stN o
 n2:stN o<=65536
 step:∀q b,inA o q->b<256->inA o (Am o q b)
def Cs.zero(h:Cs o):inA o 0:=⟨tY _,by have:=h.n1;omega⟩
def dU(h:Bm S H v o)(c:q<stN o)(e:b<256):0<=Am o (q:Int) b/\Am o (q:Int) b<stN o:=by cases o with|none=>have:q=0:=by{simp only[stN]at c;omega};subst this;decide+revert|some A=>obtain⟨pb,rfl,d,a,_⟩:=h;exact Wd a zO (by simp only[stN]at c;omega) e
def Bm.steps(h:Bm S H v o):Cs o:=⟨(iN h).1,(iN h).2,λq b a c=>by
   obtain⟨n,rfl⟩:=xR a.1;exact dU h (by have:=a.2;omega) c⟩
def AfJ{g:List Nat}(h:Fi o g){r:Nat}(i:r<256)(b:c<256)(hs:∀s∈A8 o,s.getLsbD r=s.getLsbD c)(q:Int):Am o q r=Am o q c:=by by_cases d:q<0\/(stN o:Int)<=q;{unfold Am;rw[J_ d,J_ d]};obtain⟨k,s,a,e,-⟩:=h.part c b;obtain⟨l,f,-⟩:=h.least k s a;have j:=(h.keeps k s l c a f b e).2 q zO zO;have e2:=(h.keeps k s l r a f i (by rw[hs s (d_ a)];exact e)).2 q zO zO;rw[j,e2]
def YB{by_:List Nat}{M C:Nat}(R:Nd->Prop)(f:Nd->Nat)(u:R Ao)(c:∀n b t,R n->b<256->t∈g.next n b->R t)(j:∀n,R n->n.Ok)(v:∀n,R n->f n<M)(w:∀n m,R n->R m->f n=f m->n=m)(d:∀n b,(g.next n b).length<=C) (c0:1<=C) (k:C*(256*M)<=5864062014805) (s:∀b∈by_,b<256) (o:by_.length<=256):Mv g by_ M C:=by have i:∀n,CC g by_ Ao n->R n:=λn h=>by{induction h with|refl=>exact u|step E p z A=>exact c _ _ _ A (s _ p) z};refine⟨s,o,λn q=>j n (i n q),λl B a=>?_,λn b t _ _=>yS List.count_le_length (d n b),c0,k⟩;rw[<-e_ (f:=f)];refine Xl M _ (YZ B λx r y D e=>w x y (i x (a x r)) (i y (a y D)) e) λx r=>?_;obtain⟨n,q,rfl⟩:=yD.1 r;exact v n (i n (a n q))
structure InR(K:Nat)(n:Nd):Prop where
 s0:0<=n.s
 s1:n.s<=K
 x0:0<=n.x
 x1:n.x<65536
 y0:0<=n.y
 y1:n.y<65536
 z:n.s=0->n.y=0
def PL(n:Nd):Nat:=if n.s=0 then n.x.toNat else 65536+(n.s.toNat-1)*4294967296+n.x.toNat*65536+n.y.toNat
def InR.ok{K:Nat}(a:K<=2)(h:InR K n):n.Ok:=by have⟨b,c,d,e,f,g,i⟩:=h;refine⟨?_,?_,?_⟩<;>unfold inK<;>simp only[IntKind.min,IntKind.max,IntKind.signed,IntKind.bits]<;>constructor<;>simp<;>omega
def XY{K:Nat}(h:InR K n):PL n<65536+K*4294967296:=by have⟨a,b,c,d,e,f,g⟩:=h;unfold PL;split;{omega};have:(n.s.toNat-1)+1<=K:=zO;have:=wO 4294967296 this;omega
def UP{K:Nat}{m:Nd}(h:InR K n)(k:InR K m)(e:PL n=PL m):n=m:=by obtain⟨j,l,o,p,q,r,b⟩:=h;obtain⟨t,u,v,w,z,A,c⟩:=k;obtain⟨s,x,y⟩:=n;obtain⟨d,f,g⟩:=m;simp only at*;unfold PL at e;simp only at e;have a:s=d/\x=f/\y=g:=by{split at e<;>split at e;{rename_i i e2;exact⟨zO,zO,by rw[b i,c e2]⟩};{omega};{omega};refine⟨zO,zO,zO⟩};obtain⟨rfl,rfl,rfl⟩:=a;rfl
def Rc(a b:Option AM)(n:Nd):Prop:=(n.s=0/\inA a n.x/\n.y=0)\/(n.s=1/\inA b n.x/\inA a n.y)\/(n.s=2/\inA b n.x/\inA b n.y)
section
variable{b:Option AM}
def Rc.inR(g:Cs a)(i:Cs b)(h:Rc a b n):InR 2 n:=by have:=g.n2;have:=i.n2;rcases h with⟨c,⟨d,e⟩,f⟩ | ⟨c,⟨d,e⟩,f,j⟩ | ⟨c,⟨d,e⟩,f,j⟩<;>constructor<;>omega
def UL(j:Cs a)(e:Cs b):∀n c t,Rc a b n->c<256->t∈(Iy a b).next n c->Rc a b t:=by rintro⟨s,x,y⟩ c t h d k;rcases h with⟨i,f,g⟩ | ⟨i,f,g⟩ | ⟨i,f,g⟩<;>simp only at i f g<;>subst i;{subst g;rcases KU.1 k with rfl | ⟨-,rfl⟩;{exact .inl ⟨rfl,j.step _ _ f d,rfl⟩};exact .inr (.inl ⟨rfl,e.step _ _ e.zero d,j.step _ _ f d⟩)};{rcases KV.1 k with rfl | ⟨-,rfl⟩;{exact .inr (.inl ⟨rfl,e.step _ _ f d,j.step _ _ g d⟩)};exact .inr (.inr ⟨rfl,e.step _ _ f d,e.step _ _ e.zero d⟩)};obtain rfl:=Nz.1 k;exact .inr (.inr ⟨rfl,e.step _ _ f d,e.step _ _ g d⟩)
def AgR(n:Nd)(c:Nat):((Iy a b).next n c).length<=2:=by show(CM a b n c).length<=2;unfold CM;split;{split<;>simp};split;{split<;>simp};simp
def AgQ{r:Nat}(d:∀q,Am a q r=Am a q c)(e:∀q,Am b q r=Am b q c):(Iy a b).next n r=(Iy a b).next n c:=by show CM a b n r=CM a b n c;unfold CM;simp only[d,e]
def AlF(c:Cs a)(d:Cs b){by_:List Nat}(f:∀b∈by_,b<256)(g:by_.length<=256):Mv (Iy a b) by_ (65536+2*4294967296) 2:=YB (Rc a b) PL (.inl ⟨rfl,c.zero,rfl⟩) (UL c d) (λn h=>(h.inR c d).ok zQ) (λn h=>XY (h.inR c d)) (λn m h k e=>UP (h.inR c d) (k.inR c d) e) AgR zQ zQ f g
end
def Uw(a:Option AM)(n:Nd):Prop:=(n.s=0/\inA a n.x/\n.y=0)\/(n.s=1/\inA a n.x/\inA a n.y)
def Uw.inR(b:Cs a)(h:Uw a n):InR 1 n:=by have:=b.n2;rcases h with⟨c,⟨d,e⟩,f⟩ | ⟨c,⟨d,e⟩,f,g⟩<;>constructor<;>omega
def V0(b:Cs a){q t:Int}(e:inA a q)(d:c<256)(h:t∈Ea a q c):inA a t:=by rcases Lj.1 h with rfl | ⟨-,rfl⟩;{exact b.step _ _ e d};exact b.step _ _ b.zero d
def ZS(b:Cs a):∀n c t,Uw a n->c<256->t∈(Ie a).next n c->Uw a t:=by rintro⟨s,x,y⟩ c t h d i;rcases h with⟨g,e,f⟩ | ⟨g,e,f⟩<;>simp only at g e f<;>subst g;{subst f;rcases Jz.1 i with rfl | ⟨-,rfl⟩;{exact .inl ⟨rfl,b.step _ _ e d,rfl⟩};exact .inr ⟨rfl,b.step _ _ b.zero d,b.step _ _ e d⟩};obtain⟨p,j,q,k,rfl⟩:=Me.1 i;exact .inr ⟨rfl,V0 b e d j,V0 b f d k⟩
def Lk(q:Int)(c:Nat):(Ea a q c).length<=2:=by unfold Ea;split<;>simp
def aH(n:Nd)(c:Nat):((Ie a).next n c).length<=4:=by show(CH a n c).length<=4;unfold CH;split;{split<;>simp};have d:=Lk (a:=a) n.y c;have b:=Lk (a:=a) n.x c;rw[List.length_flatMap];simp only[e_];generalize Ea a n.y c=ys at*;generalize Ea a n.x c=xs at*;match xs,b with|[],_=>simp|[_],_=>simp;omega|[_,_],_=>simp;omega
def aG{r:Nat}(b:∀q,Am a q r=Am a q c):(Ie a).next n r=(Ie a).next n c:=by show CH a n r=CH a n c;unfold CH Ea;simp only[b]
def AhY(c:Cs a){by_:List Nat}(d:∀b∈by_,b<256)(f:by_.length<=256):Mv (Ie a) by_ (65536+1*4294967296) 4:=YB (Uw a) PL (.inl ⟨rfl,c.zero,rfl⟩) (ZS c) (λn h=>(h.inR c).ok zQ) (λn h=>XY (h.inR c)) (λn m h k e=>UP (h.inR c) (k.inR c) e) aH zQ zQ d f
def RY{os:List (Option AM)}(i:∀o∈os,∃e,Fi o e){sets:List (BitVec 256)}(hs:∀o∈os,∀s∈A8 o,s∈sets):∀c,c<256->∃r∈CY sets,r<=c/\∀o∈os,∀q,Am o q r=Am o q c:=λc a=>by
 have⟨r,f,d,b⟩:=AeZ sets a;refine⟨r,f,d,λo g q=>?_⟩;have⟨e,h⟩:=i o g;exact AfJ h (TX sets r f) a (λs h=>b s (hs o g s h)) q
def Sa(sets:List (BitVec 256)):(CY sets).length<=256:=by have:=reps_len sets;unfold CY;rw[e_];exact this
def KT(w:List Nat):(bA w).size=w.length:=by unfold bA;simp[ByteArray.size]
def OO(w:List Nat):(bA w).data.toList=w.map UInt8.ofNat:=by unfold bA;simp
def jH(w:List Nat)(i j:Nat):(bA w).extract i j=bA ((w.take j).drop i):=by apply QS;rw[ByteArray.data_extract,Array.toList_extract,OO,OO,List.extract_eq_take_drop,List.map_drop,List.map_take,List.drop_take]
def AgL(w:List Nat)(i:Nat):(bA w).extract 0 i=bA (w.take i):=by rw[jH];rfl
def AgK(w:List Nat)(i:Nat):(bA w).extract i (bA w).size=bA (w.drop i):=by rw[jH,KT,M']
def jE(h:Cb w):DU o (bA w)=qU o w:=by unfold DU qU VM NK;rw[KT,OO,List.take_of_length_le zZ,List.foldl_map];congr 1;have:∀(w:List Nat) (q:Int),Cb w->w.foldl (λq b=>Am o q (UInt8.ofNat b).toNat) q=w.foldl (λq b=>Am o q b) q:=λw=>by{induction w with|nil=>intro q _;rfl|cons c w f=>intro q a;have i:=a c xI;have e:(UInt8.ofNat c).toNat=c:=by{simp;omega};rw[wW,wW,e];exact f _ λd g=>a d (yH _ g)};exact this w 0 h
def W9(h:Cb w)(i:Nat):Cb (w.take i):=λb a=>h b (List.mem_of_mem_take a)
def W8(h:Cb w)(i:Nat):Cb (w.drop i):=λb a=>h b (List.mem_of_mem_drop a)
def rA(s:ByteArray):List Nat:=s.data.toList.map UInt8.toNat
def Sp(s:ByteArray):Cb (rA s):=λb a=>by
 obtain⟨x,-,rfl⟩:=yD.1 a;exact UInt8.toNat_lt x
def AlA(s:ByteArray):bA (rA s)=s:=by
 apply QS;rw[OO];unfold rA;rw[List.map_map];conv=>rhs;rw[<-List.map_id s.data.toList]
 apply uR;intro x _;simp
def Ev(a b:Option AM)(s:ByteArray)(i:Nat):Bool:=DU a (s.extract 0 i)&&DU b (s.extract i s.size)
def PN{b:Option AM}(h:Cb w)(i:Nat):Ev a b (bA w) i=zW↔Uv a b w 0 i:=by unfold Ev;rw[AgL,AgK,jE (W9 h i),jE (W8 h i),X'];rfl
def Pu(a b:Option AM)(t:ByteArray)(i j:Nat)(ok:Bool):Prop:=(ok=zW->∃w,t=bA w/\Hf (Iy a b) (·=Ao) w/\i<j/\j<=w.length/\Ev a b t i=zW/\Ev a b t j=zW/\(∀k,k<i->Ev a b t k=zU)/\∀k,i<k->k<j->Ev a b t k=zU)/\
 (ok=zU->t=⟨#[]⟩/\i=0/\j=0/\∀u,Cb u->¬It (Iy a b) (·=Ao) u)
def PY{l j:Nat}(a:l<=i)(b:l<=j)(c:f i=zW)(d:f j=zW)(e:∀k,l<=k->k<i->f k=zU)(g:∀k,l<=k->k<j->f k=zU):i=j:=by rcases sT i j with h | h | h;{have:=g i a h;rw[c]at this;cases this};{exact h};have:=e j b h;rw[d]at this;cases this
def Pu.uniq{b:Option AM}{g:ByteArray}{m j n:Nat}{ok c:Bool}(h:Pu a b t i j ok)(k:Pu a b g m n c):t=g/\i=m/\j=n/\ok=c:=by cases ok<;>cases c;{obtain⟨rfl,rfl,rfl,-⟩:=h.2 rfl;obtain⟨rfl,rfl,rfl,-⟩:=k.2 rfl;exact⟨rfl,rfl,rfl,rfl⟩};{obtain⟨w,-,d,-⟩:=k.1 rfl;exact absurd d.1.2.2.1 ((h.2 rfl).2.2.2 w d.1.2.1)};{obtain⟨w,-,d,-⟩:=h.1 rfl;exact absurd d.1.2.2.1 ((k.2 rfl).2.2.2 w d.1.2.1)};obtain⟨w,rfl,o,p,D,q,r,s,u⟩:=h.1 rfl;obtain⟨v,rfl,x,y,E,z,A,B,C⟩:=k.1 rfl;obtain rfl:=o.uniq x;obtain rfl:=PY (f:=Ev a b (bA w)) (p_ _) (p_ _) q z (λk _=>s k) (λk _=>B k);obtain rfl:=PY (f:=Ev a b (bA w)) (l:=i+1) p y r A (λk e=>u k e) (λk e=>C k e);exact⟨rfl,rfl,rfl,rfl⟩
def Hf.leads(h:Hf g (·=Ao) w):DK g w Ao:=by obtain⟨n,rfl,a⟩:=h.1.2.2.1;exact a
def Hf.bytes(h:Hf g (·=Ao) w):Cb w:=h.1.2.1
def Qe{l:Nat}(a:l<=i)(h:f i=zW):∃r,l<=r/\r<=i/\f r=zW/\∀k,l<=k->k<r->f k=zU:=by have b:∀d l,i-l=d->l<=i->∃r,l<=r/\r<=i/\f r=zW/\∀k,l<=k->k<r->f k=zU:=λd=>by{induction d with|zero=>intro l j a;obtain rfl:l=i:=zO;exact⟨l,M_ _,M_ _,h,λk e c=>zO⟩|succ d m=>intro l j a;by_cases g:f l=zW;{exact⟨l,M_ _,a,g,λk e c=>zO⟩};have⟨r,e,c,n,o⟩:=m (l+1) zO zO;refine⟨r,zO,c,n,λk s p=>?_⟩;by_cases q:k=l;{subst q;simpa using g};exact o k zO p};exact b _ l rfl a
def AfP{b:Option AM}(g:Cb w)(h:DK (Iy a b) w Ao):∃i j,i<j/\j<=w.length/\Ev a b (bA w) i=zW/\Ev a b (bA w) j=zW/\(∀k,k<i->Ev a b (bA w) k=zU)/\∀k,i<k->k<j->Ev a b (bA w) k=zU:=by have⟨i,j,n,m,o,p⟩:=(M4 a b w).1 h;obtain⟨r,-,v,q,d⟩:=Qe (f:=Ev a b (bA w)) (l:=0) (p_ i) ((PN g i).2 o);have⟨s,hs,t,e,c⟩:=Qe (f:=Ev a b (bA w)) (l:=r+1) (i:=j) zO ((PN g j).2 p);exact⟨r,s,zO,zO,q,e,λk u=>d k (p_ _) u,λk n m=>c k zO m⟩
structure Kb(S:Nat->Prop)(H:Aa)(p:Nat)(o:Option AM):Prop where
 out:∃v,S p/\S_ H p 35 [v]/\Bm S H v o
def Kb.frame{H':Aa}{p:Nat}(h:Kb S H p o)(k:D_ S H H'):Kb S H' p o:=by have⟨v,a,b,c⟩:=h;exact⟨v,a,b.agr k a,c.frame k⟩
def Kb.ld{S':Nat->Prop}{p:Nat}(h:Kb S H p o)(a:∀k,S k->S' k)(k:∀v,Bm S H v o->K v):AH prog (Instr.loadAt 35 (U_ p)) S' H K:=by have⟨v,b,c,d⟩:=h;exact C_ (v:=v) L2 (by rw[c.cell];rfl) (a p b) (k v d)
def oP{p:Nat}(h:S_ H p 96 (q_ n)):YtelngokgpnphfaaGreatDoor.cell H p (0+0)=zY (.int .i64 n.s):=by rw[h.cell];rfl
def NE{p:Nat}(h:S_ H p 96 (q_ n)):YtelngokgpnphfaaGreatDoor.cell H p (0+1)=zY (.int .i64 n.x):=by rw[h.cell];rfl
def Xj{p:Nat}(h:S_ H p 96 (q_ n)):YtelngokgpnphfaaGreatDoor.cell H p (0+2)=zY (.int .i64 n.y):=by rw[h.cell];rfl
def TI(H:Aa)(t:Nd):tNd.reps none_ H (q_ t) [t]:=Ty.reps_one rfl
def TH{H1 H':Aa}{t:Nd}(a:St H H1 ps)(b:q=H1.size)(hs:H'.size=q+1)(c:S_ H' q 96 (q_ t))(d:D_ (λk=>k<q) H1 H'):St H H' (ps++[pS tNd 96 (N_ q) 1 1 [t]]):=a.new (T:=tNd) (n:=1) (xs:=[t]) b hs c d (Ty.reps_one rfl) rfl zQ
section
variable{pa pb:Nat}{b:Option AM}
def AlD(C:∀k,S k->k<H.size)(ha:Kb S H pa a)(Z:Kb S H pb b)(n:Nd)(M:c<256):Ai prog 31 #[ndV n,.int .u8 (c:Int),U_ pa,U_ pb] H λv H'=>D_ (H_ H) H H'/\Z_ tNd none_ H' H.size 96 v (CM a b n c):=by refine Ai.of_vc func31 rfl (call31 _) ?_;have g:∀{H':Aa} {ps:List Pc},St H H' ps->∀k,S k->k<H'.size:=λst k d=>st.up (C k d);refine BI (q_ n) rfl ?_;intro p1 H1 a4 a5 a6 a7;have F_:=(St.nil H).box a4 a5 a6 a7;have L:=F_.blk 0 rfl;refine fa Tl (C_ E_ (oP L) zA ?_);by_cases Q:n.s=0;{have d0:(n.s==0)=zW:=by{rw[Q];rfl};(conv=>whnf);rw[d0];refine(ha.frame (F_.old.mono C)).ld (λ_ _=>trivial) λva D=>(fa FG (C_ E_ (NE L) zA (Al (D5 (g F_) D M) λH2 o=>?_)));have u:=F_.call o;refine Au underlying96 rfl (ndV Ao) DF (q_ ⟨0,Am a n.x c,0⟩) rfl (Aj Fw (q_ ⟨0,Am a n.x c,0⟩) rfl rfl zQ zQ ?_);intro q3 H3 a8 a9 ab w;have z:=TH u a8 a9 ab w;have r3:=z.blk 0 rfl;refine A7.run ((ha.frame (z.old.mono C)).ld (λ_ _=>trivial) λaq a0=>(fa FG (C_ E_ (NE r3) zA (Al (CR a0) λH4 A=>?_))));have l:=z.call A;cases hf:AL a n.x with|false=>(conv=>whnf);refine⟨l.old,?_⟩;have:=St.own l 1 rfl;unfold CM;rw[J_ Q,hf];exact this|true=>have r4:=l.blk 0 rfl;have r:∀k,S k->k<H4.size/\¬Q_ (.slice (N_ q3) 1 1) k:=λk d=>⟨g l k d,λh=>(l.in_ 1 rfl (.inl h)).1 (C k d)⟩;have R:=l.apart (i:=0) (j:=1) zQ rfl rfl;have ae:p1<H4.size/\¬Q_ (.slice (N_ q3) 1 1) p1:=⟨r4.lt,λh=>R p1 rfl (.inl h)⟩;refine Ap.held (λk=>k<H4.size/\¬Q_ (.slice (N_ q3) 1 1) k) 12 (sq [0,1,2,4,5,6,7] (.f 3 (.f 8 (sq [9] (.f 10 (.f 11 (.f 12 .e))))))) rfl zX ((Z.frame (l.old.mono C)).ld r λar a1=>((ha.frame (l.old.mono C)).ld r λag E=>(fa FG (C_ E_ (NE r4) ae (Al (D5 (q:=0) (g l) a1 M) λH5 B=>?_)))));have m:=l.call B;refine⟨B.mono λk d=>d.1,?_⟩;refine Al (D5 (g m) (E.frame (B.mono λk d=>g l k d)) M) λH6 t=>?_;have N:=m.call t;have F:D_ (H_ H4) H4 H6:=B.trans (t.mono λk d=>An B d);refine⟨F.mono λk d=>d.1,?_⟩;refine Au underlying96 rfl (ndV Ao) DF (q_ ⟨1,Am b 0 c,Am a n.x c⟩) rfl (Aj Fw (q_ ⟨1,Am b 0 c,Am a n.x c⟩) rfl rfl zQ zQ ?_);intro q7 H7 ah au ai G;have T:=N.skip ah G;have I:D_ (H_ H4) H4 H7:=F.trans (G.mono λk d=>by have:=An F d;omega);refine⟨I.mono λk d=>d.1,?_⟩;refine GM (ys:=[⟨1,Am b 0 c,Am a n.x c⟩]) (ds:=q_ ⟨1,Am b 0 c,Am a n.x c⟩) T 1 Fw rfl (ai.cells λj v hv=>by rw[K_];exact hv) (TI _ _) rfl (by simp[q_,Value.oneCell']) (by simp only[c_];decide) (by simp only[c_];decide) λa' c' H8 O P=>?_;refine⟨(I.mono λk d=>d.1).trans (P.mono λk d=>⟨An I d.1,d.2⟩),?_⟩;(conv=>whnf);refine⟨O.old,?_⟩;have:=St.own O 1 rfl;unfold CM;rw[J_ Q,hf];exact this};have d0:(n.s==0)=zU:=beq_eq_false_iff_ne.2 Q;(conv=>whnf);rw[d0];by_cases h1:n.s=1;{have d1:(n.s==1)=zW:=by{rw[h1];rfl};(conv=>whnf);rw[d1];refine Ap.held (H_ H1) 12 (sq [0,1,2,3,5,6,7,8] (.f 4 (.f 9 (sq [10] (.f 11 (.f 12 .e)))))) rfl zX ((Z.frame (F_.old.mono C)).ld (g F_) λvb U=>(fa FG (C_ E_ (NE L) L.lt ((ha.frame (F_.old.mono C)).ld (g F_) λva D=>(fa Ma (C_ E_ (Xj L) L.lt (Al (D5 (g F_) U M) λH2 o=>?_)))))));have u:=F_.call o;refine⟨o,?_⟩;refine Al (D5 (g u) (D.frame (o.mono λk d=>g F_ k d)) M) λH3 w=>?_;have z:=u.call w;have p:D_ (H_ H1) H1 H3:=o.trans (w.mono λk d=>An o d);refine⟨p,?_⟩;refine Au underlying96 rfl (ndV Ao) DF (q_ ⟨1,Am b n.x c,Am a n.y c⟩) rfl (Aj Fw (q_ ⟨1,Am b n.x c,Am a n.y c⟩) rfl rfl zQ zQ ?_);intro q4 H4 V W X A;have l:=TH z V W X A;refine⟨p.trans (A.mono λk d=>by have:=An p d;omega),?_⟩;have r4:=l.blk 0 rfl;refine A7.run ((ha.frame (l.old.mono C)).ld (λ_ _=>trivial) λag E=>(fa Ma (C_ E_ (Xj r4) zA (Al (CR E) λH5 B=>?_))));have m:=l.call B;cases hf:AL a n.y with|false=>(conv=>whnf);refine⟨m.old,?_⟩;have:=St.own m 1 rfl;unfold CM;rw[I_ Q,J_ h1,hf];exact this|true=>have r5:=m.blk 0 rfl;have r:∀k,S k->k<H5.size/\¬Q_ (.slice (N_ q4) 1 1) k:=λk d=>⟨g m k d,λh=>(m.in_ 1 rfl (.inl h)).1 (C k d)⟩;have R:=m.apart (i:=0) (j:=1) zQ rfl rfl;have aj:p1<H5.size/\¬Q_ (.slice (N_ q4) 1 1) p1:=⟨r5.lt,λh=>R p1 rfl (.inl h)⟩;refine Ap.held (λk=>k<H5.size/\¬Q_ (.slice (N_ q4) 1 1) k) 12 (sq [0,1,2,3,4,6,7] (.f 5 (.f 8 (sq [9] (.f 10 (.f 11 (.f 12 .e))))))) rfl zX ((Z.frame (m.old.mono C)).ld r λaw a2=>(fa FG (C_ E_ (NE r5) aj ((Z.frame (m.old.mono C)).ld r λap Y=>(Al (D5 (g m) a2 M) λH6 t=>?_)))));have N:=m.call t;refine⟨t.mono λk d=>d.1,?_⟩;refine Al (D5 (q:=0) (g N) (Y.frame (t.mono λk d=>g m k d)) M) λH7 G=>?_;have T:=N.call G;have J:D_ (H_ H5) H5 H7:=t.trans (G.mono λk d=>An t d);refine⟨J.mono λk d=>d.1,?_⟩;refine Au underlying96 rfl (ndV Ao) DF (q_ ⟨2,Am b n.x c,Am b 0 c⟩) rfl (Aj Fw (q_ ⟨2,Am b n.x c,Am b 0 c⟩) rfl rfl zQ zQ ?_);intro q8 H8 ak ax am P;have O:=T.skip ak P;have K:D_ (H_ H5) H5 H8:=J.trans (P.mono λk d=>by have:=An J d;omega);refine⟨K.mono λk d=>d.1,?_⟩;refine GM (ys:=[⟨2,Am b n.x c,Am b 0 c⟩]) (ds:=q_ ⟨2,Am b n.x c,Am b 0 c⟩) O 1 Fw rfl (am.cells λj v hv=>by rw[K_];exact hv) (TI _ _) rfl (by simp[q_,Value.oneCell']) (by simp only[c_];decide) (by simp only[c_];decide) λa' c' H9 a3 ao=>?_;refine⟨(K.mono λk d=>d.1).trans (ao.mono λk d=>⟨An K d.1,d.2⟩),?_⟩;(conv=>whnf);refine⟨a3.old,?_⟩;have:=St.own a3 1 rfl;unfold CM;rw[I_ Q,J_ h1,hf];exact this};have d1:(n.s==1)=zU:=beq_eq_false_iff_ne.2 h1;(conv=>whnf);rw[d1];refine Ap.held (H_ H1) 12 (sq [0,1,2,3,5,6,7,8] (.f 4 (.f 9 (sq [10] (.f 11 (.f 12 .e)))))) rfl zX ((Z.frame (F_.old.mono C)).ld (g F_) λvb U=>(fa FG (C_ E_ (NE L) L.lt ((Z.frame (F_.old.mono C)).ld (g F_) λva D=>(fa Ma (C_ E_ (Xj L) L.lt (Al (D5 (g F_) U M) λH2 o=>?_)))))));have u:=F_.call o;refine⟨o,?_⟩;refine Al (D5 (g u) (D.frame (o.mono λk d=>g F_ k d)) M) λH3 w=>?_;have z:=u.call w;have p:D_ (H_ H1) H1 H3:=o.trans (w.mono λk d=>An o d);refine⟨p,?_⟩;refine Au underlying96 rfl (ndV Ao) DF (q_ ⟨2,Am b n.x c,Am b n.y c⟩) rfl (Aj Fw (q_ ⟨2,Am b n.x c,Am b n.y c⟩) rfl rfl zQ zQ ?_);intro q4 H4 V W X A;have l:=TH z V W X A;refine⟨p.trans (A.mono λk d=>by have:=An p d;omega),?_⟩;(conv=>whnf);refine⟨l.old,?_⟩;have:=St.own l 1 rfl;unfold CM;rw[I_ Q,I_ h1];exact this
def AlE(j:∀k,S k->k<H.size)(D:Kb S H pa a)(o:Kb S H pb b)(n:Nd):BK prog 34 #[ndV n,U_ pb,U_ pa] H (.bool (DL a b n)):=by
 refine Ai.of_vc func34 rfl (call34 _) (BI (q_ n) rfl ?_);intro p1 H1 q r t u;have F_:=(St.nil H).box q r t u;have v:=F_.blk 0 rfl;refine fa Tl (C_ E_ (oP v) zA ?_);by_cases l:n.s=1;{have w:(n.s==1)=zW:=by{rw[l];rfl};have e:DL a b n=(AL b n.x&&AL a n.y&&AL b 0):=by{unfold DL;rw[J_ l]};rw[e];(conv=>whnf);rw[w];refine(o.frame (F_.old.mono j)).ld (λ_ _=>trivial) λvb f=>(fa FG (C_ E_ (NE v) zA (Al (CR f) λH2 g=>?_)));have c:=F_.call g;have z:=c.blk 0 rfl;cases E:AL b n.x with|false=>(conv=>whnf);exact⟨rfl,c.old⟩|true=>{refine(D.frame (c.old.mono j)).ld (λ_ _=>trivial) λva h=>(fa Ma (C_ E_ (Xj z) zA (Al (CR h) λH3 i=>?_)));have d:=c.call i;cases F:AL a n.y with|false=>(conv=>whnf);exact⟨rfl,d.old⟩|true=>refine(o.frame (d.old.mono j)).ld (λ_ _=>trivial) λG m=>(Al (CR m) λH4 A=>?_);have B:=d.call A;(conv=>whnf);exact⟨rfl,B.old⟩}};have w:(n.s==1)=zU:=beq_eq_false_iff_ne.2 l;(conv=>whnf);rw[w];by_cases p:n.s=2;{have C:(n.s==2)=zW:=by{rw[p];rfl};have e:DL a b n=(AL b n.x&&AL b n.y):=by{unfold DL;rw[I_ l,J_ p]};rw[e];(conv=>whnf);rw[C];refine(o.frame (F_.old.mono j)).ld (λ_ _=>trivial) λvb f=>(fa FG (C_ E_ (NE v) zA (Al (CR f) λH2 g=>?_)));have c:=F_.call g;have z:=c.blk 0 rfl;cases E:AL b n.x with|false=>(conv=>whnf);exact⟨rfl,c.old⟩|true=>refine(o.frame (c.old.mono j)).ld (λ_ _=>trivial) λva h=>(fa Ma (C_ E_ (Xj z) zA (Al (CR h) λH3 i=>?_)));have d:=c.call i;(conv=>whnf);exact⟨rfl,d.old⟩};have C:(n.s==2)=zU:=beq_eq_false_iff_ne.2 p;have e:DL a b n=zU:=by unfold DL;rw[I_ l,I_ p]
 rw[e];(conv=>whnf);rw[C];(conv=>whnf);exact⟨rfl,F_.old⟩
end
def hU{va vb:v_}{b:Option AM}{l r:Nat}(j:∀k,S k->k<H.size)(v:Bm S H va a)(w:Bm S H vb b)(C:t.size<=1099511627776)(m:l<=r)(D:r<=t.size)(y:Ev a b t r=zW)(n:∀k,l<=k->k<r->Ev a b t k=zU):BK prog 36 #[va,vb,.string t,A_ l] H (.int .i64 (r:Int)):=by refine Ai.of_vc func36 rfl (call36 _) ?_;(conv=>whnf);refine A0.mk [3] (λk:Nat=>[A_ k]) (λk H1=>l<=k/\k<=r/\St H H1 []) (λk _=>r-k) ?_ ?_;{(conv=>whnf);exact⟨l,rfl,M_ _,m,St.nil H⟩};rintro k H1 s ⟨o,z,F_⟩;have c:Ev a b t k=zT (k=r):=by{by_cases h:k=r;{subst h;rw[y];simp};rw[n k o zO];simp[h]};have g:∀{H':Aa} {ps:List Pc},St H H' ps->∀k,S k->k<H'.size:=λA k o=>A.up (j k o);refine Up Uk zO zO ?_;rw[O'];refine Al (Rt (g F_) (v.frame (F_.old.mono j)) (by simp only[ByteArray.size_extract,maxLen];omega)) λH2 p=>?_;have d:=F_.call p;unfold Ev at c;cases u:DU a (t.extract 0 k)with|false=>rw[u,vP]at c;have B:k≠r:=λe=>by{rw[r_ e]at c;cases c};(conv=>whnf);rw[R_ k zO];exact⟨rfl,k+1,rfl,⟨zO,zO,d⟩,zO⟩|true=>rw[u,vD]at c;refine Uq Uk zO zO ?_;rw[O'];refine Al (Rt (g d) (w.frame (d.old.mono j)) (by simp only[ByteArray.size_extract,maxLen];omega)) λH3 q=>?_;have i:=d.call q;rw[c];by_cases f:k=r;{subst f;rw[r_ rfl];(conv=>whnf);exact⟨rfl,i.old⟩};rw[n_ f];(conv=>whnf);rw[R_ k zO];exact⟨rfl,k+1,rfl,⟨zO,zO,i⟩,zO⟩
def Bm.cells(h:Bm S H v o):v.cells=[v].toArray/\v.oneCell'=zW:=by cases o with|none=>obtain rfl:=h;exact⟨rfl,rfl⟩|some A=>obtain⟨pb,rfl,-⟩:=h;exact⟨rfl,rfl⟩
def YC:(prog.info? 94).bind (·.zero)=zY (.agg #[.slice zV 0 0,.nilFunc,.nilFunc]):=zX
def Lv:(prog.info? 47).bind (·.zero)=zY (.agg #[.string ⟨#[]⟩,A_ 0,A_ 0]):=zX
def yW(t:ByteArray)(i j:Nat):List v_:=[.string t,A_ i,A_ j]
def hC{va vb:v_}{b:Option AM}(q:∀k,S k->k<H.size)(B:Bm S H va a)(C:Bm S H vb b)(J:∃X,Fi a X)(K:∃X,Fi b X):
  Ai prog 9 #[va,vb] H λv H'=>D_ (H_ H) H H'/\∃t i j ok,v= .tuple #[.agg (yW t i j).toArray,.bool ok]/\Pu a b t i j ok/\t.size<=1099511627776:=by
 refine Ai.of_vc func9 rfl (call9 _) ?_;have g:∀{H':Aa} {ps:List Pc},St H H' ps->∀k,S k->k<H'.size:=λst k p=>st.up (q k p);refine BI [va] B.cells.1 ?_;intro p1 H1 Y Z a0 a1;have F_:=(St.nil H).box Y Z a0 a1;refine BI [vb] C.cells.1 ?_;intro p2 H2 a2 a3 a4 a6;have a7:=F_.box a2 a3 a4 a6;refine Af _ (yW ⟨#[]⟩ 0 0) Lv rfl ?_;intro p3 H3 a8 a9 ab ae;have f:=a7.box a8 a9 ab ae;have b7:Kb (H_ H3) H3 p1 a:=⟨va,(f.in_ 0 rfl rfl).2,f.blk 0 rfl,(B.frame (f.old.mono q)).mono (g f)⟩;have b8:Kb (H_ H3) H3 p2 b:=⟨vb,(f.in_ 1 rfl rfl).2,f.blk 1 rfl,(C.frame (f.old.mono q)).mono (g f)⟩;refine lT (v:=va) L2 ((f.blk 0 rfl).ce rfl) ?_;refine lT (v:=vb) L2 ((f.blk 1 rfl).ce rfl) ?_;refine Uo mE [va] [vb] B.cells.1 C.cells.1 rfl rfl zQ zQ ?_;intro q4 H4 ag b9 ah L;have u:=f.skip ag L;have b6:D_ (H_ H3) H3 H4:=L.mono λk p=>by unfold H_ at p;omega
 have ai:Y_ tV (H_ H4) H4 (N_ q4) 2 ([(va,a),(vb,b)].map (·.1)):=Y_.ofBlk ah (zO:q4<H4.size) ⟨[va],[vb],rfl,rfl,Ty.reps_one rfl⟩ rfl zQ;refine Ae.mk (iJ (S:=H_ H4) (os:=[(va,a),(vb,b)]) (λk p=>p) ai zZ (λx W=>?_)) ?_
 ·rcases zM.1 W with rfl | W
  ·exact⟨(B.frame (u.old.mono q)).mono (g u),J⟩
  ·rw[V_]at W;subst W;exact⟨(C.frame (u.old.mono q)).mono (g u),K⟩
 rintro _ H5 ⟨aj,E⟩;obtain⟨a5,c5,rfl,M⟩:=u.got aj E;have y:∀o∈[a,b],∀s∈A8 o,s∈CF [(va,a),(vb,b)]:=λo A s hs=>by
  unfold CF;simp only[vQ,List.flatMap_nil,yU,k_];rcases zM.1 A with rfl | A
  ·exact .inl hs
  ·rw[V_]at A;subst A;exact .inr hs
 have N:=RY (os:=[a,b]) (λo A=>by
  rcases zM.1 A with rfl | A
  ·exact J
  ·rw[V_]at A;subst A;exact K) y
 have O:=TX (CF [(va,a),(vb,b)]);have P:=Sa (CF [(va,a),(vb,b)]);have F:=O0 (CF [(va,a),(vb,b)]);clear y;rw[e_]at M ⊢;generalize CY (CF [(va,a),(vb,b)])=by_ at*;refine Au underlying94 rfl _ YC [.slice a5 by_.length c5,.nilFunc,.nilFunc] rfl (BI [.slice a5 by_.length c5,.nilFunc,.nilFunc] rfl ?_);intro p6 H6 ak am ao ap;have aq:=M.box ak am ao ap;refine fa Tk (Bb aq 4 oK rfl zZ rfl λH7 ar=>(fa WS (Bb ar 4 mK rfl zZ rfl λH8 e=>?_)));have au:Cs a:=B.steps;have aw:Cs b:=C.steps;have hg:=AlF au aw O P;have ax:∀c,c<256->∃r∈by_,r<=c/\∀n,(Iy a b).next n r=(Iy a b).next n c:=λc hc=>by
  have⟨r,hr,ay,D⟩:=N c hc;exact⟨r,hr,ay,λn=>AgQ (D a zZ) (D b zZ)⟩
 have Q:Kb (H_ H8) H8 p1 a:=⟨va,(e.in_ 0 rfl rfl).2,e.blk 0 rfl,(B.frame (e.old.mono q)).mono (g e)⟩;have R:Kb (H_ H8) H8 p2 b:=⟨vb,(e.in_ 1 rfl rfl).2,e.blk 1 rfl,(C.frame (e.old.mono q)).mono (g e)⟩;have az:Sw (H_ H8) H8 (U_ p6) (Iy a b) by_:=⟨p6,a5,c5,31,34,[],[U_ p1,U_ p2],[],[U_ p2,U_ p1],rfl,
  (e.in_ 4 rfl rfl).2,e.blk 4 rfl,e.view 3 rfl,λH' G n c _ hc=>AlD (λk p=>An G p) (Q.frame G) (R.frame G) n (O c hc),λH' G n _=>AlE (λk p=>An G p) (Q.frame G) (R.frame G) n⟩
 refine Ae.mk (Yr (λk p=>p) hg ax F az) ?_;rintro _ H9 ⟨b0,w,ok,rfl,hR,bd⟩;have m:=e.call b0;cases ok with
 | false=>
   obtain⟨rfl,b4⟩:=hR.2 rfl;refine Au underlying47 rfl _ Lv (yW ⟨#[]⟩ 0 0) rfl (AI (cs:=yW ⟨#[]⟩ 0 0) m 2 rfl rfl (zQ:0+3<=3) rfl λH10 d=>?_);rw[show Ah (yW ⟨#[]⟩ 0 0) 0 (yW ⟨#[]⟩ 0 0)=yW ⟨#[]⟩ 0 0 from rfl]at d;refine L_ (cs:=yW ⟨#[]⟩ 0 0) mI ((d.blk 2 rfl).cells λj v hv=>by rw[K_];exact hv) zA ?_;(conv=>whnf);exact⟨d.old,⟨#[]⟩,0,0,zU,rfl,⟨λh=>(by cases h),λ_=>⟨rfl,rfl,rfl,b4⟩⟩,zQ⟩
 | true=>
   have hw:=hR.1 rfl;have⟨i,j,h1,h2,h3,h4,h5,h6⟩:=AfP hw.bytes hw.leads;have I:(bA w).size<=1099511627776:=by rw[KT];omega
   refine lT (v:=va) L2 ((m.blk 0 rfl).ce rfl) ?_;refine lT (v:=vb) L2 ((m.blk 1 rfl).ce rfl) ?_;refine Al (hU (S:=S) (l:=0) (r:=i) (g m) (B.frame (m.old.mono q)) (C.frame (m.old.mono q)) I (p_ _) (by rw[KT];omega) h3 λk _ p=>h5 k p) λH10 T=>?_;have d:=m.call T;refine lT (v:=va) L2 ((d.blk 0 rfl).ce rfl) ?_;refine lT (v:=vb) L2 ((d.blk 1 rfl).ce rfl) ?_;(conv=>whnf);rw[R_ i zO];refine Al (hU (S:=S) (l:=i+1) (r:=j) (g d) (B.frame (d.old.mono q)) (C.frame (d.old.mono q)) I zO (by rw[KT];omega) h4 λk p b5=>h6 k zO b5) λH11 U=>?_;have V:=d.call U;refine Au underlying47 rfl _ Lv (yW (bA w) i j) rfl (AI (cs:=yW (bA w) i j) V 2 rfl rfl (zQ:0+3<=3) rfl λH12 z=>?_);rw[show Ah (yW ⟨#[]⟩ 0 0) 0 (yW (bA w) i j)=yW (bA w) i j from rfl]at z;refine L_ (cs:=yW (bA w) i j) mI ((z.blk 2 rfl).cells λj v hv=>by rw[K_];exact hv) zA ?_;(conv=>whnf);exact⟨z.old,bA w,i,j,zW,rfl,⟨λ_=>⟨w,rfl,hw,h1,h2,h3,h4,h5,h6⟩,λh=>(by cases h)⟩,I⟩
def iv(x:Int):v_:=.int .i64 x
def oF(H:Aa)(v:v_):tV.reps none_ H [v] [v]:=Ty.reps_one rfl
def YN{pa:Nat}(h:∀k,S k->k<H.size)(i:Kb S H pa a)(q:Int)(C:c<256):Ai prog 41 #[A_ q,.int .u8 (c:Int),U_ pa] H λv H'=>D_ (H_ H) H H'/\Z_ tV none_ H' H.size 3 v ((Ea a q c).map iv):=by refine Ai.of_vc func41 rfl (call41 _) ?_;have l:∀{H':Aa} {ps:List Pc},St H H' ps->∀k,S k->k<H'.size:=λE k F=>E.up (h k F);refine i.ld (λ_ _=>trivial) λva m=>(Al (D5 h m C) λH1 o=>?_);have F_:=(St.nil H).call o;refine Aj AD [iv (Am a q c)] rfl rfl zQ zQ ?_;intro M H2 p r s t;have d:=F_.new (T:=tV) (n:=1) (xs:=[iv (Am a q c)]) p r s t (oF _ _) rfl zQ;refine A7.run ((i.frame (d.old.mono h)).ld (λ_ _=>trivial) λG e=>(Al (CR e) λH3 u=>?_));have b:=d.call u;cases D:AL a q with|false=>(conv=>whnf);refine⟨b.old,?_⟩;have:=St.own b 0 rfl;unfold Ea;rw[D];exact this|true=>refine(i.frame (b.old.mono h)).ld (λ_ _=>trivial) λI f=>(Al (D5 (q:=0) (l b) f C) λH4 w=>?_);have x:=b.call w;refine Aj AD [iv (Am a 0 c)] rfl rfl zQ zQ ?_;intro N H5 y J z A;have B:=x.skip y A;refine GM (ys:=[iv (Am a 0 c)]) (ds:=[iv (Am a 0 c)]) B 0 AD rfl (z.cells λj v K=>by rw[K_];exact K) (oF _ _) rfl (by simp[iv,Value.oneCell']) (by simp only[c_];decide) (by simp only[c_];decide) λa' O H6 g L=>?_;(conv=>whnf);refine⟨g.old,?_⟩;have:=St.own g 0 rfl;unfold Ea;rw[D];exact this
structure AbL(S:Nat->Prop)(H:Aa)(p pa:Nat):Prop where
 in_:S p
 blk:S_ H p 111 [.func (.func 41) #[] #[U_ pa]]
def AbL.frame{H':Aa}{p pa:Nat}(h:AbL S H p pa)(k:D_ S H H'):AbL S H' p pa:=⟨h.1,h.2.agr k h.1⟩
def HE(x:Int)(ys:List Int):List Nd:=ys.map λy=>⟨1,x,y⟩
def AhW{pa pf:Nat}(A:∀k,S k->k<H.size)(K:Kb S H pa a)(L:AbL S H pf pa)(n:Nd)(M:c<256):Ai prog 42 #[ndV n,.int .u8 (c:Int),U_ pa,U_ pf] H λv H'=>D_ (H_ H) H H'/\Z_ tNd none_ H' H.size 96 v (CH a n c):=by refine Ai.of_vc func42 rfl (call42 _) ?_;have m:∀{H':Aa} {ps:List Pc},St H H' ps->∀k,S k->k<H'.size:=λst k d=>st.up (A k d);refine BI (q_ n) rfl ?_;intro p1 H1 V W X Y;have F_:=(St.nil H).box V W X Y;have Z:=F_.blk 0 rfl;refine fa Tl (C_ E_ (oP Z) zA ?_);by_cases N:n.s=0;{have d0:(n.s==0)=zW:=by{rw[N];rfl};(conv=>whnf);rw[d0];refine(K.frame (F_.old.mono A)).ld (λ_ _=>trivial) λva a0=>(fa FG (C_ E_ (NE Z) zA (Al (D5 (m F_) a0 M) λH2 E=>?_)));have B:=F_.call E;refine Au underlying96 rfl (ndV Ao) DF (q_ ⟨0,Am a n.x c,0⟩) rfl (Aj Fw (q_ ⟨0,Am a n.x c,0⟩) rfl rfl zQ zQ ?_);intro q3 H3 a1 a3 a7 a8;have t:=TH B a1 a3 a7 a8;have r3:=t.blk 0 rfl;refine A7.run ((K.frame (t.old.mono A)).ld (λ_ _=>trivial) λb0 O=>(fa FG (C_ E_ (NE r3) zA (Al (CR O) λH4 a9=>?_))));have b:=t.call a9;cases L:AL a n.x with|false=>(conv=>whnf);refine⟨b.old,?_⟩;have:=St.own b 1 rfl;unfold CH;rw[J_ N,L];exact this|true=>have r4:=b.blk 0 rfl;have g:∀k,S k->k<H4.size/\¬Q_ (.slice (N_ q3) 1 1) k:=λk d=>⟨m b k d,λh=>(b.in_ 1 rfl (.inl h)).1 (A k d)⟩;have ab:=b.apart (i:=0) (j:=1) zQ rfl rfl;have ae:p1<H4.size/\¬Q_ (.slice (N_ q3) 1 1) p1:=⟨r4.lt,λh=>ab p1 rfl (.inl h)⟩;refine Ap.held (λk=>k<H4.size/\¬Q_ (.slice (N_ q3) 1 1) k) 12 (sq [0,1,2,4,5,6,7] (.f 3 (.f 8 (sq [9] (.f 10 (.f 11 (.f 12 .e))))))) rfl zX ((K.frame (b.old.mono A)).ld g λb4 P=>((K.frame (b.old.mono A)).ld g λb6 Q=>(fa FG (C_ E_ (NE r4) ae (Al (D5 (q:=0) (m b) P M) λH5 o=>?_)))));have u:=b.call o;refine⟨o.mono λk d=>d.1,?_⟩;refine Al (D5 (m u) (Q.frame (o.mono λk d=>m b k d)) M) λH6 R=>?_;have p:=u.call R;have w:D_ (H_ H4) H4 H6:=o.trans (R.mono λk d=>An o d);refine⟨w.mono λk d=>d.1,?_⟩;refine Au underlying96 rfl (ndV Ao) DF (q_ ⟨1,Am a 0 c,Am a n.x c⟩) rfl (Aj Fw (q_ ⟨1,Am a 0 c,Am a n.x c⟩) rfl rfl zQ zQ ?_);intro q7 H7 ag b8 ah T;have ai:=p.skip ag T;have z:D_ (H_ H4) H4 H7:=w.trans (T.mono λk d=>by have:=An w d;omega);refine⟨z.mono λk d=>d.1,?_⟩;refine GM (ys:=[⟨1,Am a 0 c,Am a n.x c⟩]) (ds:=q_ ⟨1,Am a 0 c,Am a n.x c⟩) ai 1 Fw rfl (ah.cells λj v hv=>by rw[K_];exact hv) (TI _ _) rfl (by simp[q_,Value.oneCell']) (by simp only[c_];decide) (by simp only[c_];decide) λa' c' H8 C F=>?_;refine⟨(z.mono λk d=>d.1).trans (F.mono λk d=>⟨An z d.1,d.2⟩),?_⟩;(conv=>whnf);refine⟨C.old,?_⟩;have:=St.own C 1 rfl;unfold CH;rw[J_ N,L];exact this};have d0:(n.s==0)=zU:=beq_eq_false_iff_ne.2 N;have hR:CH a n c=(Ea a n.x c).flatMap λx=>HE x (Ea a n.y c):=by{unfold CH HE;rw[I_ N]};rw[hR];have b9:=Lk (a:=a) n.x c;have bd:=Lk (a:=a) n.y c;(conv=>whnf);rw[d0];refine C_ nS (by rw[(L.frame (F_.old.mono A)).blk.cell];rfl) zA ?_;refine fa FG (C_ E_ (NE Z) zA (Ae.mk (YN (m F_) (K.frame (F_.old.mono A)) n.x M) ?_));rintro _ H2 ⟨E,G⟩;obtain⟨a2,c2,rfl,B⟩:=F_.got E G;rw[e_]at B ⊢;generalize Ea a n.x c=xs at*;have t:=B.nils tNd 96;(conv=>whnf);refine A0.mk [8,46] (λx:Nat×List Nd×Option Addr×Nat=>match x with | (i,out,a,c)=>[.slice a out.length c,A_ i]) (λx H4=>x.1<=xs.length/\x.2.1=(xs.take x.1).flatMap (λx=>HE x (Ea a n.y c))/\x.2.1.length<=2*x.1/\St H H4 [pB 96 p1 (q_ n),pS tV 3 a2 xs.length c2 (xs.map iv),pS tNd 96 x.2.2.1 x.2.1.length x.2.2.2 x.2.1]) (λx _=>xs.length-x.1) ?_ ?_;{(conv=>whnf);exact⟨(0,[],zV,0),rfl,zZ,rfl,zZ,t⟩};rintro⟨i,out,a4,c4⟩ H4 aj ⟨hi,g,ak,b⟩;simp only at hi g ak b;refine AB.m2 (λhz=>?_) (λhz=>?_);{have⟨x,hx⟩:=Ac (l:=xs) (k:=i) zO;have I:(xs.take (i+1)).flatMap (λx=>HE x (Ea a n.y c))=out++HE x (Ea a n.y c):=by{rw[g];exact NS _ hx};have q4:=b.blk 0 rfl;refine zK (j:=i) (x:=iv x) AD b 1 rfl (by rw[Y',hx];rfl) rfl λb5 o5 be bf am ao=>?_;obtain rfl:=ao;refine lT E_ am.one ?_;refine C_ nS (by rw[(L.frame (b.old.mono A)).blk.cell];rfl) zA ?_;refine fa Ma (C_ E_ (Xj q4) zA (Ae.mk (YN (m b) (K.frame (b.old.mono A)) n.y M) ?_));rintro _ H5 ⟨o,J⟩;obtain⟨a5,c5,rfl,u⟩:=b.got o J;rw[e_]at u ⊢;generalize Ea a n.y c=ys at*;(conv=>whnf);refine A0.mk [8,56] (λx:Nat×List Nd×Option Addr×Nat=>match x with | (k,out,a,c)=>[.slice a out.length c,A_ k]) (λy H6=>y.1<=ys.length/\y.2.1=out++HE x (ys.take y.1)/\St H H6 [pB 96 p1 (q_ n),pS tV 3 a2 xs.length c2 (xs.map iv),pS tNd 96 y.2.2.1 y.2.1.length y.2.2.2 y.2.1,pS tV 3 a5 ys.length c5 (ys.map iv)]) (λy _=>ys.length-y.1) ?_ ?_;{(conv=>whnf);exact⟨(0,out,a4,c4),rfl,zZ,by simp[HE],u⟩};rintro⟨k,U,a6,c6⟩ H6 ap ⟨d,r,p⟩;simp only at d r p;refine AB.m2 (λaq=>?_) (λaq=>?_);{have⟨y,hy⟩:=Ac (l:=ys) (k:=k) zO;have D:out++HE x (ys.take (k+1))=U++[⟨1,x,y⟩]:=by{rw[r,Ab hy];simp[HE]};have az:U.length<=2*i+k:=by{rw[r];simp only[HE,O_,e_,wI];omega};refine zK (j:=k) (x:=iv y) AD p 3 rfl (by rw[Y',hy];rfl) rfl λb7 o7 bg bh ar au=>?_;obtain rfl:=au;refine C_ E_ ar.one zA (Au underlying96 rfl (ndV Ao) DF (q_ ⟨1,x,y⟩) rfl (Aj Fw (q_ ⟨1,x,y⟩) rfl rfl zQ zQ ?_));intro q8 H8 aw bi ax F;have C:=p.skip aw F;refine GM (ys:=[⟨1,x,y⟩]) (ds:=q_ ⟨1,x,y⟩) C 2 Fw rfl (ax.cells λj v hv=>by rw[K_];exact hv) (TI _ _) rfl (by simp[q_,Value.oneCell']) (by simp only[c_,maxLen];omega) (by simp only[c_];omega) λa' c' H9 ay bj=>?_;(conv=>whnf);rw[R_ k zO];refine⟨rfl,(k+1,U++[⟨1,x,y⟩],a',c'),zZ,⟨by simp only;omega,D.symm,?_⟩,by simp only;omega⟩;simp only[O_,c_];exact ay.pick [0,1,2,3] zQ};obtain rfl:k=ys.length:=zO;rw[M']at r;(conv=>whnf);rw[R_ i zO];refine⟨rfl,(i+1,U,a6,c6),zZ,⟨by simp only;omega,by simp only;rw[I,r],?_,p.pick [0,1,2] zQ⟩,by simp only;omega⟩;simp only;rw[r];simp only[HE,O_,e_];omega};obtain rfl:i=xs.length:=zO;rw[M']at g;(conv=>whnf);refine⟨b.old,?_⟩;have:=St.own b 2 rfl;rw[g]at this ⊢;exact this
def AhX{pa:Nat}(o:∀k,S k->k<H.size)(p:Kb S H pa a)(n:Nd):BK prog 43 #[ndV n,U_ pa] H (.bool (Hv a n)):=by refine Ai.of_vc func43 rfl (call43 _) (BI (q_ n) rfl ?_);intro p1 H1 c d f g;have F_:=(St.nil H).box c d f g;have q:=F_.blk 0 rfl;have e:Hv a n=(n.s==1&&AL a n.x&&AL a n.y):=rfl;rw[e];refine fa Tl (C_ E_ (oP q) zA ?_);cases r:(n.s==1)with|false=>(conv=>whnf);rw[r];(conv=>whnf);exact⟨rfl,F_.old⟩|true=>{(conv=>whnf);rw[r];refine(p.frame (F_.old.mono o)).ld (λ_ _=>trivial) λvb h=>(fa FG (C_ E_ (NE q) zA (Al (CR h) λH2 i=>?_)));have b:=F_.call i;have t:=b.blk 0 rfl;cases u:AL a n.x with|false=>(conv=>whnf);exact⟨rfl,b.old⟩|true=>refine(p.frame (b.old.mono o)).ld (λ_ _=>trivial) λva j=>(fa Ma (C_ E_ (Xj t) zA (Al (CR j) λH3 l=>?_)));have m:=b.call l;(conv=>whnf);exact⟨rfl,m.old⟩}
def Pv.uniq{v:List Nat}{ok a:Bool}(h:Pv g w ok)(k:Pv g v a):w=v/\ok=a:=by cases ok<;>cases a;{exact⟨(h.2 rfl).1.trans (k.2 rfl).1.symm,rfl⟩};{have b:=k.1 rfl;exact absurd b.1.2.2.1 ((h.2 rfl).2 v b.1.2.1)};{have b:=h.1 rfl;exact absurd b.1.2.2.1 ((k.2 rfl).2 w b.1.2.1)};exact⟨(h.1 rfl).uniq (k.1 rfl),rfl⟩
def Mw(a:Option AM)(w:List Nat)(ok:Bool):Prop:=(AL a 0=zW->w=[]/\ok=zW)/\(AL a 0=zU->Pv (Ie a) w ok)
def Mw.uniq{v:List Nat}{ok b:Bool}(h:Mw a w ok)(k:Mw a v b):w=v/\ok=b:=by cases c:AL a 0 with|true=>obtain⟨rfl,rfl⟩:=h.1 c;obtain⟨rfl,rfl⟩:=k.1 c;exact⟨rfl,rfl⟩|false=>exact(h.2 c).uniq (k.2 c)
def Am0{va:v_}(G:∀k,S k->k<H.size)(i:Bm S H va a)(l:∃ls,Fi a ls):
  Ai prog 12 #[va] H λv H'=>D_ (H_ H) H H'/\∃w ok,v= .tuple #[.string (bA w),.bool ok]/\Mw a w ok/\w.length<=1099511627776:=by
 refine Ai.of_vc func12 rfl (call12 _) ?_;have m:∀{H':Aa} {ps:List Pc},St H H' ps->∀k,S k->k<H'.size:=λst k d=>st.up (G k d);refine BI [va] i.cells.1 ?_;intro p1 H1 I J K L;have F_:=(St.nil H).box I J K L;refine lT (v:=va) L2 ((F_.blk 0 rfl).ce rfl) ?_;refine Al (CR (q:=0) (i.frame (F_.old.mono G))) λH2 M=>?_;have p:=F_.call M;cases hf:AL a 0 with
 | true=>
   (conv=>whnf);exact⟨p.old,[],zW,rfl,⟨λ_=>⟨rfl,rfl⟩,(λh=>by rw[hf]at h;cases h)⟩,p_ _⟩
 | false=>
 refine Af .nilFunc [.nilFunc] rfl rfl ?_;intro p3 H3 N O P Q;have R:=p.box N O P Q;refine Bb R 1 nS rfl zZ rfl λH4 t=>?_;refine lT (v:=va) L2 ((t.blk 0 rfl).ce rfl) ?_;refine Aj mE [va] i.cells.1 rfl zQ zQ ?_;intro q5 H5 T ae U V;have e:=t.skip T V;have W:Y_ tV (H_ H5) H5 (N_ q5) 1 ([(va,a)].map (·.1)):=Y_.ofBlk U (zO:q5<H5.size) (Ty.reps_one rfl) rfl zQ;refine Ae.mk (iJ (S:=H_ H5) (os:=[(va,a)]) (λk d=>d) W zZ (λx hx=>?_)) ?_
 ·rw[V_]at hx;subst hx;exact⟨(i.frame (e.old.mono G)).mono (m e),l⟩
 rintro _ H6 ⟨X,f⟩;obtain⟨Y,Z,rfl,u⟩:=e.got X f;have y:=RY (os:=[a]) (sets:=CF [(va,a)]) (λo z=>by
  rw[V_]at z;subst z;exact l) λo z s hs=>by
   rw[V_]at z;subst z;unfold CF;simpa using hs
 have A:=TX (CF [(va,a)]);have B:=Sa (CF [(va,a)]);have g:=O0 (CF [(va,a)]);rw[e_]at u ⊢;generalize CY (CF [(va,a)])=by_ at*;refine Au underlying94 rfl _ YC [.slice Y by_.length Z,.nilFunc,.nilFunc] rfl (BI [.slice Y by_.length Z,.nilFunc,.nilFunc] rfl ?_);intro p7 H7 a0 a1 a2 a3;have a4:=u.box a0 a1 a2 a3;refine fa Tk (Bb a4 3 oK rfl zZ rfl λH8 a5=>(fa WS (Bb a5 3 mK rfl zZ rfl λH9 b=>?_)));have hg:=AhY i.steps A B;have a7:∀c,c<256->∃r∈by_,r<=c/\∀n,(Ie a).next n r=(Ie a).next n c:=λc hc=>by
  have⟨r,hr,a8,C⟩:=y c hc;exact⟨r,hr,a8,λn=>aG (C a zZ)⟩
 have D:Kb (H_ H9) H9 p1 a:=⟨va,(b.in_ 0 rfl rfl).2,b.blk 0 rfl,(i.frame (b.old.mono G)).mono (m b)⟩;have a9:AbL (H_ H9) H9 p3 p1:=⟨(b.in_ 1 rfl rfl).2,b.blk 1 rfl⟩;have ab:Sw (H_ H9) H9 (U_ p7) (Ie a) by_:=⟨p7,Y,Z,42,43,[],[U_ p1,U_ p3],[],[U_ p1],rfl,
  (b.in_ 3 rfl rfl).2,b.blk 3 rfl,b.view 2 rfl,λH' j n c _ hc=>AhW (λk d=>An j d) (D.frame j) (a9.frame j) n (A c hc),λH' j n _=>AhX (λk d=>An j d) (D.frame j) n⟩
 refine Ae.mk (Yr (λk d=>d) hg a7 g ab) ?_;rintro _ H10 ⟨E,w,ok,rfl,hR,ag⟩;have F:=b.call E;(conv=>whnf);exact⟨F.old,w,ok,rfl,⟨(λh=>by rw[hf]at h;cases h),λ_=>hR⟩,zO⟩
end
section
attribute [local irreducible] Bs Ak AE
def xZ(sim:Nat->Nat->Bool)(b:Nat)(l:List Nat):Int:=match l.findIdx? λg=>sim b g with
 | some k=>(k:Int)
 | none=> -1
def Kj{l:List Nat}:xZ sim b l<0↔(l.findIdx? λg=>sim b g)=zV:=by unfold xZ;split;{rename_i k h;rw[h];simp};rename_i h;rw[h];simp
def jO{l:List Nat}: -1<=xZ sim b l/\xZ sim b l<l.length:=by unfold xZ;split;{rename_i k h;have:=(vC.1 h).1;omega};omega
def PT{g:Nat}{l:List Nat}(h:xZ sim b l<0):xZ sim b (l++[g])=if sim b g then(l.length:Int)else -1:=by have a:=Kj.1 h;unfold xZ;rw[sO,a];simp only[List.findIdx?_singleton,Option.none_or];cases hs:sim b g<;>simp
def Vb{k:Nat}{l:List Nat}(h:0<=xZ sim b (l.take k)):xZ sim b l=xZ sim b (l.take k):=by
 have c:(l.take k).findIdx? (λg=>sim b g)≠zV:=λa=>by have:=Kj.2 a;omega
 cases a:(l.take k).findIdx? (λg=>sim b g)with|none=>exact absurd a c|some d=>have e:l.findIdx? (λg=>sim b g)=zY d:=by{(conv=>lhs;rw[<-uT k l]);rw[sO,a];rfl};unfold xZ;rw[a,e]
def IW(D:DM)(b g j:Nat):Bool:=(AnZ j).all λq=>Dh D (q:Int) b==Dh D (q:Int) g
def Br(D:DM)(b g:Nat):Bool:=IW D b g D.next.length
def X4(D:DM)(b g j:Nat):IW D b g (j+1)=(IW D b g j&&(Dh D (j:Int) b==Dh D (j:Int) g)):=by unfold IW;rw[xW,List.all_append];simp
def NM(D:DM)(a:Nat):Br D a a=zW:=by simp[Br,IW]
def AfC{g j:Nat}(c:j<=D.next.length)(h:IW D b g j=zU):Br D b g=zU:=by cases hs:Br D b g with|false=>rfl|true=>unfold Br IW at hs;have:IW D b g j=zW:=by{unfold IW;rw[yC]at hs ⊢;exact λq a=>hs q (yR.2 (by have:=yR.1 a;omega))};rw[this]at h;cases h
def Xw(hS:∀k,S k->k<H.size)(hw:Fe S H v D)(M:D.Ok):Ai prog 85 #[v] H λv H'=>D_ (H_ H) H H'/\H.size<=H'.size/\∃a cap,v= .slice a (AE (Br D) 256).1.length cap/\ Z_ tF (λ_=>False) H' H.size 75 (.slice a (AE (Br D) 256).1.length cap) (Dw (AE (Br D) 256).2 (AE (Br D) 256).1.length):=by
 have t:=hw.len;have bh:=M.n2;refine Ai.of_vc func85 rfl (call85 _) (KY hw λra rc na nc bi bj he h1 h2 h3=>?_);subst he;intro pb H1 bm bn a4 ar;have a5:D_ (H_ H) H H1:=ar.mono λj d=>by unfold H_ at d;omega
 (conv=>whnf);refine A0.mk [3,4,5] (λx:Nat×v_×v_=>match x with | (b,vo,vf)=>[vo,vf,A_ b]) (λx H2=>x.1<=256/\D_ (H_ H1) H1 H2/\H1.size<=H2.size/\ Z_ tF (λ_=>False) H2 H1.size 75 x.2.1 (Dw (AE (Br D) x.1).2 (AE (Br D) x.1).1.length)/\Z_ tI (λ_=>False) H2 H1.size 3 x.2.2 (N' (AE (Br D) x.1).1)/\∀j,Q_ x.2.1 j->¬Q_ x.2.2 j) (λx _=>256-x.1) ?_ ?_;{(conv=>whnf);exact⟨(0,.slice zV 0 0,.slice zV 0 0),rfl,zZ,D_.refl _ _,M_ _,by unfold AE;exact Z_.nil,by unfold AE;exact Z_.nil,λj d=>by have⟨o,n,c,h⟩:=d;cases h⟩};rintro⟨b,vo,vf⟩ H2 bf ⟨hb,m,a6,y,I,J⟩;simp only at hb y I J;have L:=Jv (NM D) b;have bo:=L.flen;obtain⟨fa,N,rfl,au,-⟩:=I.view (S':=H_ H2) (λj d=>(I.lt d).2) (λ_ f=>f.elim);obtain⟨oa,X,rfl,bp,-⟩:=y.view (S':=H_ H2) (λj d=>(y.lt d).2) (λ_ f=>f.elim);rw[C8,Bz]at*;have a1:D_ (H_ H) H H2:=a5.trans (m.mono λk w=>An a5 w);have a7:=a4.agr m a4.lt;refine AB.m2 (λh=>?_) (λh=>?_);{(conv=>whnf);refine A0.mk [6,7] (λk:Nat=>[A_ (xZ (Br D) b ((AE (Br D) b).1.take k)),A_ k]) (λk H3=>k<=(AE (Br D) b).1.length/\D_ (H_ H2) H2 H3) (λk _=>(AE (Br D) b).1.length-k) ?_ ?_;{(conv=>whnf);exact⟨0,rfl,zO,D_.refl _ _⟩};rintro k H3 aw ⟨w,E⟩;have bq:=BF E;by_cases ax:k<(AE (Br D) b).1.length;{have d1:zT ((k:Int)<((AE (Br D) b).1.length:Int))=zW:=t_;(conv=>whnf);rw[d1];refine AB.mk (λz=>?_) (λz=>?_)<;>simp only[z',qT]at z;{have⟨g,hg⟩:=Ac ax;have br:=(L.first k g hg).1;refine A7.run ?_;(conv=>whnf);refine A0.mk [8,9] (λj:Nat=>[.bool (IW D b g j),A_ j]) (λj H4=>j<=D.next.length/\D_ (H_ H2) H2 H4) (λj _=>D.next.length-j) ?_ ?_;{(conv=>whnf);exact⟨0,rfl,zO,E⟩};rintro j H4 ay ⟨d,q⟩;have r:=a1.trans (q.mono λk w=>An a1 w);have A:=a7.agr q a7.lt;have up:∀{H':Aa},D_ (H_ H) H H'->∀k,S k->k<H'.size:=λh k w=>An h (hS k w);have Y:xZ (Br D) b ((AE (Br D) b).1.take k)= -1:=by{have:=(jO (sim:=Br D) (b:=b) (l:=(AE (Br D) b).1.take k)).1;omega};refine G_ EQ ?_;refine C_ D7 (by rw[A.cell,K_];exact Dp t) zA ?_;by_cases bu:j<D.next.length;{have d2:zT ((j:Int)<(D.next.length:Int))=zW:=t_;cases a8:IW D b g j with|true=>(conv=>whnf);rw[d2];refine Ap.quiet (H_ H4) rfl zX (PQ A t A.lt (h1.frame (r.mono hS)) (h2.frame (r.mono hS)) (h3.frame (r.mono hS)) λv5 az=>?_);(conv=>whnf);rw[w8 (x:=(b:Int)) zO zO];refine Nb (λH' h'=>Lq (up (r.trans (h'.mono λk w=>An r w))) (az.frame (h'.mono λk w=>up r k w)) M (zO:b<256)) (PQ A t A.lt (h1.frame (r.mono hS)) (h2.frame (r.mono hS)) (h3.frame (r.mono hS)) λv6 b0=>(DY AD (au.frame q) (C8 _).symm (HT hg) rfl ?_));rintro b6 o6 bv a9 O ⟨rfl,-⟩;refine C_ E_ O.one (An q a9) ?_;(conv=>whnf);rw[w8 (x:=(g:Int)) zO zO];refine Nb (λH' h'=>Lq (up (r.trans (h'.mono λk w=>An r w))) (b0.frame (h'.mono λk w=>up r k w)) M (zO:g<256)) ?_;(conv=>whnf);intro H5 P;(conv=>whnf);rw[R_ j zO];exact⟨rfl,j+1,by rw[X4,a8];simp,⟨zO,q.trans (P.mono λk w=>An q w)⟩,zO⟩|false=>have hs:=AfC d a8;(conv=>whnf);rw[d2];(conv=>whnf);rw[R_ k zO];refine⟨rfl,k+1,?_,⟨zO,q⟩,zO⟩;rw[Ab hg,PT z,hs,Y];simp};obtain rfl:j=D.next.length:=zO;have d2:zT ((D.next.length:Int)<(D.next.length:Int))=zU:=g_;rw[show IW D b g D.next.length=Br D b g from rfl];cases hs:Br D b g with|true=>(conv=>whnf);rw[d2];(conv=>whnf);rw[R_ k zO];refine⟨rfl,k+1,?_,⟨zO,q⟩,zO⟩;rw[Ab hg,PT z,hs];simp;omega|false=>(conv=>whnf);rw[d2];(conv=>whnf);rw[R_ k zO];refine⟨rfl,k+1,?_,⟨zO,q⟩,zO⟩;rw[Ab hg,PT z,hs,Y];simp};rw[<-Vb zO];replace z:0<=xZ (Br D) b (AE (Br D) b).1:=by{rw[Vb (k:=k) zO];omega};replace y:=y.agr E (λj d=>(y.lt d).2) (λ_ f=>f.elim);replace I:=I.agr E (λj d=>(I.lt d).2) (λ_ f=>f.elim);replace m:=m.trans (E.mono λk w=>An m w);replace a6:H1.size<=H3.size:=zO;cases s:(AE (Br D) b).1.findIdx? λg=>Br D b g with|none=>exact absurd (Kj.2 s) zO|some V=>{have Q:=(vC.1 s).1;have R:xZ (Br D) b (AE (Br D) b).1=(V:Int):=by{unfold xZ;rw[s]};rw[R];have e:AE (Br D) (b+1)=((AE (Br D) b).1,(AE (Br D) b).2++[V]):=Lg s;have⟨vb,cap,l,e1,ab,F,t,G⟩:=Z_.byte y (Dx Q) (zO:b<256);rw[Bz]at e1;injection e1 with e2 e3 e4;subst e2;subst e4;refine A7.run (ix QH zO zO (V' FT zO zO ?_));refine F_ zE F (by rw[show tF.size=256 from rfl];omega) rfl ?_;intro H6 K B ae;rw[show 0+((V:Nat):Int).toNat*tF.size+(b:Int).toNat*1=V*256+b by rw[show tF.size=256 from rfl];omega]at K;have C:=G H6 K;have i:=F8 (ps:=(AE (Br D) b).2) Q;rw[L.plen]at i;rw[i]at C;have U:=I.agr B (λj d=>by rintro rfl;exact J _ ⟨0,_,_,rfl⟩ d) (λ_ f=>f.elim);(conv=>whnf);rw[R_ b zO];refine⟨rfl,(b+1,.slice (N_ vb) (AE (Br D) b).1.length X,.slice fa (AE (Br D) b).1.length N),zZ,⟨by simp only;omega,m.trans (B.mono λj d=>by unfold H_ at d;omega),zO,?_,?_,J⟩,by simp only;omega⟩;{simp only[e];exact C};simp only[e];exact U}};obtain rfl:k=(AE (Br D) b).1.length:=zO;have d1:zT (((AE (Br D) b).1.length:Int)<((AE (Br D) b).1.length:Int))=zU:=g_;rw[M'];replace y:=y.agr E (λj d=>(y.lt d).2) (λ_ f=>f.elim);replace I:=I.agr E (λj d=>(I.lt d).2) (λ_ f=>f.elim);replace m:=m.trans (E.mono λk w=>An m w);replace a6:H1.size<=H3.size:=zO;(conv=>whnf);rw[d1];by_cases z:xZ (Br D) b (AE (Br D) b).1<0;{have s:=Kj.1 z;have R:xZ (Br D) b (AE (Br D) b).1= -1:=by{have:=(jO (sim:=Br D) (b:=b) (l:=(AE (Br D) b).1)).1;omega};rw[R];have e:AE (Br D) (b+1)=((AE (Br D) b).1++[b],(AE (Br D) b).2++[(AE (Br D) b).1.length]):=N6 s;have ag:∀p∈(AE (Br D) b).2,p<(AE (Br D) b).1.length:=L.lt;refine A7.run (CB FT (Tryz.t75.zero.getD undef) rfl (AnL 256 (.bool zU)) rfl (Aj QH (AnL 256 (.bool zU)) rfl rfl zQ zQ ?_));intro q4 H4 bw bx A q;have b4:=y.agr q (λj d=>by have:=(y.lt d).2;omega) (λ_ f=>f.elim);have ah:=I.agr q (λj d=>by have:=(I.lt d).2;omega) (λ_ f=>f.elim);refine BN (T:=tF) (S:=λ_=>False) (ys:=[λ_=>zU]) (ds:=AnL 256 (.bool zU)) (lo:=H1.size) (xs:=Dw (AE (Br D) b).2 (AE (Br D) b).1.length) QH b4 zO (λj d=>d.elim) (A.cells (λj v hv=>by rw[K_];exact hv)) (Ty.reps_one (show AnL 256 (Value.bool zU)=Fg (λ_=>zU)from N5.symm)) rfl (by intro u hu;rw[List.eq_of_mem_replicate hu];rfl) (by rw[Bz];simp only[maxLen,c_];omega) (by rw[Bz];simp only[c_];omega) ?_;intro v5 H5 a2 P bz ai;rw[<-Oa _ _ ag]at a2;have aj:=ah.agr P (λj d=>⟨(ah.lt d).2,λh=>J j h d⟩) (λ_ f=>f.elim);have c1:S_ H5 q4 75 (AnL 256 (.bool zU)):=A.agr P ⟨A.lt,λh=>by have:=(y.lt h).2;omega⟩;refine Aj AD [A_ b] rfl rfl zQ zQ ?_;intro q6 H6 c2 ae K B;have C:=a2.agr B (λj d=>by have:=(a2.lt d).2;omega) (λ_ f=>f.elim);have U:=aj.agr B (λj d=>by have:=(aj.lt d).2;omega) (λ_ f=>f.elim);refine BN (T:=tI) (S:=λ_=>False) (ys:=[(b:Int)]) (ds:=[A_ b]) (lo:=H1.size) (xs:=N' (AE (Br D) b).1) AD U zO (λj d=>d.elim) (K.cells (λj v hv=>by simpa using hv)) (Ty.reps_one ⟨rfl,BJ zO⟩) rfl (by intro u hu;cases V_.1 hu;rfl) (by rw[C8];simp only[maxLen,c_];omega) (by rw[C8];simp only[c_];omega) ?_;intro v7 H7 b5 ak c3 am;have Z:∀j,Q_ v5 j->¬Q_ (.slice fa (AE (Br D) b).1.length N) j:=λj d W=>by{rcases ai j d with h | h;{exact J j h W};have:=(I.lt W).2;omega};have b7:=C.agr ak (λj d=>⟨(C.lt d).2,Z j d⟩) (λ_ f=>f.elim);have a0:∀j,Q_ v5 j->¬Q_ v7 j:=λj d W=>by{rcases am j W with h | h;{exact Z j d h};have:=(C.lt d).2;omega};have a3:(Dw (AE (Br D) b).2 ((AE (Br D) b).1.length+1))[(AE (Br D) b).1.length]?=zY (CO (AE (Br D) b).2 (AE (Br D) b).1.length):=Dx zO;have⟨vb,cap,l,e1,ab,F,t,G⟩:=Z_.byte b7 a3 (zO:b<256);subst e1;rw[Bz]at*;have b8:(AE (Br D) b).1.length<(AE (Br D) b).1.length+1:=zO;refine ix QH zO zO (V' FT zO zO ?_);refine F_ zE F (by rw[show tF.size=256 from rfl];omega) rfl ?_;intro H8 ao ap c4;rw[show 0+(((AE (Br D) b).1.length:Nat):Int).toNat*tF.size+(b:Int).toNat*1=(AE (Br D) b).1.length*256+b by rw[show tF.size=256 from rfl];omega]at ao;have aq:=G H8 ao;have i:=F8 (ps:=(AE (Br D) b).2) b8;rw[L.plen]at i;rw[i]at aq;have b9:=b5.agr ap (λj d=>by rintro rfl;exact a0 _ ⟨0,_,_,rfl⟩ d) (λ_ f=>f.elim);have bd:D_ (H_ H1) H1 H8:=((((m.trans (q.mono λj d=>by have:=An m d;omega)).trans (P.mono λj d=>⟨by have:=An m d;omega,λh=>by have:=(y.lt h).1;unfold H_ at d;omega⟩)).trans (B.mono λj d=>by have:=An m d;omega)).trans (ak.mono λj d=>⟨by have:=An m d;omega,λh=>by have:=(I.lt h).1;unfold H_ at d;omega⟩)).trans (ap.mono λj d=>by unfold H_ at d;omega);(conv=>whnf);rw[R_ b zO];refine⟨rfl,(b+1,_,_),rfl,⟨by simp only;omega,bd,zO,?_,?_,a0⟩,by simp only;omega⟩;{simp only[e,O_,c_];exact aq};simp only[e,N',yV,wF,uQ];exact b9};replace z:0<=xZ (Br D) b (AE (Br D) b).1:=zO;cases s:(AE (Br D) b).1.findIdx? λg=>Br D b g with|none=>exact absurd (Kj.2 s) zO|some V=>{have Q:=(vC.1 s).1;have R:xZ (Br D) b (AE (Br D) b).1=(V:Int):=by{unfold xZ;rw[s]};rw[R];have e:AE (Br D) (b+1)=((AE (Br D) b).1,(AE (Br D) b).2++[V]):=Lg s;have⟨vb,cap,l,e1,ab,F,t,G⟩:=Z_.byte y (Dx Q) (zO:b<256);rw[Bz]at e1;injection e1 with e2 e3 e4;subst e2;subst e4;refine A7.run (ix QH zO zO (V' FT zO zO ?_));refine F_ zE F (by rw[show tF.size=256 from rfl];omega) rfl ?_;intro H6 K B ae;rw[show 0+((V:Nat):Int).toNat*tF.size+(b:Int).toNat*1=V*256+b by rw[show tF.size=256 from rfl];omega]at K;have C:=G H6 K;have i:=F8 (ps:=(AE (Br D) b).2) Q;rw[L.plen]at i;rw[i]at C;have U:=I.agr B (λj d=>by rintro rfl;exact J _ ⟨0,_,_,rfl⟩ d) (λ_ f=>f.elim);(conv=>whnf);rw[R_ b zO];refine⟨rfl,(b+1,.slice (N_ vb) (AE (Br D) b).1.length X,.slice fa (AE (Br D) b).1.length N),zZ,⟨by simp only;omega,m.trans (B.mono λj d=>by unfold H_ at d;omega),zO,?_,?_,J⟩,by simp only;omega⟩;{simp only[e];exact C};simp only[e];exact U}};obtain rfl:b=256:=zO;obtain⟨c5,be,e2,bg,-⟩:=y.view (S':=Cr H H2) (λj d=>⟨by have:=(y.lt d).1;omega,(y.lt d).2⟩) (λ_ f=>f.elim);rw[Bz]at e2;injection e2 with e3 e4 e5;subst e3;subst e5;(conv=>whnf);exact⟨a1,zO,_,_,rfl,y.lower zO⟩
end
section
attribute [local irreducible] Bs Ak
structure Wo(o:Option AM)(D:DM):Prop where
 ok:D.Ok
 n:stN o=D.next.length
 step:∀(q:Int) (b:Nat),b<256->Am o q b=Dh D q b
 fin:∀q:Int,AL o q=L7 D q
 alive:∀q:Int,S5 o q=S4 D q
def AgN(cells:List (BitVec 256))(next:List (List Int))(final:List Bool):Wo (Ey cells next final) (JS cells next final):=⟨bN _ _ _,jJ _ _ _,λq b a=>Z5 _ _ _ q a,W4 _ _ _,W3 _ _ _⟩
end
section
attribute [local irreducible] Bs AE Ak
def rU(f:Nat->Bool):Nat->BitVec 256 | 0=>0#256 | n+1=>if f n then rU f n ||| Ba n n else rU f n
def XT(f:Nat->Bool){b:Nat}(d:b<256):∀n,(rU f n).getLsbD b=(zT (b<n)&&f b)
 | 0=>by simp[rU]
 | n+1=>by
   have e:=XT f d n;unfold rU;split
   ·rename_i a;rw[BitVec.getLsbD_or,e,Eo n n b d];by_cases h:b=n
    ·subst h;simp[a]
    ·have c:zT (b<n+1)=zT (b<n):=by rw[decide_eq_decide];omega
     have g:(zT (n<=b)&&zT (b<=n))=zU:=by simp;omega
     rw[c,g,Bool.or_false]
   ·rename_i a;rw[e];by_cases h:b=n
    ·subst h;simp[a]
    ·have c:zT (b<n+1)=zT (b<n):=by rw[decide_eq_decide];omega
     rw[c]
def tZ(f:Nat->Bool):BitVec 256:=rU f 256
def Jg(f:Nat->Bool)(a:b<256):(tZ f).getLsbD b=f b:=by unfold tZ;rw[XT f a,r_ a,vD]
def RD(f:Nat->Bool):Fg f=AV (tZ f):=by unfold Fg AV Hl;refine uR λb a=>?_;have a:=yR.1 a;rw[Jg f a,r_ a,vD]
def RX{S:Nat->Prop}{H:Aa}:∀{cs:List v_} {fs:List (Nat->Bool)},tF.reps S H cs fs->tB.reps S H cs (fs.map tZ)| _,[],h=>h | _,f::fs,⟨c,r,e,hc,hr⟩=>⟨c,r,e,(show c=AV (tZ f) by rw[<-RD];exact hc),RX hr⟩
def Cn(D:DM):List (BitVec 256):=(Dw (AE (Br D) 256).2 (AE (Br D) 256).1.length).map tZ
def IU(c:∀k,S k->k<H.size)(d:Fe S H v D)(b:D.Ok):Ai prog 85 #[v] H λv H'=>D_ (H_ H) H H'/\Z_ tB none_ H' H.size 75 v (Cn D):=by refine(Xw c d b).mono ?_;rintro i H' ⟨e,j,a,cap,rfl,f,g,h⟩;refine⟨e,f,?_,RX h⟩;unfold Cn;rw[e_];exact g
def PJ(D:DM):0<(Cn D).length/\(Cn D).length<=256:=by have a:=Jv (NM D) 256;unfold Cn;rw[e_,Bz];have c:(AE (Br D) 256).2.length=256:=a.plen;have⟨p,b⟩:=Ac (l:=(AE (Br D) 256).2) (k:=0) zO;have:=a.lt p (d_ b);exact⟨zO,a.flen⟩
def K9(A B:DM):List Nat:=(Ak (Cn A++Cn B) 256).1
def AeX(A B:DM):∀r∈K9 A B,r<256:=λr a=>by
 have⟨k,b⟩:=xB a;exact((CG (Cn A++Cn B) 256).first k r b).1
def dL(A B:DM):(K9 A B).length<=256:=(CG (Cn A++Cn B) 256).flen
def Ob{r:Nat}(u:r<256)(m:c<256)(h:∀s∈Cn D,s.getLsbD r=s.getLsbD c)(q:Int):Dh D q r=Dh D q c:=by
 have d:=Jv (NM D) 256;by_cases o:q<0\/(D.next.length:Int)<=q;{unfold Dh;rw[J_ o,J_ o]};have⟨p,e⟩:=Ac (l:=(AE (Br D) 256).2) (k:=c) (by rw[d.plen];exact m);have a:=d.lt p (d_ e);have⟨l,v⟩:=Ac a;have f:tZ (CO (AE (Br D) 256).2 p)∈Cn D:=yD.2 ⟨_,yD.2 ⟨p,yR.2 a,rfl⟩,rfl⟩;have g:=h _ f;rw[Jg _ u,Jg _ m]at g;have i:CO (AE (Br D) 256).2 p c=zW:=by unfold CO;rw[e];simp
 rw[i]at g;have j:(AE (Br D) 256).2[r]?=zY p:=by simpa [CO]using g
 have b:∀x,(AE (Br D) 256).2[x]?=zY p->Dh D q x=Dh D q l:=λx w=>by{have t:=(d.sig x p l w v).1;unfold Br IW at t;obtain⟨n,rfl⟩:=xR (zO:0<=q);have:=yC.1 t n (yR.2 zO);simpa using this};rw[b r j,b c e]
end
def B_.cat{B:Nat->Prop}{H0 H H':Aa}{ps qs:List Pc}(e:B_ B H0 H ps)(b:St H H' qs):B_ B H0 H' (ps++qs):=by have c:=e.call b.old;refine⟨c.old,c.lt0,c.size,λp a=>?_,λp a k d=>?_,?_⟩;{rcases k_.1 a with a | a;{exact c.oks p a};exact b.oks p a};{rcases k_.1 a with a | a;{exact c.rng p a k d};have⟨g,h⟩:=b.rng p a k d;exact⟨λi=>g (e.up i),h⟩};refine List.pairwise_append.2 ⟨c.dis,b.dis,λp a q j k d f=>?_⟩;exact(b.rng q j k f).1 (e.rng p a k d).2
section
attribute [local irreducible] Bs AE Ak
def Yj{la:List v_}(h:Fe S H (.agg la.toArray) D):la.length=259/\∃fa fc,la[258]?=zY (.slice fa D.final.length fc)/\Y_ Ay S H fa fc D.final:=by
 have⟨a,ra,rc,na,nc,fa,fc,e,c,d,b⟩:=h;injection e with e;have e:la=AU D.cell (.slice ra D.reps.length rc) (.slice na D.next.length nc) (.slice fa D.final.length fc):=by simpa using e
 subst e;exact⟨Av a,fa,fc,Kf a,b⟩
def jP{fa:Option Addr}{fc:Nat}{x:Int}(h:Y_ Ay S H fa fc D.final)(c:0<=x)(j:x<D.final.length)(d:∀b o,S b->YtelngokgpnphfaaGreatDoor.cell H b o=zY (.bool (L7 D x))->K (.pointer (zY ⟨b,o,zV⟩))):AH prog (Instr.indexAt 41 (.slice fa D.final.length fc) (.int .i64 x)) B H K:=by obtain⟨n,rfl⟩:=xR c;have⟨f,a⟩:=Ac (l:=D.final) (k:=n) zO;refine U' (i:=n) Ci h a rfl ?_;rintro b o m e g rfl;refine d b o e ?_;rw[g.one];simp[L7,a]
def pV(a:Option Addr)(cap:Nat)(xs:List Int)(S:Nat->Prop):Pc:=⟨S,λH=>Y_ tI S H a cap xs,λh hp=>hp.frame h⟩
def Bu{l cs:List v_}(h:l.length=cs.length):Ah l 0 cs=cs:=by apply List.ext_getElem?;intro j;by_cases a:j<cs.length;{rw[CK zO,J_ ⟨p_ _,zO⟩,Nat.sub_zero]};rw[zC (by rw[DC zO];omega),zC zO]
def lR:(prog.info? 197).bind (·.zero)=zY (.agg (Value.slice zV 0 0::AnL 1024 (Value.slice zV 0 0)).toArray):=zX
def cS(j:Nat)(H:Aa):(Jf [] j).ok H (.slice zV 0 0):=Z_.nil
def EF(a:P_):List (BitVec 256):=(a.edges.filter λe=> !e.sil).map λe=>e.set
def Q6(a:P_):List Nat:=(Ak (EF a) 256).1
abbrev zD:List v_:=AU (AnL 256 0) (.slice zV 0 0) (.slice zV 0 0) (.slice zV 0 0)
def bR(e:u_):∀(j:Nat) (v:v_),(AV e.set)[j]?=zY v->(DP e)[3+j]?=zY v:=by intro j v h;unfold DP;rw[List.getElem?_append_right zZ];simpa using h
def VU{a:P_}{e:u_}(h:a.edges[i]?=zY e):((a.edges.take (i+1)).filter λe=> !e.sil).map (λe=>e.set)=(((a.edges.take i).filter λe=> !e.sil).map λe=>e.set)++if e.sil then []else [e.set]:=by rw[Ab h,vI,yV];cases hs:e.sil<;>simp[hs]
def Aj1{row:List Nat}{m k t:Nat}(a:row.length=k)(e:k<m):(AG row++AnL (m-row.length) 0).set k (t:Int)=AG (row++[t])++AnL (m-(row++[t]).length) 0:=by
 have b:(AG row).length=k:=by unfold AG;rw[e_,a]
 obtain⟨d,c⟩:∃d,m-row.length=d+1:=⟨m-row.length-1,zO⟩;rw[c,List.replicate_succ,List.set_append_right _ _ zO,b,Nat.sub_self,List.set_cons_zero];unfold AG;rw[yV,List.append_assoc,O_,show m-(row.length+[t].length)=d by simp only[b_,i_];omega];rfl
noncomputable def qI(a:P_)(budget:Nat)(H H':Aa)(r:v_):Prop:=D_ (H_ H) H H'/\
 match Dt budget (Bf a) (Q6 a) (CV (GN a))with
 | none=>∃l:List v_,r= .tuple #[.agg l.toArray,A_ 40]/\l.length=259/\l.all (·.oneCell')=zW/\∃x n c,l[257]?=zY (.slice x n c)
 | some (F,rows)=>∃v,r= .tuple #[v,A_ 0]/\Fe (Cr H H') H' v ⟨N' (Ak (EF a) 256).2,N' (Q6 a),rows.map AG,F.map λl=>zT (a.fin∈l)⟩
def AlK{S0:Nat->Prop}{a:P_}{budget:Nat}(bf:∀k,S0 k->k<H.size)(h:qJ S0 H v a)(h9:1<=budget)(ha:budget<=4096):Ai prog 60 #[v,A_ budget] H λr H'=>qI a budget H H' r:=by
 have hr:=h.1;have hl:=h.2.1;have d1:zT ((budget:Int)<1)=zU:=g_;have d2:zT ((4096:Int)<(budget:Int))=zU:=g_;have gy:=Lp a;refine Ai.of_vc func60 rfl (call60 _) (iA h λea ec ey w=>?_);subst ey;intro p H1 hp ez da f0;have F_:=(St.nil H).box hp ez da f0;refine Af _ zD rfl zX ?_;intro p4 H2 f1 f2 db f3;have dc:=F_.box f1 f2 db f3;(conv=>whnf);rw[d1];(conv=>whnf);rw[d2];have de:=dc.nils tB 75;have df:∀i,(((a.edges.take i).filter λe=> !e.sil).map λe=>e.set).length<=i:=λi=>by{rw[e_];exact yS (vX _ _) (List.length_take_le _ _)};(conv=>whnf);refine A0.mk [6,7] (λx:Nat×Option Addr×Nat=>match x with | (i,a5,c5)=>[.slice a5 (((a.edges.take i).filter λe=> !e.sil).map λe=>e.set).length c5,A_ i]) (λx H3=>match x with | (i,a5,c5)=>i<=a.edges.length/\St H H3 [pB 134 p (s_ a (.slice ea a.edges.length ec)),pB 43 p4 zD,pS tB 75 a5 (((a.edges.take i).filter λe=> !e.sil).map λe=>e.set).length c5 (((a.edges.take i).filter λe=> !e.sil).map λe=>e.set)]) (λx _=>a.edges.length-x.1) ?_ ?_;{(conv=>whnf);exact⟨(0,zV,0),rfl,p_ _,de⟩};rintro⟨i,a5,c5⟩ H3 f4 ⟨hi,I⟩;have ag:=df i;have ah:=I.blk 0 rfl;refine G_ CS ?_;refine C_ (v:=.slice ea a.edges.length ec) EB (by rw[ah.cell];rfl) zA ?_;refine AB.m2 (λhz=>?_) (λhz=>?_);{have⟨e,he⟩:=Ac (l:=a.edges) (k:=i) zO;have a7:=VU he;refine A7.run (G_ CS ?_);refine C_ (v:=.slice ea a.edges.length ec) EB (by rw[ah.cell];rfl) zA ?_;refine U' (i:=i) Ec (w.frame (I.old.mono bf)) he rfl ?_;rintro b6 o6 c6 f5 c2 ⟨rfl,cd⟩;refine G_ OY (C_ (v:=.bool e.sil) zE (c2 2 _ rfl) zA ?_);cases Z:e.sil with|true=>rw[Z,J_ rfl,yU]at a7;(conv=>whnf);rw[R_ i zO];refine⟨rfl,(i+1,a5,c5),by simp only[a7];simp,⟨zO,?_⟩,by simp only;omega⟩;rw[a7];exact I|false=>rw[Z,I_ zQ]at a7;refine G_ CS ?_;refine C_ (v:=.slice ea a.edges.length ec) EB (by rw[ah.cell];rfl) zA ?_;refine U' (i:=i) Ec (w.frame (I.old.mono bf)) he rfl ?_;rintro b7 o7 c7 f6 ce ⟨rfl,cd⟩;refine G_ Ta ?_;refine L_ (cs:=AV e.set) (by rw[show(AV e.set).length=256 from D0 _ _];exact Zy) (λj v hv=>by rw[rI];exact ce (3+j) v (bR e j v hv)) zA ?_;refine Aj Zg (AV e.set) rfl (D0 _ _) zQ zQ ?_;intro q8 H8 f7 hc f8 f9;refine GM (ys:=[e.set]) (I.skip f7 f9) 2 Zg rfl (f8.cells (o:=0) (cs:=AV e.set) λj v hv=>by rw[K_];exact hv) (Ty.reps_one rfl) rfl (λu hu=>yC.1 (IC e.set 256) u hu) (by unfold maxLen;simp only[b_,i_];omega) (by simp only[b_,i_];omega) λa9 c9 H9 a0 _=>?_;have e2:(((a.edges.take i).filter λe=> !e.sil).map λe=>e.set).length+[e.set].length=(((a.edges.take (i+1)).filter λe=> !e.sil).map λe=>e.set).length:=by{rw[a7];exact O_.symm};rw[<-a7,e2]at a0;rw[e2];(conv=>whnf);rw[R_ i zO];exact⟨rfl,(i+1,a9,c9),zZ,⟨zO,a0⟩,by simp only;omega⟩};obtain rfl:i=a.edges.length:=zO;rw[M']at I ag;rw[M'];change St H H3 [_,_,pS tB 75 a5 (EF a).length c5 (EF a)]at I;change (EF a).length<=_ at ag;rw[show((a.edges.filter λe=> !e.sil).map λe=>e.set)=EF a from rfl];refine Ae.mk (V8 a5 c5 (EF a) (H_ H3) H3 (λk hk=>hk) (I.view 2 rfl) zO) ?_;rintro v5 H5 ⟨fe,-,ra,rc,rfl,ai⟩;have J:(N' (Ak (EF a) 256).2).length=256:=by rw[C8];exact(CG (EF a) 256).plen
 have bo:∀r∈(Ak (EF a) 256).1,r<256:=λr hr=>by have⟨i,hi⟩:=xB hr;exact((CG (EF a) 256).first i r hi).1
 have cg:(Ak (EF a) 256).1.length<=256:=(CG (EF a) 256).flen;obtain⟨reps,aj⟩:∃reps,reps=(Ak (EF a) 256).1:=⟨_,rfl⟩;obtain⟨cell,ak⟩:∃cell,cell=N' (Ak (EF a) 256).2:=⟨_,rfl⟩;rw[<-aj]at ai bo cg;rw[<-ak]at J;rw[<-aj,<-ak]
 have am:qI a budget=fun(H H':Aa) (r:v_)=>D_ (H_ H) H H'/\match Dt budget (Bf a) reps (CV (GN a))with
  | none=>∃l:List v_,r= .tuple #[.agg l.toArray,A_ 40]/\l.length=259/\l.all (·.oneCell')=zW/\∃x n c,l[257]?=zY (.slice x n c)
  | some (F,rows)=>∃v,r= .tuple #[v,A_ 0]/\Fe (Cr H H') H' v ⟨cell,N' reps,rows.map AG,F.map λl=>zT (a.fin∈l)⟩:=by
  rw[aj,ak];rfl
 rw[am];clear am;have ch:=I.add fe (pV ra rc (N' reps) (Cr H3 H5)) ai (λk hk=>hk);obtain⟨SV,ff⟩:∃SV,SV=Cr H3 H5:=⟨_,rfl⟩;rw[<-ff]at ch;have f:∀nv fv,(AU cell (.slice ra reps.length rc) nv fv).length=259:=λnv fv=>Av J;refine Af _ zD rfl zX ?_;intro p8 H6 fg fh fj fk;have dg:=ch.box fg fh fj fk;refine AI (cs:=AU cell (.slice ra reps.length rc) (.slice zV 0 0) (.slice zV 0 0)) dg 4 (by rw[f];rfl) rfl (by rw[f];decide) (Be rfl rfl rfl) λH7 a8=>?_;rw[Bu (by rw[f];rfl)]at a8;refine AiF hr hl (a8.blk 0 rfl) My zA (w.frame (a8.old.mono bf)) λv8 fm=>(Ae.mk (AfN (λk hk=>a8.up (bf k hk)) fm) ?_);rintro _ H8 ⟨nb,tb,ma,mc,vt,rfl,u8⟩;have cj:=a8.cat u8;rw[<-AiB]at cj;refine Au underlying197 rfl _ lR (Value.slice zV 0 0::AnL 1024 (Value.slice zV 0 0)) rfl (BI (Value.slice zV 0 0::AnL 1024 (Value.slice zV 0 0)) rfl ?_);intro bb H9 fo fp fq fu;have a0:St H H9 [pB wE nb (xP (AQ a) (.slice (N_ tb) (AQ a) (AQ a)) (.slice ma (AQ a) mc)),pT DS 189 132 tb vt (I4 a),pS Ay 4 ma (AQ a) mc (yE (AQ a) []),pN (zF a_) none_ 39 zV 0 0 [],pG HK bb (.slice zV 0 0) (AnL 1024 (.slice zV 0 0)) (Jf []),pN (zF a_) none_ 39 zV 0 0 [],pS Ay 4 zV 0 0 [],pB 43 p8 (AU cell (.slice ra reps.length rc) (.slice zV 0 0) (.slice zV 0 0)),pV ra rc (N' reps) SV,pB 134 p (s_ a (.slice ea a.edges.length ec)),pB 43 p4 zD]:=(((((cj.box fo fp fq fu).gNew (ss:=Jf []) 8 rfl cS).nils (zF a_) 39).nils (zF a_) 39).nils Ay 4).pick [5,6,7,9,8,10,11,4,3,0,1] zQ;have dh:(AnL 1024 (Value.slice zV 0 0)).length=1024:=zZ;generalize AnL 1024 (Value.slice zV 0 0)=ck at*;have bp:∀q∈CV (GN a),a.has q=zW:=λq hq=>Fj a q ((HB (Ej (Fj a)) q).1 hq);have cm:a.has a.start=(zT (0<=a.start)&&zT (a.start<(AQ a:Int))):=Kr a a.start;(conv=>whnf);refine A7.cut (α:=Option Addr×Nat) [11] (λx=>[.slice x.1 (CV (GN a)).length x.2]) (λx H10=>St H H10 [pB wE nb (xP (AQ a) (.slice (N_ tb) (AQ a) (AQ a)) (.slice ma (AQ a) mc)),pT DS 189 132 tb vt (I4 a),pS Ay 4 ma (AQ a) mc (yE (AQ a) []),pS a_ 3 x.1 (CV (GN a)).length x.2 (CV (GN a)),pN (zF a_) none_ 39 zV 0 0 [],pG HK bb (.slice zV 0 0) ck (Jf []),pN (zF a_) none_ 39 zV 0 0 [],pS Ay 4 zV 0 0 [],pB 43 p8 (AU cell (.slice ra reps.length rc) (.slice zV 0 0) (.slice zV 0 0)),pV ra rc (N' reps) SV,pB 134 p (s_ a (.slice ea a.edges.length ec)),pB 43 p4 zD]) ?_ ?_;{
 have co:=a0.blk 9 rfl;have fw:=a0.blk 0 rfl;have a1:a.has a.start=zU->CV (GN a)=[]:=λK=>by{rw[Li (X:=GN a) (l:=[]) (Ej (Fj a)) List.Pairwise.nil λq=>⟨λh=>(by cases h),λh=>by{obtain⟨r,⟨-,W⟩,-⟩:=h;rw[K]at W;cases W}⟩]};have bq:St H H9 [pB wE nb (xP (AQ a) (.slice (N_ tb) (AQ a) (AQ a)) (.slice ma (AQ a) mc)),pT DS 189 132 tb vt (I4 a),pS Ay 4 ma (AQ a) mc (yE (AQ a) []),pS a_ 3 zV 0 0 [],pN (zF a_) none_ 39 zV 0 0 [],pG HK bb (.slice zV 0 0) ck (Jf []),pN (zF a_) none_ 39 zV 0 0 [],pS Ay 4 zV 0 0 [],pB 43 p8 (AU cell (.slice ra reps.length rc) (.slice zV 0 0) (.slice zV 0 0)),pV ra rc (N' reps) SV,pB 134 p (s_ a (.slice ea a.edges.length ec)),pB 43 p4 zD]:=(a0.nils a_ 3).pick [0,1,2,11,3,4,5,6,7,8,9,10] zQ;refine Ap.lex rfl zX (G_ MA ?_);refine C_ (v:=A_ a.start) E_ (by rw[co.cell];rfl) zA ?_;by_cases c0:0<=a.start;have e0:zT (0<=a.start)=zW:=r_ c0;(conv=>whnf);rw[e0];refine G_ MA ?_;refine C_ (v:=A_ a.start) E_ (by rw[co.cell];rfl) zA ?_;refine G_ Jq ?_;refine C_ (v:=A_ (AQ a:Int)) E_ (by rw[fw.cell];rfl) zA ?_;by_cases c1:a.start<(AQ a:Int);{have e1:zT (a.start<(AQ a:Int))=zW:=r_ c1;have K:a.has a.start=zW:=by{rw[cm,e0,e1];rfl};(conv=>whnf);rw[e1];refine G_ MA ?_;refine C_ (v:=A_ a.start) E_ (by rw[co.cell];rfl) zA ?_;refine Aj AD [A_ a.start] rfl rfl zQ zQ ?_;intro y H10 hy di dj dk;have a2:St H H10 [pB wE nb (xP (AQ a) (.slice (N_ tb) (AQ a) (AQ a)) (.slice ma (AQ a) mc)),pT DS 189 132 tb vt (I4 a),pS Ay 4 ma (AQ a) mc (yE (AQ a) []),pS a_ 3 (N_ y) [a.start].length 1 [a.start],pN (zF a_) none_ 39 zV 0 0 [],pG HK bb (.slice zV 0 0) ck (Jf []),pN (zF a_) none_ 39 zV 0 0 [],pS Ay 4 zV 0 0 [],pB 43 p8 (AU cell (.slice ra reps.length rc) (.slice zV 0 0) (.slice zV 0 0)),pV ra rc (N' reps) SV,pB 134 p (s_ a (.slice ea a.edges.length ec)),pB 43 p4 zD]:=(a0.new (T:=a_) (n:=1) (xs:=[a.start]) hy di dj dk (Ty.reps_one ⟨rfl,Hw ⟨c0,zO⟩⟩) rfl (by unfold maxLen;omega)).pick [0,1,2,11,3,4,5,6,7,8,9,10] zQ;have e:(λq=>q∈[a.start])=λq=>q=a.start/\a.has a.start=zW:=funext λq=>propext (by simp[K]);refine Sf (X:=[a.start]) a2 (λq hq=>by rw[V_]at hq;subst hq;exact K) (by simp only[b_,i_];omega) hl λxa xc H11 E=>?_;rw[e]at E ⊢;(conv=>whnf);exact⟨rfl,(xa,xc),rfl,E⟩};have e1:zT (a.start<(AQ a:Int))=zU:=n_ c1;have K:a.has a.start=zU:=by rw[cm,e0,e1];rfl
 (conv=>whnf);rw[e1];rotate_left
 have e0:zT (0<=a.start)=zU:=n_ c0;have K:a.has a.start=zU:=by rw[cm,e0];rfl
 (conv=>whnf);rw[e0];all_goals (conv=>whnf);refine⟨rfl,(zV,0),by rw[a1 K];rfl,?_⟩;rw[a1 K];exact bq};rintro⟨xa,xc⟩ H10 ek a2;simp only at a2;have cp:(CV (GN a)).length<=65536:=Kw _;have fx:OA a [CV (GN a)]:=λl hl=>by rw[V_]at hl;subst hl;exact⟨bp,cp⟩
 have ao:BA budget (Bf a) reps (CV (GN a)) 0=zY ([CV (GN a)],[]):=rfl;generalize CV (GN a)=l0 at*;refine iT (F:=[]) (S:=none_) (a2.pick [3,4,5,0,1,2,6,7,8,9,10,11] zQ) dh zZ (λq hq=>by have:=P_.has_iff.1 (bp q hq);omega) λsa sc vs S H11 D E=>?_;replace E:St H H11 [pB wE nb (xP (AQ a) (.slice (N_ tb) (AQ a) (AQ a)) (.slice ma (AQ a) mc)),pT DS 189 132 tb vt (I4 a),pS Ay 4 ma (AQ a) mc (yE (AQ a) []),pN (zF a_) S 39 sa [l0].length sc [l0],pG HK bb (.slice sa [l0].length sc) vs (Jf [l0]),pN (zF a_) none_ 39 zV 0 0 [],pS Ay 4 zV 0 0 [],pB 43 p8 (AU cell (.slice ra reps.length rc) (.slice zV 0 0) (.slice zV 0 0)),pV ra rc (N' reps) SV,pB 134 p (s_ a (.slice ea a.edges.length ec)),pB 43 p4 zD]:=E.pick [2,3,4,0,1,5,6,7,8,9,10] zQ;clear a2 a0 cj a8 dg ch I de dc F_ u8;(conv=>whnf);refine A0.mk [5,12] (λq:Nat=>[A_ 0,A_ q]) (λq H4=>∃F rows sa sc vs S na nc fa fc Sn,q<=F.length/\F.length<=budget/\F.Nodup/\OA a F/\rows.length=q/\BA budget (Bf a) reps l0 q=zY (F,rows)/\vs.length=1024/\St H H4 [pB wE nb (xP (AQ a) (.slice (N_ tb) (AQ a) (AQ a)) (.slice ma (AQ a) mc)),pT DS 189 132 tb vt (I4 a),pS Ay 4 ma (AQ a) mc (yE (AQ a) []),pN (zF a_) S 39 sa F.length sc F,pG HK bb (.slice sa F.length sc) vs (Jf F),pN (zF a_) Sn 39 na q nc (rows.map AG),pS Ay 4 fa q fc ((F.take q).map λl=>zT (a.fin∈l)),pB 43 p8 (AU cell (.slice ra reps.length rc) (.slice na q nc) (.slice fa q fc)),pV ra rc (N' reps) SV,pB 134 p (s_ a (.slice ea a.edges.length ec)),pB 43 p4 zD]) (λq _=>budget-q) ?_ ?_;{(conv=>whnf);exact⟨0,rfl,[l0],[],sa,sc,vs,S,zV,0,zV,0,none_,p_ _,by simp only[b_,i_];omega,zZ,fx,rfl,ao,D,E⟩};clear E D sa sc vs S;rintro q H12 en ⟨F,rows,sa,sc,vs,S,na,nc,fa,fc,Sn,hd,dl,fy,dm,cq,br,D,G⟩;have dn:=G.gblk 4 rfl;refine G_ Fl ?_;refine C_ (v:=.slice sa F.length sc) D7 (by rw[dn.cell];rfl) zA ?_;refine AB.m2 (λhz=>?_) (λhz=>?_);{
 have⟨x,hx⟩:=Ac (l:=F) (k:=q) zO;have⟨fz,g0⟩:=dm x (d_ hx);have P:BA budget (Bf a) reps l0 (q+1)=(reps.foldl (C6 budget (Bf a) x) (zY (F,[]))).map λr=>(r.1,rows++[r.2]):=by{show(BA budget (Bf a) reps l0 q).bind _=_;rw[br];simp only[wA,hx]};refine G_ Kn ?_;refine C_ (v:=.slice ra reps.length rc) C4 (by rw[(G.blk 7 rfl).cell,K_];exact Ho J) zA ?_;refine DH AD rfl zO zO zO zO ?_;intro rb H13 g5 dp bu dq;rw[O']at bu ⊢;have g6:a_.reps none_ H13 (AnL reps.length (Value.int .i64 0)) (AnL reps.length (0:Int)):=by{have:=Fu (T:=a_) (S:=none_) (H:=H13) (c:=[Value.int .i64 0]) (v:=(0:Int)) ⟨rfl,Hw ⟨zQ,zQ⟩⟩ reps.length;simpa using this};have m:=G.new (T:=a_) (n:=reps.length) (xs:=AnL reps.length (0:Int)) g5 dp (by simpa using bu) dq g6 zZ (by unfold maxLen;omega);(conv=>whnf);refine A0.mk [14,15] (λi:Nat=>[.bool (zT (a.fin∈x.take i)),A_ i]) (λi H4=>i<=x.length/\St H H4 [pB wE nb (xP (AQ a) (.slice (N_ tb) (AQ a) (AQ a)) (.slice ma (AQ a) mc)),pT DS 189 132 tb vt (I4 a),pS Ay 4 ma (AQ a) mc (yE (AQ a) []),pN (zF a_) S 39 sa F.length sc F,pG HK bb (.slice sa F.length sc) vs (Jf F),pN (zF a_) Sn 39 na q nc (rows.map AG),pS Ay 4 fa q fc ((F.take q).map λl=>zT (a.fin∈l)),pB 43 p8 (AU cell (.slice ra reps.length rc) (.slice na q nc) (.slice fa q fc)),pV ra rc (N' reps) SV,pB 134 p (s_ a (.slice ea a.edges.length ec)),pB 43 p4 zD,pS a_ 3 (N_ rb) reps.length reps.length (AnL reps.length (0:Int))]) (λi _=>x.length-i) ?_ ?_;{(conv=>whnf);exact⟨0,zZ,p_ _,m⟩};clear m;rintro i H14 eo ⟨hi,A⟩;have ap:=A.gblk 4 rfl;have dr:=A.blk 9 rfl;refine G_ Fl ?_;refine C_ (v:=.slice sa F.length sc) D7 (by rw[ap.cell];rfl) zA ?_;refine zK (j:=q) Dj A 3 rfl hx rfl ?_;rintro b3 o3 c3 bg ab ⟨g7,g8,rfl,bh⟩;refine lT C4 ab.one ?_;refine AB.m2 (λcr=>?_) (λcr=>?_);{
 have⟨y,hy⟩:=Ac (l:=x) (k:=i) zO;have dt:=Ab hy;refine Ap.lex rfl zX ?_;by_cases hm:a.fin∈x.take i;have e1:zT (a.fin∈x.take i)=zW:=r_ hm;have e2:zT (a.fin∈x.take (i+1))=zW:=r_ (by rw[dt];exact yO _ hm);(conv=>whnf);rw[e1];rotate_left
 have e1:zT (a.fin∈x.take i)=zU:=n_ hm;have e2:zT (a.fin∈x.take (i+1))=(y==a.fin):=by{rw[dt,Bool.eq_iff_iff,z',k_,V_,beq_iff_eq];exact⟨λh=>(h.resolve_left hm).symm,λh=>.inr h.symm⟩};(conv=>whnf);rw[e1];refine G_ Fl ?_;refine C_ (v:=.slice sa F.length sc) D7 (by rw[ap.cell];rfl) zA ?_;refine zK (j:=q) Dj A 3 rfl hx rfl ?_;rintro b4 o4 c4 du bi ⟨g9,ga,rfl,a6⟩;refine C_ C4 bi.one zA (U' (i:=i) AD a6 hy rfl ?_);rintro b5 o5 c5 dv bj ⟨rfl,-⟩;refine C_ E_ bj.one zA (G_ SW ?_);refine C_ (v:=A_ a.fin) E_ (by rw[dr.cell];rfl) zA ?_;all_goals (conv=>whnf);rw[R_ i zO];exact⟨rfl,i+1,by rw[e2];rfl,⟨zO,A⟩,zO⟩};obtain rfl:i=x.length:=zO;rw[M'];(conv=>whnf);refine A0.mk [5,16] (λk:Nat=>[A_ 0,A_ k]) (λk H4=>∃F2 row sa sc vs S,k<=reps.length/\F2.length<=budget/\F2.Nodup/\OA a F2/\F <+: F2/\row.length=k/\(reps.take k).foldl (C6 budget (Bf a) x) (zY (F,[]))=zY (F2,row)/\vs.length=1024/\St H H4 [pB wE nb (xP (AQ a) (.slice (N_ tb) (AQ a) (AQ a)) (.slice ma (AQ a) mc)),pT DS 189 132 tb vt (I4 a),pS Ay 4 ma (AQ a) mc (yE (AQ a) []),pN (zF a_) S 39 sa F2.length sc F2,pG HK bb (.slice sa F2.length sc) vs (Jf F2),pN (zF a_) Sn 39 na q nc (rows.map AG),pS Ay 4 fa q fc ((F.take q).map λl=>zT (a.fin∈l)),pB 43 p8 (AU cell (.slice ra reps.length rc) (.slice na q nc) (.slice fa q fc)),pV ra rc (N' reps) SV,pB 134 p (s_ a (.slice ea a.edges.length ec)),pB 43 p4 zD,pS a_ 3 (N_ rb) reps.length reps.length (AG row++AnL (reps.length-row.length) 0)]) (λk _=>reps.length-k) ?_ ?_;{(conv=>whnf);exact⟨0,rfl,F,[],sa,sc,vs,S,p_ _,dl,fy,dm,vW _,rfl,rfl,D,A⟩};clear A ap dr bh ab bg dn D G;rintro k H15 ep ⟨F2,row,sa,sc,vs,S,hk,aq,ar,au,aw,Q,a4,D,M⟩;have ct:=El aw hx;refine G_ Kn ?_;refine C_ (v:=.slice ra reps.length rc) C4 (by rw[(M.blk 7 rfl).cell,K_];exact Ho J) zA ?_;refine AB.m2 (λcr=>?_) (λcr=>?_);{have⟨r,cu⟩:=Ac (l:=reps) (k:=k) zO;have cw:=bo r (d_ cu);have a3:=M.nils a_ 3;(conv=>whnf);refine A0.mk [17,18] (λy:Nat×List Int×Option Addr×Nat=>match y with | (i,T,t5,t6)=>[.slice t5 T.length t6,A_ i]) (λy H4=>match y with | (i,T,t5,t6)=>i<=x.length/\T.length<=i*33554432/\(∀p,p∈T↔ML a (·∈x.take i) r p)/\St H H4 [pB wE nb (xP (AQ a) (.slice (N_ tb) (AQ a) (AQ a)) (.slice ma (AQ a) mc)),pT DS 189 132 tb vt (I4 a),pS Ay 4 ma (AQ a) mc (yE (AQ a) []),pN (zF a_) S 39 sa F2.length sc F2,pG HK bb (.slice sa F2.length sc) vs (Jf F2),pN (zF a_) Sn 39 na q nc (rows.map AG),pS Ay 4 fa q fc ((F.take q).map λl=>zT (a.fin∈l)),pB 43 p8 (AU cell (.slice ra reps.length rc) (.slice na q nc) (.slice fa q fc)),pV ra rc (N' reps) SV,pB 134 p (s_ a (.slice ea a.edges.length ec)),pB 43 p4 zD,pS a_ 3 (N_ rb) reps.length reps.length (AG row++AnL (reps.length-row.length) 0),pS a_ 3 t5 T.length t6 T]) (λy _=>x.length-y.1) ?_ ?_;{(conv=>whnf);refine⟨(0,[],zV,0),rfl,p_ _,p_ _,λp=>⟨λh=>(by cases h),λh=>?_⟩,a3⟩;obtain⟨e,-,-,-,h,-⟩:=h;simp at h};clear a3;rintro⟨i,T,t5,t6⟩ H17 eu ⟨hi,cx,hT,g⟩;have R:=g.gblk 4 rfl;refine G_ Fl ?_;refine C_ (v:=.slice sa F2.length sc) D7 (by rw[R.cell];rfl) zA ?_;refine zK (j:=q) Dj g 3 rfl ct rfl ?_;rintro b3 o3 c3 bg ab ⟨g7,g8,rfl,bh⟩;refine lT C4 ab.one ?_;refine AB.m2 (λgb=>?_) (λgb=>?_);{have⟨y,hy⟩:=Ac (l:=x) (k:=i) zO;have dw:=fz y (d_ hy);have⟨N,ax,O,cy⟩:=V6 dw;have hg:0<=y/\y<(AQ a:Int):=by{have:=Kr a y;rw[dw]at this;simpa using this.symm};obtain⟨hh,hn,dx,-⟩:=g.row 1 rfl ax;refine Ap.lex rfl zX (G_ ME ?_);refine lT (v:=.slice (N_ tb) (AQ a) (AQ a)) UT ((g.blk 0 rfl).ce rfl) ?_;refine G_ Fl ?_;refine C_ (v:=.slice sa F2.length sc) D7 (by rw[R.cell];rfl) zA ?_;refine zK (j:=q) Dj g 3 rfl ct rfl ?_;rintro b4 o4 c4 du bi ⟨g9,ga,rfl,a6⟩;refine C_ C4 bi.one zA (U' (i:=i) AD a6 hy rfl ?_);rintro b5 o5 c5 dv bj ⟨rfl,-⟩;refine C_ E_ bj.one zA (ix VY zO zO (C_ EB (g.tcell 1 rfl dx (by rw[K_,Nat.mul_one])) zA ?_));(conv=>whnf);refine A0.mk [17,20] (λz:Nat×List Int×Option Addr×Nat=>match z with | (j,T',t5,t6)=>[.slice t5 T'.length t6,A_ j]) (λz H4=>match z with | (j,T',t5,t6)=>j<=N.length/\T'.length<=i*33554432+j/\(∀p,p∈T'↔ML a (·∈x.take i) r p\/∃e∈N.take j,e.sil=zU/\e.set.getLsbD r=zW/\p=e.to)/\St H H4 [pB wE nb (xP (AQ a) (.slice (N_ tb) (AQ a) (AQ a)) (.slice ma (AQ a) mc)),pT DS 189 132 tb vt (I4 a),pS Ay 4 ma (AQ a) mc (yE (AQ a) []),pN (zF a_) S 39 sa F2.length sc F2,pG HK bb (.slice sa F2.length sc) vs (Jf F2),pN (zF a_) Sn 39 na q nc (rows.map AG),pS Ay 4 fa q fc ((F.take q).map λl=>zT (a.fin∈l)),pB 43 p8 (AU cell (.slice ra reps.length rc) (.slice na q nc) (.slice fa q fc)),pV ra rc (N' reps) SV,pB 134 p (s_ a (.slice ea a.edges.length ec)),pB 43 p4 zD,pS a_ 3 (N_ rb) reps.length reps.length (AG row++AnL (reps.length-row.length) 0),pS a_ 3 t5 T'.length t6 T']) (λz _=>N.length-z.1) ?_ ?_;{(conv=>whnf);exact⟨(0,T,t5,t6),rfl,p_ _,yS cx (Nat.le_add_right _ _),λp=>by rw[hT p];simp,g⟩};clear g hT cx R a6 bi du bj dv bh ab bg;rintro⟨j,T',t5,t6⟩ H18 ev ⟨hj,gz,bm,d⟩;have⟨ho,hw,bv,cz⟩:=d.row 1 rfl ax;rw[dx]at bv;injection bv with e0;injection e0 with e1 e2 e3;subst e1;subst e3;refine AB.m2 (λgc=>?_) (λgc=>?_);{have⟨e,he⟩:=Ac (l:=N) (k:=j) zO;have⟨i0,i1,gd⟩:=(cy e).1 (d_ he);have i2:=P_.has_iff.1 gd;have d0:Y_ tI SV H18 ra rc (N' reps):=d.at_ 8 rfl;have skip:(e.sil=zU->e.set.getLsbD r=zU)->∀p,p∈T'↔ML a (·∈x.take i) r p\/∃e∈N.take (j+1),e.sil=zU/\e.set.getLsbD r=zW/\p=e.to:=λa1 p=>by{rw[bm p,Ab he];constructor;{rintro(h | ⟨e',w,W,Y,U⟩);{exact .inl h};exact .inr ⟨e',yO _ w,W,Y,U⟩};rintro(h | ⟨e',w,W,Y,U⟩);{exact .inl h};rcases k_.1 w with w | w;{exact .inr ⟨e',w,W,Y,U⟩};rw[V_]at w;subst w;rw[a1 W]at Y;cases Y};refine A7.run (Ap.lex rfl zX (U' (i:=j) Ec cz he rfl ?_));rintro b6 o6 c6 f5 c2 ⟨rfl,-⟩;refine G_ OY (C_ (v:=.bool e.sil) zE (c2 2 _ rfl) zA ?_);cases Z:e.sil with|true=>(conv=>whnf);rw[R_ j zO];exact⟨rfl,(j+1,T',t5,t6),zZ,⟨zO,zO,skip λh=>(by rw[Z]at h;cases h),d⟩,by simp only;omega⟩|false=>{refine G_ Kn ?_;refine C_ (v:=.slice ra reps.length rc) C4 (by rw[(d.blk 7 rfl).cell,K_];exact Ho J) zA ?_;refine DY (i:=k) AD d0 (C8 _).symm (HT cu) rfl ?_;rintro b7 o7 c7 f6 ce ⟨rfl,-⟩;refine C_ E_ ce.one zA (U' (i:=j) Ec cz he rfl ?_);rintro b8 o8 c8 i3 gf ⟨rfl,-⟩;refine G_ Ta (V' FT zO zO ?_);refine C_ (v:=.bool (e.set.getLsbD r)) zE (by rw[(zO:o8+3+(r:Int).toNat*1=o8+(3+r))];exact gf (3+r) _ (bQ e cw)) zA ?_;cases bw:e.set.getLsbD r with|false=>(conv=>whnf);rw[R_ j zO];exact⟨rfl,(j+1,T',t5,t6),zZ,⟨zO,zO,skip λ_=>bw,d⟩,by simp only;omega⟩|true=>{refine U' (i:=j) Ec cz he rfl ?_;rintro b9 o9 c9 i4 gg ⟨rfl,cd⟩;refine G_ HZ (C_ (v:=A_ e.to) E_ (gg 1 _ rfl) zA (Aj AD [A_ e.to] rfl rfl zQ zQ ?_));intro i5 H19 dy h0 dz e4;refine iV (ys:=[e.to]) (d.skip dy e4) 12 AD rfl (dz.cells (o:=0) (cs:=[A_ e.to]) λj v hv=>by rw[K_];exact hv) (Ty.reps_one ⟨rfl,cd.2⟩) rfl (λu hu=>by cases V_.1 hu;rfl) (by simp only[b_,i_];omega) zQ λgh gi H20 B _=>?_;have el:T'.length+[e.to].length=(T'++[e.to]).length:=zZ;rw[el]at B ⊢;(conv=>whnf);rw[R_ j zO];refine⟨rfl,(j+1,T'++[e.to],gh,gi),zZ,⟨zO,by simp only[O_,b_,i_];omega,λp=>?_,B⟩,by simp only;omega⟩;rw[k_,bm p,Ab he,V_];constructor;{rintro((h | ⟨e',w,W,Y,U⟩) | h);{exact .inl h};{exact .inr ⟨e',yO _ w,W,Y,U⟩};exact .inr ⟨e,zZ,Z,bw,h⟩};rintro(h | ⟨e',w,W,Y,U⟩);{exact .inl (.inl h)};rcases k_.1 w with w | w;{exact .inl (.inr ⟨e',w,W,Y,U⟩)};rw[V_]at w;subst w;exact .inr U}}};obtain rfl:j=N.length:=zO;rw[M']at bm;(conv=>whnf);rw[R_ i zO];refine⟨rfl,(i+1,T',t5,t6),zZ,⟨zO,zO,λp=>?_,d⟩,by simp only;omega⟩;rw[bm p,Ab hy];unfold ML;constructor;{rintro(⟨e,w,W,Y,U,h5,h6⟩ | ⟨e,w,W,Y,U⟩);{exact⟨e,w,W,Y,yO _ U,h5,h6⟩};have⟨g1,g2,g3⟩:=(cy e).1 w;exact⟨e,g1,W,Y,by rw[g2];simp,g3,U⟩};rintro⟨e,w,W,Y,U,h5,h6⟩;rcases k_.1 U with U | U;{exact .inl ⟨e,w,W,Y,U,h5,h6⟩};rw[V_]at U;exact .inr ⟨e,(cy e).2 ⟨w,U,h5⟩,W,Y,h6⟩};obtain rfl:i=x.length:=zO;rw[M']at hT;have gj:∀q∈T,a.has q=zW:=λq hq=>by{obtain⟨e,-,-,-,-,h5,rfl⟩:=(hT q).1 hq;exact h5};have e6:(λq=>q∈T)=ML a (·∈x) r:=funext λq=>propext (hT q);have e7:T.length<=2199023255552:=yS cx (by have:=wO 33554432 g0;omega);have e8:CV (clS a λq=>q∈T)=Bf a x r:=by{rw[e6];rfl};have V:(reps.take (k+1)).foldl (C6 budget (Bf a) x) (zY (F,[]))=(I' budget F2 (Bf a x r)).map λt=>(t.1,row++[t.2]):=by{rw[Ab cu,xO,a4];rfl};clear bh ab bg R;refine Sf (X:=T) (g.pick [0,1,2,12,3,4,5,6,7,8,9,10,11] zQ) gj e7 hl λla lc H18 d=>?_;rw[e8]at d ⊢;have gk:∀q∈Bf a x r,a.has q=zW:=Lx;have gl:(Bf a x r).length<=65536:=NO;have e9:∀q∈Bf a x r,0<=q/\q<65536:=λq hq=>by{have:=P_.has_iff.1 (gk q hq);omega};have eb:∀t F3,I' budget F2 (Bf a x r)=zY (F3,t)->F3.length<=budget/\F3.Nodup/\OA a F3/\F <+: F3:=λt F3 h=>by{have⟨z1,z2,z3,z4⟩:=M1 h aq ar;exact⟨z2,z3,au.at_ h,aw.trans z4⟩};have d5:I' budget F2 (Bf a x r)=zV->Dt budget (Bf a) reps l0=zV:=λh=>by{rw[h]at V;have a1:reps.foldl (C6 budget (Bf a) x) (zY (F,[]))=zV:=by{have Y:=(uT (k+1) reps).symm;rw[Y,xO,V];exact FK x _};exact KX (n:=q) (by rw[P,a1];rfl) zO};generalize Bf a x r=L at*;have ay:St H H18 [pN (zF a_) S 39 sa F2.length sc F2,pG HK bb (.slice sa F2.length sc) vs (Jf F2),pB wE nb (xP (AQ a) (.slice (N_ tb) (AQ a) (AQ a)) (.slice ma (AQ a) mc)),pT DS 189 132 tb vt (I4 a),pS Ay 4 ma (AQ a) mc (yE (AQ a) []),pN (zF a_) Sn 39 na q nc (rows.map AG),pS Ay 4 fa q fc ((F.take q).map λl=>zT (a.fin∈l)),pB 43 p8 (AU cell (.slice ra reps.length rc) (.slice na q nc) (.slice fa q fc)),pV ra rc (N' reps) SV,pB 134 p (s_ a (.slice ea a.edges.length ec)),pB 43 p4 zD,pS a_ 3 (N_ rb) reps.length reps.length (AG row++AnL (reps.length-row.length) 0)]:=d.pick [4,5,0,1,2,6,7,8,9,10,11,12] zQ;refine Al (AlQ ay D ar zO (λz hz=>(au z hz).2) (d.view 3 rfl) e9 gl) λH19 ed=>?_;have C:=d.call ed;clear d ay;(conv=>whnf);refine A7.cut (α:=Nat) [5,22] (λt=>[A_ 0,A_ t]) (λt H4=>∃F3 sa sc vs S,I' budget F2 L=zY (F3,t)/\vs.length=1024/\St H H4 [pB wE nb (xP (AQ a) (.slice (N_ tb) (AQ a) (AQ a)) (.slice ma (AQ a) mc)),pT DS 189 132 tb vt (I4 a),pS Ay 4 ma (AQ a) mc (yE (AQ a) []),pN (zF a_) S 39 sa F3.length sc F3,pG HK bb (.slice sa F3.length sc) vs (Jf F3),pN (zF a_) Sn 39 na q nc (rows.map AG),pS Ay 4 fa q fc ((F.take q).map λl=>zT (a.fin∈l)),pB 43 p8 (AU cell (.slice ra reps.length rc) (.slice na q nc) (.slice fa q fc)),pV ra rc (N' reps) SV,pB 134 p (s_ a (.slice ea a.edges.length ec)),pB 43 p4 zD,pS a_ 3 (N_ rb) reps.length reps.length (AG row++AnL (reps.length-row.length) 0)]) ?_ ?_;{(conv=>whnf);cases hf:F2.findIdx? (·=L)with|some t=>have e1:Ri F2 L=(t:Int):=by{unfold Ri;rw[hf]};have az:I' budget F2 L=zY (F2,t):=by{unfold I';rw[hf]};have d3:zT (Ri F2 L<0)=zU:=by{rw[e1];exact g_};(conv=>whnf);rw[d3];(conv=>whnf);exact⟨rfl,t,by rw[e1],F2,sa,sc,vs,S,az,D,C.pick [0,1,2,4,5,6,7,8,9,10,11,12] zQ⟩|none=>have e1:Ri F2 L= -1:=by{unfold Ri;rw[hf]};have d3:zT (Ri F2 L<0)=zW:=by{rw[e1];rfl};(conv=>whnf);rw[d3];refine G_ Fl ?_;refine C_ (v:=.slice sa F2.length sc) D7 (by rw[(C.gblk 5 rfl).cell];rfl) zA ?_;by_cases d6:F2.length=budget;{have d4:((F2.length:Int)==(budget:Int))=zW:=by{rw[d6];simp};have az:I' budget F2 L=zV:=by{unfold I';rw[hf];simp only;rw[I_ zO]};have b0:=d5 az;(conv=>whnf);rw[d4];refine Ae.mk (K5 H19) ?_;rintro v3 H20 ⟨bd,-,gm⟩;obtain⟨ae,x1,x2,x3,x4,x5,x6,rfl,-,-,-⟩:=gm;have B:=C.call bd;refine AI (cs:=AU AJ.cell (.slice x1 AJ.reps.length x2) (.slice x3 AJ.next.length x4) (.slice x5 AJ.final.length x6)) B 11 (by rw[Av ae];rfl) rfl (by rw[Av ae];decide) (Be rfl rfl rfl) λH21 s=>?_;rw[Bu (by rw[Av ae];rfl)]at s;refine L_ (cs:=AU AJ.cell (.slice x1 AJ.reps.length x2) (.slice x3 AJ.next.length x4) (.slice x5 AJ.final.length x6)) (by rw[Av ae];exact Ew) ((s.blk 11 rfl).cells λj v hv=>by rw[K_];exact hv) zA ?_;refine⟨s.old,?_⟩;rw[b0];exact⟨_,rfl,Av ae,Be rfl rfl rfl,_,_,_,Dp ae⟩};have d4:((F2.length:Int)==(budget:Int))=zU:=beq_eq_false_iff_ne.2 zO;have az:I' budget F2 L=zY (F2++[L],F2.length):=by{unfold I';rw[hf];simp only;rw[J_ zO]};(conv=>whnf);rw[d4];refine iT (F:=F2) (S:=S) (C.pick [3,4,5,0,1,2,6,7,8,9,10,11,12] zQ) D zO e9 λgn gp gq S2 H20 ee B=>?_;(conv=>whnf);exact⟨rfl,F2.length,rfl,F2++[L],gn,gp,gq,S2,az,ee,B.pick [2,3,4,0,1,5,6,7,8,9,10,11] zQ⟩};rintro t H20 ew ⟨F3,sa,sc,vs,S,d7,D,B⟩;have⟨g1,g2,g3,g4⟩:=eb t F3 d7;obtain⟨-,i6⟩:=XR d7 aq;have gr:(AG row++AnL (reps.length-row.length) 0).length=reps.length:=by{unfold AG;rw[O_,e_,List.length_replicate];omega};refine ix AD zO zO ?_;refine LB (j:=k) (x:=(t:Int)) B 11 E_ rfl rfl zO (by rw[gr];omega) rfl (λH' _=>⟨rfl,Hw ⟨zO,zO⟩⟩) λH21 s=>?_;rw[Aj1 Q zO]at s;rw[d7]at V;(conv=>whnf);rw[R_ k zO];exact⟨rfl,k+1,zZ,⟨F3,row++[t],sa,sc,vs,S,zO,g1,g2,g3,g4,by simp[Q],V,D,s⟩,zO⟩};obtain rfl:k=reps.length:=zO;rw[M']at a4;have gs:(AG row).length=reps.length:=by unfold AG;rw[e_,Q]
 have gt:AG row++AnL (reps.length-row.length) 0=AG row:=by rw[Q,Nat.sub_self];simp
 rw[gt]at M;rw[a4]at P;simp only[wP]at P;have O:(rows.map AG).length=q:=by rw[e_];exact cq
 have ef:((F2.take (q+1)).map λl=>zT (a.fin∈l))=((F.take q).map λl=>zT (a.fin∈l))++[zT (a.fin∈x)]:=by{obtain⟨t,rfl⟩:=aw;rw[nC zO,Ab hx,yV];rfl};have be:((F.take q).map λl=>zT (a.fin∈l)).length=q:=by rw[e_,wI];omega
 obtain⟨i7,i8,er,d8,-⟩:=(M.at_ 11 rfl).1.view (S':=Q_ (.slice (N_ rb) reps.length reps.length)) (λb hb=>hb) (λb hb=>hb.elim);injection er with er1 er2 er3;subst er1;subst er3;have a3:=B_.absorb (M.pick [5,11,0,1,2,3,4,6,7,8,9,10] zQ);refine G_ EQ ?_;refine C_ (v:=.slice na q nc) D7 (by rw[(a3.blk 7 rfl).cell,K_];exact Dp J) zA ?_;refine Aj Dj [.slice (N_ rb) reps.length reps.length] rfl rfl zQ zQ ?_;intro i9 H17 eg h7 eh bx;have g:=a3.skip eg bx;have bn:Y_ a_ (λk=>Sn k\/Q_ (.slice (N_ rb) reps.length reps.length) k) H17 (N_ rb) reps.length (AG row):=(d8.frame (bx.mono λk hk=>by{have:=(M.in_ 11 rfl (.inl hk)).2;omega})).mono λk hk=>.inr hk;refine U9 (row:=AG row) g Dj (eh.cells λj v hv=>by rw[K_];exact hv) ⟨zY ⟨rb,0,zV⟩,reps.length,by rw[gs],bn⟩ rfl (λu hu=>by cases V_.1 hu;rfl) (by rw[O];omega) zQ λgu gv H18 d=>?_;have e5:rows.map AG++[AG row]=(rows++[row]).map AG:=zZ;rw[O,e5]at d;rw[O];refine G_ EQ ?_;refine Bb d 7 D7 rfl (by rw[f];decide) rfl λH19 C=>?_;rw[K_,Of J]at C;refine G_ Js ?_;refine C_ (v:=.slice fa q fc) FX (by rw[(C.blk 7 rfl).cell,K_];exact Kf J) zA ?_;refine Aj Ci [.bool (zT (a.fin∈x))] rfl rfl zQ zQ ?_;intro ia H20 ei h8 ej bd;refine IA (x:=zT (a.fin∈x)) (C.skip ei bd) 6 Ci rfl ej rfl rfl (by rw[be];omega) zQ λgw gx H21 s _=>?_;rw[be,<-ef]at s;rw[be];refine G_ Js ?_;refine Bb s 7 FX rfl (by rw[f];decide) rfl λH22 bz=>?_;rw[K_,Og J]at bz;(conv=>whnf);rw[R_ q zO];refine⟨rfl,q+1,zZ,⟨F2,rows++[row],sa,sc,vs,S,gu,gv,gw,gx,_,?_,aq,ar,au,by simp[cq],P,D,bz.pick [1,2,3,4,5,0,6,7,8,9,10] zQ⟩,zO⟩;have:=(T_.1 ct).1;omega};obtain rfl:q=F.length:=zO;have O:(rows.map AG).length=F.length:=by rw[e_];exact cq
 have b0:=KW br rfl dl;rw[M']at G;have d9:(F.map λl=>zT (a.fin∈l)).length=F.length:=e_ _;refine L_ (cs:=AU cell (.slice ra reps.length rc) (.slice na F.length nc) (.slice fa F.length fc)) (by rw[f];exact Ew) ((G.blk 7 rfl).cells λj v hv=>by rw[K_];exact hv) zA ?_;refine AI (cs:=AU cell (.slice ra reps.length rc) (.slice na F.length nc) (.slice fa F.length fc)) G 10 (by rw[f];rfl) rfl (by rw[f];decide) (Be rfl rfl rfl) λH13 m=>?_;rw[Bu (by rw[f];rfl)]at m;refine L_ (cs:=AU cell (.slice ra reps.length rc) (.slice na F.length nc) (.slice fa F.length fc)) (by rw[f];exact Ew) ((m.blk 10 rfl).cells λj v hv=>by rw[K_];exact hv) zA ?_;refine⟨m.old,?_⟩;rw[b0];refine⟨_,rfl,J,ra,rc,na,nc,fa,fc,?_,?_,St.viewF m 5 rfl,St.viewF m 6 rfl⟩;{rw[C8,O,d9]};have d0:Y_ tI SV H13 ra rc (N' reps):=m.at_ 8 rfl;refine d0.mono λk hk=>?_;have h5:=m.in_ 8 rfl hk;unfold Cr;have h6:¬H_ H k:=h5.1;unfold H_ at h6;omega
end
def DZ(cells:List (BitVec 256))(g:Nat):Bool:=(AnZ g).all λh=> !BT cells g h
section
variable{cells:List (BitVec 256)}
def By{a:Nat}:BT cells a b=zW↔∀c∈cells,c.getLsbD a=c.getLsbD b:=by unfold BT;simp
def Hx{g:Nat}:DZ cells g=zW↔∀h,h<g->BT cells g h=zU:=by unfold DZ;simp
def Jm:∀h,BT cells b h=zW->∃g,g<=h/\BT cells b g=zW/\DZ cells g=zW:=by intro h;induction h using Nat.strongRecOn with|_ h ih=>{intro i;by_cases j:DZ cells h=zW;{exact⟨h,M_ _,i,j⟩};have:∃a,a<h/\BT cells h a=zW:=by{apply Classical.byContradiction;intro d;apply j;rw[Hx];intro a e;cases hs:BT cells h a with|false=>rfl|true=>exact absurd ⟨a,e,hs⟩ d};have⟨a,f,hs⟩:=this;have⟨g,g1,g2,l⟩:=ih a f (By.2 λc k=>(By.1 i c k).trans (By.1 hs c k));exact⟨g,zO,g2,l⟩}
end
def Jd(cells:List (BitVec 256)):∀b,(Ak cells b).1=(AnZ b).filter (DZ cells)| 0=>rfl | b+1=>by have a:=Jd cells b;rw[xW,vI];cases c:(Ak cells b).1.findIdx? λg=>BT cells b g with
   | some k=>
     rw[LJ c];obtain⟨i,f,-⟩:=vC.1 c;have d:(Ak cells b).1[k]∈(AnZ b).filter (DZ cells):=by rw[<-a];exact List.getElem_mem i
     have e:=yR.1 (zP.1 d).1;have:DZ cells b=zU:=by
      cases j:DZ cells b with
      | false=>rfl
      | true=>rw[Hx.1 j _ e]at f;cases f
     rw[vN (by rw[this];decide)];simpa using a
   | none=>
     rw[P9 c];have:DZ cells b=zW:=by
      rw[Hx];intro h m;cases hs:BT cells b h with
      | false=>rfl
      | true=>
        have⟨g,g1,g2,l⟩:=Jm h hs;have d:g∈(Ak cells b).1:=by rw[a];exact zP.2 ⟨yR.2 zO,l⟩
        have:=fW.1 c g d;rw[g2]at this;cases this
     rw[wY this,a];rfl
def Iq(x y:BitVec 256):Prop:=∀c,x.getLsbD c=zW->y.getLsbD c=zU
def SM{s b:BitVec 256}(h:x∈LT s b):x=b &&& s\/x=b &&& ~~~s:=by have:=(zP.1 h).1;simpa using this
def M2(sets:List (BitVec 256)):(CL sets).Pairwise Iq:=by have e:∀(rest d:List (BitVec 256)),d.Pairwise Iq->(rest.foldl Ow d).Pairwise Iq:=by{intro rest;induction rest with|nil=>exact λd h=>h|cons s rest i=>{intro d h;refine i _ ?_;unfold Ow;rw[fX];refine⟨λb n=>?_,h.imp fun{x y} f u j v k c a=>?_⟩;{refine List.Pairwise.filter _ (vL.2 ⟨λy g c a=>?_,tP _ _⟩);rw[V_]at g;subst g;rw[wQ,X']at a;rw[wQ,rP,a.2];simp};have l:x.getLsbD c=zW:=by{rcases SM j with rfl | rfl<;>· rw[wQ,X']at a;exact a.1};have m:=f c l;rcases SM k with rfl | rfl<;>rw[wQ,m,vP]}};exact e sets _ (tP _ _)
def W0(sets:List (BitVec 256)):∀x∈CL sets,∀c d,c<256->d<256->(∀s∈sets,s.getLsbD c=s.getLsbD d)->x.getLsbD c=x.getLsbD d:=by have i:∀(rest g:List (BitVec 256)) (c d:Nat),c<256->d<256->(∀x∈g,x.getLsbD c=x.getLsbD d)->(∀s∈rest,s.getLsbD c=s.getLsbD d)->∀x∈rest.foldl Ow g,x.getLsbD c=x.getLsbD d:=by{intro rest;induction rest with|nil=>exact λg c d _ _ h _=>h|cons s rest n=>{intro g c d e f h k;refine n _ c d e f (λx a=>?_) λo j=>k o (yH _ j);have⟨b,p,a⟩:=uH.1 a;have l:=h b p;have m:=k s (xI ..);rcases SM a with rfl | rfl;{rw[wQ,wQ,l,m]};rw[wQ,wQ,rP,rP,l,m];simp[e,f]}};intro x a c d e f hs;refine i sets _ c d e f (λx a=>?_) hs x a;rw[V_]at a;subst a;rw[tR,tR];simp[e,f]
def iC{l:List (BitVec 256)}(h:l.Pairwise Iq)(a:∀x∈l,x.getLsbD b=zW)(d:l≠[]):∃x,l=[x]:=by match l,d with|[x],_=>exact⟨x,rfl⟩|x::y::r,_=>have c:=(vL.1 h).1 y zZ b (a x zZ);rw[a y zZ]at c;cases c
def Nf(sets:List (BitVec 256)):CY sets=(AnZ 256).filter (DZ sets):=by have a:=J9 sets;have i:∀b,b<256->(Cp (CL sets) b).map (λc=>(AX c 0).1)=if DZ sets b then [b]else []:=by{intro b o;have d:∀x∈Cp (CL sets) b,x∈CL sets/\(AX x 0).1=b/\x.getLsbD b=zW:=λx e=>by{have⟨j,q⟩:=zP.1 e;have p:(AX x 0).1=b:=by{simpa using q};have g:=(HA (a.ne x j)).1;rw[p]at g;exact⟨j,p,g⟩};cases k:DZ sets b with|false=>{rw[I_ zQ];have:Cp (CL sets) b=[]:=by{apply Classical.byContradiction;intro m;have⟨x,e⟩:=List.exists_mem_of_ne_nil _ m;have⟨j,q,p⟩:=d x e;have:∃h,h<b/\BT sets b h=zW:=by{apply Classical.byContradiction;intro r;have:DZ sets b=zW:=Hx.2 λh s=>by{cases hs:BT sets b h with|false=>rfl|true=>exact absurd ⟨h,s,hs⟩ r};rw[k]at this;cases this};have⟨h,s,hs⟩:=this;have g:=W0 sets x j b h o zO (By.1 hs);rw[p]at g;have A:=(HA (a.ne x j)).2 h (by rw[q];exact s);rw[A]at g;cases g};rw[this];rfl}|true=>{rw[J_ rfl];have⟨x,e,f⟩:=a.all b o;have⟨B,C⟩:=HA (a.ne x e);have t:(AX x 0).1=b:=by{apply Classical.byContradiction;intro m;have u:(AX x 0).1<b:=by{rcases Nat.lt_or_ge b (AX x 0).1 with h | h;{rw[C b h]at f;cases f};omega};have hs:=a.same x e b _ f B;have:=Hx.1 k _ u;rw[By.2 hs]at this;cases this};have n:x∈Cp (CL sets) b:=zP.2 ⟨e,by rw[t];simp⟩;have⟨y,w⟩:=iC (l:=Cp (CL sets) b) (b:=b) ((M2 sets).filter _) (λz D=>(d z D).2.2) (fZ n);rw[w];have:=(d y (by rw[w];simp)).2.1;simp only[wF,uQ,this]}};unfold CY BB;rw[List.map_flatMap];have v:∀l:List Nat,(∀b∈l,b<256)->(l.flatMap λb=>(Cp (CL sets) b).map λc=>(AX c 0).1)=l.filter (DZ sets):=by{intro l;induction l with|nil=>exact λ_=>rfl|cons b l E=>{intro h;rw[vQ,i b (h b (xI ..)),E λx e=>h x (yH _ e)];cases k:DZ sets b with|true=>rw[wY k];rfl|false=>rw[vN (by rw[k];decide)];rfl}};exact v _ λb o=>yR.1 o
section
attribute [local irreducible] Bs AE Ak
section
variable{K:Type} [DecidableEq K]{most:Nat}{step:K->Nat->K}{start:K}{P:K->Prop}{x:K}
def VI(s:Option (List K×List Nat))(b:Nat):(C6 most step x s b).map Prod.fst=(s.map Prod.fst).bind λf=>(I' most f (step x b)).map Prod.fst:=by cases s with|none=>rfl|some p=>simp only[C6,wA,wP];cases I' most p.1 (step x b)<;>rfl
def AgI{f:List K}{k:K}{i:Nat}(b:f.Nodup)(h:f[i]?=zY k):I' most f k=zY (f,i):=by unfold I';have:f.findIdx? (·=k)=zY i:=by{rw[vC];have⟨a,e⟩:=T_.1 h;refine⟨a,by simpa using e,λj c=>?_⟩;have:=(xU.1 b) j i zO a c;rw[e]at this;simpa using this};rw[this]
def P8{F F':List K}{k:K}{i:Nat}(h:I' most F k=zY (F',i)):∀y∈F',y∈F\/y=k:=by intro y a;unfold I' at h;split at h;{injection h with h;injection h with h1 h2;subst h1;exact .inl a};split at h;{injection h with h;injection h with h1 h2;subst h1;rcases k_.1 a with a | a;{exact .inl a};rw[V_]at a;exact .inr a};cases h
def gL(hs:∀b,P (step x b)):∀(l:List Nat) (f f':List K) (r a:List Nat),l.foldl (C6 most step x) (zY (f,r))=zY (f',a)->(∀y∈f,P y)->∀y∈f',P y
 | [],f,f',r,a,h,hf=>by
   simp only[tK,AoW.injEq,Prod.mk.injEq]at h;obtain⟨rfl,-⟩:=h;exact hf
 | b::l,f,f',r,a,h,hf=>by
   rw[wW]at h;simp only[C6,wA]at h;cases c:I' most f (step x b)with
   | none=>rw[c]at h;rw[eA,FK]at h;cases h
   | some p=>
     rw[c]at h;refine gL hs l p.1 f' _ a h λy d=>?_;rcases P8 (i:=p.2) c y d with e | rfl
     ·exact hf y e
     ·exact hs b
def Uc:∀(l:List Nat) (f f':List K) (r a:List Nat),l.foldl (C6 most step x) (zY (f,r))=zY (f',a)->f.length<=most->f.Nodup->f'.length<=most/\f'.Nodup/\f <+: f'/\∃c,a=r++c
 | [],f,f',r,a,h,h1,h2=>by
   simp only[tK,AoW.injEq,Prod.mk.injEq]at h;obtain⟨rfl,rfl⟩:=h;exact⟨h1,h2,vW _,[],zZ⟩
 | b::l,f,f',r,a,h,h1,h2=>by
   rw[wW]at h;simp only[C6,wA]at h;cases d:I' most f (step x b)with
   | none=>rw[d]at h;rw[eA,FK]at h;cases h
   | some p=>
     rw[d]at h;obtain⟨-,g1,g2,e⟩:=M1 (i:=p.2) d h1 h2;have⟨g,j,k,c,m⟩:=Uc l p.1 f' _ a h g1 g2;exact⟨g,j,e.trans k,p.2::c,by rw[m];simp⟩
def Gq(g:1<=most)(i:P start)(hs:∀y b,P y->P (step y b))(bs:List Nat):∀(n:Nat) (f:List K) (rows:List (List Nat)),BA most step bs start n=zY (f,rows)->f.length<=most/\f.Nodup/\f[0]?=zY start/\∀y∈f,P y
 | 0,f,rows,h=>by
   simp only[BA,AoW.injEq,Prod.mk.injEq]at h;obtain⟨rfl,-⟩:=h;exact⟨g,zZ,rfl,λy j=>by rw[V_]at j;subst j;exact i⟩
 | n+1,f,rows,h=>by
   simp only[BA]at h;cases c:BA most step bs start n with
   | none=>rw[c]at h;cases h
   | some p=>
     have⟨g1,g2,k,d⟩:=Gq g i hs bs n p.1 p.2 c;rw[c]at h;simp only[wA]at h;cases e:p.1[n]? with
     | none=>
       rw[e]at h;simp only[AoW.injEq]at h;subst h;exact⟨g1,g2,k,d⟩
     | some x=>
       rw[e]at h;simp only at h;cases a:bs.foldl (C6 most step x) (zY (p.1,[]))with
       | none=>rw[a]at h;cases h
       | some r=>
         rw[a]at h;simp only[wP,AoW.injEq,Prod.mk.injEq]at h;obtain⟨rfl,-⟩:=h;obtain⟨l,m,o,-⟩:=Uc bs p.1 r.1 [] r.2 a g1 g2;exact⟨l,m,El o k,gL (λb=>hs x b (d x (d_ e))) bs p.1 r.1 [] r.2 a d⟩
def qC(P:K->Prop)(step:K->Nat->K)(p:Nat->Bool):Prop:=∀b,b<256->p b=zU->∃g,g<b/\p g=zW/\∀x,P x->step x g=step x b
def dO{p:Nat->Bool}(e:qC P step p)(h:P x){f:List K}(i:f.length<=most)(j:f.Nodup):∀m,m<=256->((AnZ m).foldl (C6 most step x) (zY (f,[]))).map Prod.fst=(((AnZ m).filter p).foldl (C6 most step x) (zY (f,[]))).map Prod.fst:=by intro m;induction m with|zero=>intro _;rfl|succ m a=>{intro y;have a:=a zO;rw[xW,vI,xO,xO,wW,tK,VI,a];cases b:p m with|true=>rw[wY b,nI,wW,tK,VI]|false=>{rw[vN (by rw[b];decide),nI,tK];cases c:(AnZ m).foldl (C6 most step x) (zY (f,[]))with|none=>rw[<-a,c];rfl|some q=>have⟨z,n⟩:=q;have⟨A,o,B,r,s⟩:=Ol i j c;have⟨g,u,v,hs⟩:=e m zO b;rw[rS]at r;have⟨t,w⟩:=Ac (l:=n) (k:=g) zO;have d:=s g g t (List.getElem?_range u) w;rw[hs x h]at d;rw[<-a,c];simp only[wP,wA,AgI o d]}}
def QA{p:Nat->Bool}(j:qC P step p)(k:1<=most)(l:P start)(hs:∀y b,P y->P (step y b)):∀n,(BA most step (AnZ 256) start n).map Prod.fst=(BA most step ((AnZ 256).filter p) start n).map Prod.fst | 0=>rfl | n+1=>by have c:=QA j k l hs n;simp only[BA];cases h:BA most step (AnZ 256) start n with
   | none=>
     rw[h]at c;cases g:BA most step ((AnZ 256).filter p) start n with
     | none=>rfl
     | some q=>rw[g]at c;cases c
   | some q=>
     rw[h]at c;cases g:BA most step ((AnZ 256).filter p) start n with
     | none=>rw[g]at c;cases c
     | some m=>
       rw[g]at c;simp only[wP,AoW.injEq]at c;have⟨f,rows⟩:=q;have⟨t,i⟩:=m;simp only at c;subst c;have⟨g1,g2,u,o⟩:=Gq k l hs _ n f rows h;simp only[wA];cases s:f[n]? with
       | none=>rfl
       | some x=>
         have e:=dO j (o x (d_ s)) g1 g2 256 (M_ _);cases d:(AnZ 256).foldl (C6 most step x) (zY (f,[]))with
         | none=>
           rw[d]at e;cases a:((AnZ 256).filter p).foldl (C6 most step x) (zY (f,[]))with
           | none=>simp only[d,a];rfl
           | some r=>rw[a]at e;cases e
         | some r=>
           rw[d]at e;cases a:((AnZ 256).filter p).foldl (C6 most step x) (zY (f,[]))with
           | none=>rw[a]at e;cases e
           | some v=>
             rw[a]at e;simp only[d,a];simpa using e
def FD(most:Nat)(step:K->Nat->K)(start:K):Option (List K):=(Dt most step (AnZ 256) start).map Prod.fst
def OT{p:Nat->Bool}(a:qC P step p)(c:1<=most)(d:P start)(hs:∀y b,P y->P (step y b)):(Dt most step ((AnZ 256).filter p) start).map Prod.fst=FD most step start:=(QA a c d hs most).symm
def VL(e:1<=most){bs:List Nat}:∀(k n:Nat) (f:List K) (rows:List (List Nat)),BA most step bs start (n+k)=zY (f,rows)->∃b a,BA most step bs start n=zY (b,a)/\b <+: f | 0,n,f,rows,h=>⟨f,rows,h,vW _⟩ | k+1,n,f,rows,h=>by rw[<-rI]at h;simp only[BA]at h;cases c:BA most step bs start (n+k)with | none=>rw[c]at h;cases h | some p=> have⟨b,a,g,e2⟩:=VL e k n p.1 p.2 c;obtain⟨g1,g2,-⟩:=Gq (P:=λ_=>True) e zA (λ_ _ _=>trivial) bs (n+k) p.1 p.2 c;rw[c]at h;simp only[wA]at h;cases i:p.1[n+k]? with
     | none=>
       rw[i]at h;simp only[AoW.injEq]at h;subst h;exact⟨b,a,g,e2⟩
     | some x=>
       rw[i]at h;simp only at h;cases d:bs.foldl (C6 most step x) (zY (p.1,[]))with
       | none=>rw[d]at h;cases h
       | some r=>
         rw[d]at h;simp only[wP,AoW.injEq,Prod.mk.injEq]at h;obtain⟨rfl,-⟩:=h;exact⟨b,a,g,e2.trans (Uc bs p.1 r.1 [] r.2 d g1 g2).2.2.1⟩
def SN(b:1<=most){bs:List Nat}{F:List K}{rows:List (List Nat)}(h:Dt most step bs start=zY (F,rows)):BA most step bs start F.length=zY (F,rows):=by obtain⟨g1,-⟩:=Gq (P:=λ_=>True) b zA (λ_ _ _=>trivial) bs most F rows h;obtain⟨f,a,c,e2⟩:=VL b (most-F.length) F.length F rows (by rw[(zO:F.length+(most-F.length)=most)];exact h);have d:=Q9 c e2.length_le most g1;have e:BA most step bs start most=zY (F,rows):=h;rw[e]at d;rw[c];exact d.symm
def bJ(c:1<=most){F:List K}(h:FD most step start=zY F):1<=F.length/\F.length<=most/\F.Nodup/\F[0]?=zY start:=by unfold FD at h;cases a:Dt most step (AnZ 256) start with|none=>rw[a]at h;cases h|some p=>rw[a]at h;simp only[wP,AoW.injEq]at h;subst h;obtain⟨g1,g2,b,-⟩:=Gq (P:=λ_=>True) c zA (λ_ _ _=>trivial) (AnZ 256) most p.1 p.2 a;exact⟨(T_.1 b).1,g1,g2,b⟩
end
def Iq.sym(h:Iq x y):Iq y x:=λc a=>by
 cases b:x.getLsbD c with
 | false=>rfl
 | true=>rw[h c b]at a;cases a
def cM{l:List (BitVec 256)}(h:l.Pairwise Iq)(e:x∈l)(f:y∈l)(b:x≠y):Iq x y:=by obtain⟨i,c,rfl⟩:=fY e;obtain⟨j,d,rfl⟩:=fY f;rcases sT i j with a | rfl | a;{exact xU.1 h i j c d a};{exact absurd rfl b};exact(xU.1 h j i d c a).sym
def Nu{sets:List (BitVec 256)}:x∈BB sets↔x∈CL sets:=by unfold BB;rw[uH];constructor;{rintro⟨b,-,a⟩;exact(zP.1 a).1};exact λh=>⟨(AX x 0).1,yR.2 (CW x 0),zP.2 ⟨h,zZ⟩⟩
def UB(sets:List (BitVec 256)):(BB sets).Pairwise Iq:=by
 have a:=M2 sets;unfold BB;rw[fX];refine⟨λb _=>a.filter _,List.pairwise_lt_range.imp fun{b c} d x f y g=>?_⟩;have⟨h,i⟩:=zP.1 f;have⟨j,k⟩:=zP.1 g;refine cM a h j λe=>?_;subst e;have l:(AX x 0).1=b:=by simpa using i
 have e2:(AX x 0).1=c:=by simpa using k
 omega
def Rv(sets:List (BitVec 256))(c:b<256):cnt (BB sets) b=1:=by unfold cnt;have⟨x,d,a⟩:=(J9 sets).all b c;have⟨y,e⟩:=iC (l:=(BB sets).filter λx=>x.getLsbD b) (b:=b) ((UB sets).filter _) (λz f=>(zP.1 f).2) (fZ (zP.2 ⟨Nu.2 d,a⟩));rw[e];rfl
def Wp(a:P_)(l:List Int):Prop:=∀q∈l,a.has q=zW
def XN(a:P_)(sets:List (BitVec 256)):Prop:=∀e∈a.edges,e.sil=zU->xM a e=zW->e.set∈sets
def Zn(a:P_):XN a (D9 a):=λe c hs b=>by
 unfold xM at b;rw[X']at b;obtain⟨row,d,-,f⟩:=Wg b.1;exact uH.2 ⟨row,d_ d,yD.2 ⟨e,(f e).2 ⟨c,hs,rfl,b.2⟩,rfl⟩⟩
def Zo(a:P_):XN a (EF a):=λe b hs _=>yD.2 ⟨e,zP.2 ⟨b,by rw[hs];rfl⟩,rfl⟩
section
variable{a:P_}{sets:List (BitVec 256)}
def QN(m:XN a sets){g:Nat}(hs:BT sets g b=zW){l:List Int}(n:Wp a l):Bf a l g=Bf a l b:=by have d:∀g b:Nat,BT sets g b=zW->∀q,ML a (·∈l) g q->ML a (·∈l) b q:=λg b hs q ⟨e,h,i,o,j,k,p⟩=>⟨e,h,i,by rw[<-By.1 hs e.set (m e h i (by unfold xM;rw[n _ j,k];rfl))];exact o,j,k,p⟩;have f:BT sets b g=zW:=By.2 λc r=>(By.1 hs c r).symm;unfold Bf tL;have e:ML a (·∈l) g=ML a (·∈l) b:=funext λq=>propext ⟨d g b hs q,d b g f q⟩;rw[e]
def Ya(f:XN a sets):qC (Wp a) (Bf a) (DZ sets):=λb l h=>by
 have⟨g,g1,g2,d⟩:=Jm (cells:=sets) (b:=b) b (Mq sets b);have i:g≠b:=λe=>by rw[e,h]at d;cases d
 exact⟨g,zO,d,λx j=>QN f (By.2 λc k=>(By.1 g2 c k).symm) j⟩
end
noncomputable abbrev L1(a:P_):List Int:=CV (GN a)
def PC(a:P_):Wp a (L1 a):=λq b=>Fj a q ((HB (Ej (Fj a)) q).1 b)
def NP{a:P_}(l:List Int)(b:Nat)(_:Wp a l):Wp a (Bf a l b):=Lx
noncomputable def UW(a:P_)(most:Nat):Option (List (List Int)):=FD most (Bf a) (L1 a)
def detA(a:P_){most:Nat}(b:1<=most):(Dt most (Bf a) (CY (D9 a)) (L1 a)).map Prod.fst=UW a most:=by rw[Nf];exact OT (Ya (Zn a)) b (PC a) NP
def AnT(a:P_){most:Nat}(b:1<=most):(Dt most (Bf a) (Q6 a) (L1 a)).map Prod.fst=UW a most:=by unfold Q6;rw[Jd];exact OT (Ya (Zo a)) b (PC a) NP
structure AbD(a:P_)(F:List (List Int))(st:Int->Nat->Int)(fi:Int->Bool):Prop where
 st:∀(q b:Nat) (x:List Int),F[q]?=zY x->b<256->∃t:Nat,st (q:Int) b=(t:Int)/\F[t]?=zY (Bf a x b)
 fi:∀(q:Nat) (x:List Int),F[q]?=zY x->fi (q:Int)=zT (a.fin∈x)
section
variable{a:P_}{most:Nat}{bs:List Nat}{rows:List (List Nat)}
def LV(b:1<=most)(h:Dt most (Bf a) bs (L1 a)=zY (F,rows)):P0 most (Bf a) bs (L1 a) F.length F rows/\∀x∈F,Wp a x:=by obtain⟨-,-,-,c⟩:=Gq (P:=Wp a) b (PC a) NP bs most F rows h;exact⟨Ni b F.length F rows (SN b h) λj d=>d,c⟩
def Ub(e:P0 most (Bf a) bs (L1 a) F.length F rows){row:List Nat}(f:rows[q]?=zY row):row.length=bs.length/\∀t∈row,t<F.length:=by have g:=e.cols row (d_ f);refine⟨g,λt h=>?_⟩;have⟨k,c⟩:=xB h;have i:=(T_.1 c).1;have⟨b,j⟩:=Ac (l:=bs) (k:=k) zO;have d:=(T_.1 f).1;rw[e.rl]at d;have⟨x,m⟩:=Ac (l:=F) (k:=q) d;exact(T_.1 (e.ok q k row b t x f j c m)).1
end
section
variable{a:P_}{most:Nat}{rows:List (List Nat)}
def AnI(E:1<=most)(G:most<=65536)(h:Dt most (Bf a) (CY (D9 a)) (L1 a)=zY (F,rows)):B9 (BB (D9 a)) (rows.map AG) F.length=zW/\AbD a F (Am (zY (BY (BB (D9 a)) (rows.map AG) (F.map λl=>zT (a.fin∈l))))) (AL (zY (BY (BB (D9 a)) (rows.map AG) (F.map λl=>zT (a.fin∈l)))))/\stN (zY (BY (BB (D9 a)) (rows.map AG) (F.map λl=>zT (a.fin∈l))))=F.length:=by
 have⟨e,H⟩:=LV E h;have N:=(T_.1 e.zero).1;have A:=e.len;have m:(rows.map AG).length=F.length:=by rw[e_,e.rl]
 have n:(CY (D9 a)).length=(BB (D9 a)).length:=e_ _;have hs:B9 (BB (D9 a)) (rows.map AG) F.length=zW:=by{rw[QI];refine⟨⟨zO,zO,m⟩,λb i=>Rv _ i,λr I=>?_⟩;obtain⟨row,d,rfl⟩:=yD.1 I;have⟨q,J⟩:=xB d;have⟨B,C⟩:=Ub e J;unfold IV;rw[X',beq_iff_eq,yC];refine⟨by unfold AG;rw[e_,B,n],λt j=>?_⟩;obtain⟨u,K,rfl⟩:=yD.1 j;have:=C u K;simp only[X',z'];omega};have o:(F.map λl=>zT (a.fin∈l)).length=F.length:=e_ _;refine⟨hs,⟨λq b x f i=>?_,λq x f=>?_⟩,by simp only[stN,BY,e_];exact e.rl⟩;{have⟨row,d⟩:=Ac (l:=rows) (k:=q) (by rw[e.rl];exact(T_.1 f).1);have⟨B,C⟩:=Ub e d;have⟨L,M⟩:=Ce hs i;have⟨c,p⟩:=Ac L;have v:=M c p;have⟨t,j⟩:=Ac (l:=row) (k:=Bk (BB (D9 a)) b) zO;have w:(CY (D9 a))[Bk (BB (D9 a)) b]?=zY (AX c 0).1:=by{unfold CY;rw[Y',p];rfl};have y:=e.ok q _ row _ t x d w j f;have g:=Nu.1 (d_ p);have D:=J9 (D9 a);have z:BT (D9 a) (AX c 0).1 b=zW:=By.2 λs hs=>D.same c g _ _ (HA (D.ne c g)).1 v s hs;refine⟨t,?_,by rw[y,QN (Zn a) z (H x (d_ f))]⟩;rw[FI (row:=AG row) (by rw[o];exact hs) (by rw[Y',d];rfl) i];unfold AG;rw[xA,Y',j];rfl};simp[AL,BY,f]
def AnJ(E:1<=most)(G:most<=65536)(h:Dt most (Bf a) (Q6 a) (L1 a)=zY (F,rows))(H:D=⟨N' (Ak (EF a) 256).2,N' (Q6 a),rows.map AG,F.map λl=>zT (a.fin∈l)⟩):D.Ok/\AbD a F (Dh D) (L7 D)/\D.next.length=F.length:=by
 subst H;have⟨f,I⟩:=LV E h;have P:=(T_.1 f.zero).1;have z:=f.len;have e:=CG (EF a) 256;have m:(rows.map AG).length=F.length:=by rw[e_,f.rl]
 refine⟨⟨by simp only;omega,by simp only;omega,by simp only[e_];exact f.rl.symm,by simp only;rw[C8,e.plen],λr A=>?_⟩,⟨λq b x i J=>?_,λq x i=>?_⟩,m⟩;{simp only at A ⊢;obtain⟨row,d,rfl⟩:=yD.1 A;have⟨q,K⟩:=xB d;have⟨L,B⟩:=Ub f K;have M:(Q6 a).length<=256:=e.flen;have N:(AG row).length=row.length:=by{unfold AG;rw[e_]};refine⟨zO,λc O=>?_,λt j=>?_⟩;{obtain⟨u,n,rfl⟩:=yD.1 O;have:u<(Q6 a).length:=e.lt u n;omega};obtain⟨u,n,rfl⟩:=yD.1 j;have:=B u n;omega};{have⟨row,d⟩:=Ac (l:=rows) (k:=q) (by rw[f.rl];exact(T_.1 i).1);have⟨L,B⟩:=Ub f d;have⟨p,o⟩:=Ac (l:=(Ak (EF a) 256).2) (k:=b) (by rw[e.plen];exact J);have v:p<(Q6 a).length:=e.lt p (d_ o);have⟨g,C⟩:=Ac v;have⟨t,j⟩:=Ac (l:=row) (k:=p) zO;have w:=f.ok q p row g t x d C j i;have y:BT (EF a) g b=zW:=By.2 λs hs=>(By.1 (e.sig b p g o C).1 s hs).symm;refine⟨t,?_,by rw[w,QN (Zo a) y (I x (d_ i))]⟩;exact EH (row:=AG row) (c:=p) (by simp only;rw[Y',d];rfl) (HT o) (by unfold AG;rw[Y',j];rfl)};simp[L7,i]
end
end
section
variable{K:Type} [DecidableEq K]
def dd(l:List K):List K:=l.foldl (λf k=>if k∈f then f else f++[k]) []
def sW(f:List K)(k:K):Nat:=f.findIdx (·=k)
def jX{f:List K}{k:K}(h:k∈f):sW f k<f.length:=by unfold sW;exact List.findIdx_lt_length_of_exists ⟨k,h,zZ⟩
def YI{f:List K}{k:K}(h:k∈f):f[sW f k]?=zY k:=by have a:=jX h;rw[List.getElem?_eq_getElem a];have:zT (f[sW f k]=k)=zW:=List.findIdx_getElem (p:=λx=>zT (x=k)) (xs:=f) (w:=a);rw[of_decide_eq_true this]
def Am1{f:List K}(a:f.Nodup){k:K}(h:f[i]?=zY k):sW f k=i:=by have e:=d_ h;have g:=YI e;have⟨b,c⟩:=T_.1 h;have⟨d,e2⟩:=T_.1 g;rcases sT (sW f k) i with h | h | h;{exact absurd (e2.trans c.symm) (xU.1 a _ _ d b h)};{exact h};exact absurd (c.trans e2.symm) (xU.1 a _ _ b d h)
end
structure PA where
 n:Nat
 st:Nat->Nat->Nat
 fi:Nat->Bool
structure PA.Ok(M:PA):Prop where
 pos:0<M.n
 cl:∀q b,q<M.n->b<256->M.st q b<M.n
def PA.run(M:PA)(q:Nat)(w:List Nat):Nat:=w.foldl M.st q
def Do(w:List Nat):Prop:=∀b∈w,b<256
def PA.run_lt{M:PA}(h:M.Ok):∀(w:List Nat) (q:Nat),q<M.n->Do w->M.run q w<M.n | [],q,hq,_=>hq | b::w,q,hq,hw=>PA.run_lt h w (M.st q b) (h.cl q b hq (hw b (by simp))) λx a=>hw x (yH _ a)
def PA.Eqv(M:PA)(p q:Nat):Prop:=∀w,Do w->M.fi (M.run p w)=M.fi (M.run q w)
structure Reps(M:PA)(by_:List Nat):Prop where
 lt:∀b∈by_,b<256
 cov:∀b,b<256->∃g∈by_,g<=b/\∀q,q<M.n->M.st q g=M.st q b
structure Closed(M:PA)(l:List Nat):Prop where
 lt:∀q∈l,q<M.n
 st:∀q∈l,∀b,b<256->M.st q b∈l
section
variable{M:PA}{by_ l:List Nat}{P:Nat->Nat}
def kB(M:PA)(by_:List Nat)(P:Nat->Nat)(q:Nat):List Nat:=P q::by_.map λb=>P (M.st q b)
def eG(M:PA)(by_ l:List Nat)(P:Nat->Nat):List (List Nat):=dd (l.map (kB M by_ P))
def cls(l:List Nat)(P:Nat->Nat):Nat:=(dd (l.map P)).length
def AjE{K:Type} [DecidableEq K]{a b:List K}(f:a.Nodup)(h:∀x∈a,x∈b):a.length<=b.length:=by induction a generalizing b with|nil=>exact p_ _|cons x a g=>have⟨i,j⟩:=List.nodup_cons.1 f;have c:=h x zZ;have:=g (b:=b.erase x) j λy d=>(List.mem_erase_of_ne (λe=>i (by rw[<-e];exact d))).2 (h y (yH _ d));rw[List.length_erase_of_mem c]at this;have:=List.length_pos_of_mem c;simp only[b_];omega
structure RndI(M:PA)(l:List Nat)(P:Nat->Nat):Prop where
 eqv:∀p∈l,∀q∈l,M.Eqv p q->P p=P q
 fi:∀p∈l,∀q∈l,P p=P q->M.fi p=M.fi q
def An5(M:PA)(l:List Nat)(P:Nat->Nat):Prop:=∀p∈l,∀q∈l,P p=P q↔M.Eqv p q
end
def cst(M:PA)(P:Nat->Nat)(k b:Nat):Nat:=match(AnZ M.n).find? (λq=>P q=k)with
 | some q=>P (M.st q b)
 | none=>0
abbrev AbQ(M:PA):List Nat:=AnZ M.n
section
attribute [local irreducible] Bs AE Ak
def paO(o:Option AM):PA:=⟨stN o,λq b=>(Am o (q:Int) b).toNat,λq=>AL o (q:Int)⟩
structure BlkI(M:PA)(P:Nat->Nat)(cnt:Nat):Prop where
 rnd:RndI M (AbQ M) P
 lt:∀q,q<M.n->P q<65536
 cnt:cls (AbQ M) P=cnt\/∀p∈AbQ M,∀q∈AbQ M,P p=P q
structure AkW(M:PA)(O:List Nat)(st:Int->Nat->Int)(fi:Int->Bool):Prop where
 lt:∀x∈O,x<M.n
 st:∀(i b x:Nat),O[i]?=zY x->b<256->∃t y:Nat,st (i:Int) b=(t:Int)/\O[t]?=zY y/\M.Eqv y (M.st x b)
 fi:∀(i x:Nat),O[i]?=zY x->fi (i:Int)=M.fi x
def Ag8(M:PA)(O:List Nat):Prop:=∃P,An5 M (AbQ M) P/\FD 65537 (cst M P) (P 0)=zY (O.map P)
def Ao6(O:List Nat):List Int:=O.map fun(x:Nat)=>(x:Int)
def WO{K:Type} [DecidableEq K]{F:List K}{k:K}(h:k∈F):F.findIdx? (·=k)=zY (sW F k):=by rw[vC];have a:=jX h;have b:=(T_.1 (YI h)).2;refine⟨a,r_ b,λj c=>?_⟩;have:=List.not_of_lt_findIdx (p:=λx=>zT (x=k)) (xs:=F) (show j<F.findIdx (λx=>zT (x=k))from c);simpa using this
def Ve{K:Type} [DecidableEq K]{F:List K}{k:K}(h:k∉F):F.findIdx? (·=k)=zV:=by rw[fW];intro x a;exact n_ λe=>h (by rw[<-e];exact a)
structure DocM(D:DM)(M:PA):Prop where
 n:M.n=D.next.length
 st:∀q b,q<M.n->b<256->Dh D (q:Int) b=(M.st q b:Int)
 fi:∀q,q<M.n->L7 D (q:Int)=M.fi q
structure RepD(D:DM)(by_:List Nat):Prop where
 reps:D.reps=Ao6 by_
 rl:∀row∈D.next,row.length=by_.length
 le:by_.length<=256
 lt:∀b∈by_,b<256
 at_:∀(c b:Nat),by_[c]?=zY b->D.cell[b]?=zY (c:Int)
 cov:∀b,b<256->∃c g:Nat,D.cell[b]?=zY (c:Int)/\by_[c]?=zY g/\g<=b
end
section
attribute [local irreducible] Bs AE Ak
end
section
attribute [local irreducible] Bs Ak
end
section
attribute [local irreducible] Bs AE Ak
def Wo.stepOk(h:Wo o D):Cs o:=⟨by rw[h.n];exact h.ok.n1,by rw[h.n];exact h.ok.n2,λq b a c=>by
  have:=O6 h.ok a.1 (by have:=a.2;rw[h.n]at this;exact this) c;unfold inA;rw[h.step q b c,h.n];exact this⟩
end
open Go.Lib
def leL(u v:List Nat):Prop:=u.length<v.length\/(u.length=v.length/\Mg u v)
structure BfsOk(g:Gr)(by_:List Nat)(a:Nd)(F:List NW)(i:Nat)(k:Nat):Prop where
 zero:F[0]?=zY (a,[])
 nd:(F.map (·.1)).Nodup
 ok:∀x∈F,(∀b∈x.2,b∈by_)/\To g x.2 a x.1
 up:∀(j l:Nat) (x y:NW),j<l->F[j]?=zY x->F[l]?=zY y->leL x.2 y.2/\x.2≠y.2
 closed:∀(j l:Nat) (x:NW) (b:Nat) (t:Nd),F[j]?=zY x->by_[l]?=zY b->t∈g.next x.1 b->(j<i\/(j=i/\l<k))->∃y∈F,y.1=t/\leL y.2 (x.2++[b])
 par:∀(m:Nat) (y:NW),F[m]?=zY y->m=0\/∃(j l b:Nat) (x:NW),F[j]?=zY x/\by_[l]?=zY b/\y.2=x.2++[b]/\(j<i\/(j=i/\l<k))
section
variable{g:Gr}{by_:List Nat}{a t:Nd}{F F':List NW}{i k:Nat}
variable(hby:∀c,c<256->∃r∈by_,r<=c/\∀n,g.next n r=g.next n c)
include hby
end
section
attribute [local irreducible] Bs AE Ak
def yM(z:Int×Int):List v_:=[A_ z.1,A_ z.2]
def wH(z:Int×Int):v_:=.agg (yM z).toArray
def Uy(z:Int×Int):Prop:=inK .i64 z.1/\inK .i64 z.2
def AiN{a b:Int×Int}(h:wH a=wH b):a=b:=by have⟨x,y⟩:=a;have⟨e,f⟩:=b;simp only[wH,yM,Value.agg.injEq,Array.mk.injEq,List.cons.injEq,Value.int.injEq,true_and,and_true]at h;have⟨c,d⟩:=h;rw[c,d]
def gJ{x:Int}(h:inK .i64 x):(Lit.int .i64 x).wf=zW:=by unfold Lit.wf;simp only[X',z'];exact h
structure Links(F:List NW)(W:List (Int×Nat)):Prop where
 len:W.length=F.length
 nd:(F.map λx=>(x.1.x,x.1.y)).Nodup
 s0:∀x∈F,x.1.s=0
 zero:W[0]?=zY (-1,0)
 link:∀(i:Nat) (y:NW),F[i]?=zY y->(i=0/\y.2=[])\/∃(j c:Nat) (x:NW),W[i]?=zY ((j:Int),c)/\j<i/\F[j]?=zY x/\y.2=x.2++[c]/\c<256
def Rl(x y:Bool):Bool:=x&& !y
end
section
attribute [local irreducible] Bs Ak
end
section
def ES:AM:=BY [Ap9 256] [[1],[1]] [zU,zW]
def Xm:AM:=⟨ES.sets,AnL 256 0,[[0+1],[0+1]],[zU,zW]⟩
def RM:B9 [Ap9 256] [[1],[1]] 2=zW:=by rfl
def Qo:ES=Xm:=by have a:ES.cell=AnL 256 0:=zX;have b:ES.next=[[0+1],[0+1]]:=zX;have c:ES.final=[zU,zW]:=rfl;unfold Xm;rw[<-a,<-b,<-c]
def aR:Ey [Ap9 256] [[1],[1]] [zU,zW]=zY ES:=by unfold Ey;rw[show B9 [Ap9 256] [[1],[1]] [zU,zW].length=zW from RM];rfl
attribute [local irreducible] ES Bs AE Ak
def Qp{q:Int}(b:Nat)(h:q=0\/q=1):Am (zY ES) q b=1:=by rw[Qo];have a:Xm.cell.getD b 0=0:=by{show(AnL 256 0).getD b 0=0;rw[xA,List.getElem?_replicate];split<;>rfl};rcases h with rfl | rfl;{show((Xm.next[0]?).getD []).getD (Xm.cell.getD b 0) 0=1;rw[a];rfl};show((Xm.next[1]?).getD []).getD (Xm.cell.getD b 0) 0=1;rw[a];rfl
def TK:∀(w:List Nat) (q:Int),(q=0\/q=1)->NK (zY ES) w q=if w=[]then q else 1 | [],q,_=>rfl | b::w,q,h=>by rw[Ls,Qp b h,TK w 1 (.inr rfl)];split<;>simp
def V4:AL (zY ES) 0=zU:=by rw[Qo];rfl
def MU:AL (zY ES) 1=zW:=by rw[Qo];rfl
def Pk(w:List Nat){q:Int}(h:q=0\/q=1):AL (zY ES) (NK (zY ES) w q)=zW↔w≠[]\/q=1:=by rw[TK w q h];split;{rename_i a;rcases h with rfl | rfl;{rw[V4];simp[a]};rw[MU];simp};rename_i a;rw[MU];simp[a]
def MT(w:List Nat)(i:Nat):Uv (zY ES) (zY ES) w 0 i↔w.take i≠[]/\w.drop i≠[]:=by unfold Uv;rw[Pk _ (.inl rfl),Pk _ (.inl rfl)];simp
def KR:∀(u:List Nat),Mg (AnL u.length 0) u
 | []=>RI _
 | c::u=>by
   show Mg (0::AnL u.length 0) (c::u);unfold Mg;rcases Nat.eq_zero_or_pos c with rfl | h
   ·exact .inr ⟨rfl,KR u⟩
   ·exact .inl h
def AiJ:Pu (zY ES) (zY ES) ⟨#[0,0,0]⟩ 1 2 zW:=by
 have c:Cb [0,0,0]:=λb c=>by simp at c;omega
 have a:∀i,Ev (zY ES) (zY ES) (bA [0,0,0]) i=zW↔i=1\/i=2:=λi=>by{rw[PN c,MT];match i with|0=>simp|1=>simp|2=>simp|i+3=>simp};have f:DK (Iy (zY ES) (zY ES)) [0,0,0] Ao:=(M4 _ _ _).2 ⟨1,2,zQ,zQ,by rw[MT];simp,by rw[MT];simp⟩;refine⟨λ_=>⟨[0,0,0],rfl,⟨⟨rfl,c,⟨Ao,rfl,f⟩,λu g _ _=>?_⟩,λu _ d=>?_⟩,zQ,zQ,(a 1).2 (.inl rfl),(a 2).2 (.inr rfl),λk t=>?_,λk l m=>zO⟩,λh=>(by cases h)⟩;{have:=KR u;rw[g]at this;exact this};{obtain⟨n,rfl,o⟩:=d;have⟨i,j,l,m,p,q⟩:=(M4 _ _ _).1 o;obtain⟨r,-⟩:=(MT u i).1 p;obtain⟨-,s⟩:=(MT u j).1 q;have v:i≠0:=λe=>r (by rw[e];rfl);have w:j<u.length:=by{apply Classical.byContradiction;intro h;exact s (List.drop_of_length_le zO)};show 3<=u.length;omega};have:¬(Ev (zY ES) (zY ES) (bA [0,0,0]) k=zW):=λh=>by have:=(a k).1 h;omega
 exact Bool.eq_false_iff.2 this
def aS:Mw (zY ES) [0,0] zW:=by
 have a:Cb [0,0]:=λb a=>by simp at a;omega
 have d:DK (Ie (zY ES)) [0,0] Ao:=(Ig _ 0 0).2 ⟨1,0,[],rfl,(Pk _ (.inl rfl)).2 (.inl zZ),by
  show AL _ _=zW;rw[Qp 0 (.inl rfl)];exact MU,by
  show AL _ _=zW;rw[TK _ _ (.inl rfl),I_ zZ,Qp 0 (.inr rfl)];exact MU⟩
 refine⟨(λh=>by rw[V4]at h;cases h),λ_=>⟨λ_=>⟨⟨rfl,a,⟨Ao,rfl,d⟩,λu j _ _=>?_⟩,λu _ f=>?_⟩,(λh=>by cases h)⟩⟩;{have:=KR u;rw[j]at this;exact this};obtain⟨n,rfl,k⟩:=f;obtain⟨i,c,r,l,m,-⟩:=(Ig u 0 0).1 k;have g:=(Pk _ (.inl rfl)).1 m;have o:i≠0:=λe=>by rw[e]at g;simp at g
 have d:=congrArg List.length l;rw[List.length_drop,b_]at d;show 2<=u.length;omega
end
section
attribute [local irreducible] ES Bs AE Ak
def Mr(t:ByteArray)(i j:Nat):List Lit:=[.string t.data.toList,.int .i64 (i:Int),.int .i64 (j:Int)]
def X6{a:ByteArray}{j:Nat}:zT (t=a/\i=b/\j=c)=zW↔Mr t i j=Mr a b c:=by unfold Mr;rw[z'];constructor;{rintro⟨rfl,rfl,rfl⟩;rfl};intro h;simp only[List.cons.injEq,Lit.string.injEq,Lit.int.injEq,true_and,and_true]at h;exact⟨QS h.1,zO,zO⟩
def Zj{j:Nat}(a:t.size<=maxLen)(b:i<9223372036854775808)(c:j<9223372036854775808):prog.keyLits 2 47 (yW t i j)=zY (Mr t i j):=by have d:prog.cellsOf 47=3:=zX;have e:prog.cellsOf 3=1:=zX;have f:prog.cellsOf 9=1:=zX;simp[Program.keyLits,underlying47,underlying3,underlying9,d,e,f,yW,Mr,a,Qc (BJ b),Qc (BJ c)]
def AoU{a:ByteArray}{j:Nat}(g:t.size<=maxLen)(d:a.size<=maxLen)(h:i<9223372036854775808)(e:b<9223372036854775808)(l:j<9223372036854775808)(f:c<9223372036854775808){x y:z_}(k:K (.bool (zT (t=a/\i=b/\j=c)))):AH prog (do eqGuard .eql 47 x y (.agg (yW t i j).toArray) (.agg (yW a b c).toArray);binOp .eql 47 (.agg (yW t i j).toArray) (.agg (yW a b c).toArray)) S H K:=eN (m:=2) (la:=Mr t i j) (lb:=Mr a b c) zX zQ (eqGuardType47) rfl rfl (Zj g h l) (Zj d e f) X6 k
def nY(H:Aa):Ai prog 11 #[] H λB H'=>D_ (H_ H) H H'/\Bm (H_ H') H' B (zY ES):=by refine Ai.of_vc func11 rfl (call11 _) (Al (KG 0 255 zQ zQ H) λH1 g=>?_);rw[JG];have C:=BF g;refine Aj CJ (Ag (Ap9 256)) rfl rfl zQ zQ ?_;intro i H2 D E s t;refine Aj AD [A_ 1] rfl rfl zQ zQ ?_;intro e H3 F G u j;refine Aj AD [A_ 1] rfl rfl zQ zQ ?_;intro f H4 I J v d;refine Uo Dj [.slice (N_ e) 1 1] [.slice (N_ f) 1 1] rfl rfl rfl rfl zQ zQ ?_;intro l H5 K L w c;refine Uo Ci [.bool zU] [.bool zW] rfl rfl rfl rfl zQ zQ ?_;intro m H6 M N y b;have n:=w.agr b (zO:l<m);have o:=(v.agr c (zO:f<l)).agr b (zO:f<m);have p:=((u.agr d (zO:e<f)).agr c (zO:e<l)).agr b (zO:e<m);have q:=(((s.agr j (zO:i<e)).agr d (zO:i<f)).agr c (zO:i<l)).agr b (zO:i<m);have z:D_ (H_ H) H H6:=((((g.trans (t.mono λk a=>by unfold H_ at a;omega)).trans (j.mono λk a=>by unfold H_ at a;omega)).trans (d.mono λk a=>by unfold H_ at a;omega)).trans (c.mono λk a=>by unfold H_ at a;omega)).trans (b.mono λk a=>by unfold H_ at a;omega);have O:Y_ tI (Cr H H6) H6 (N_ e) 1 [1]:=Y_.ofBlk p ⟨zO,zO⟩ (Ty.reps_one ⟨rfl,BJ (x:=1) zQ⟩) rfl zQ;have P:Y_ tI (Cr H H6) H6 (N_ f) 1 [1]:=Y_.ofBlk o ⟨zO,zO⟩ (Ty.reps_one ⟨rfl,BJ (x:=1) zQ⟩) rfl zQ;(conv=>whnf);refine Ae.mk (nV (N_ i) (N_ l) (N_ m) 1 2 2 [Ap9 256] [[1],[1]] [zU,zW] (Cr H H6) H6 (λk a=>a.2) (Y_.ofBlk q ⟨zO,zO⟩ (Ty.reps_one rfl) rfl zQ) (Y_.ofBlk n ⟨zO,zO⟩ ⟨[_],[_],rfl,⟨_,_,rfl,O⟩,Ty.reps_one ⟨_,_,rfl,P⟩⟩ rfl zQ) (Y_.ofBlk y ⟨zO,zO⟩ ⟨[_],[_],rfl,rfl,Ty.reps_one rfl⟩ rfl zQ)) ?_;rintro R H7 ⟨A,Q,r⟩;rw[show B9 [Ap9 256] [[1],[1]] [zU,zW].length=zW from RM]at r;(conv=>whnf);refine⟨z.trans (A.mono λk a=>by unfold H_ at*;omega),?_⟩;have h:=r.mono (S':=H_ H7) λk a=>a.2;simp only[if_true]at h;unfold ES;exact h
def NF:∃a,Fi (zY ES) a:=by have⟨a,h⟩:=UO [Ap9 256] [[1],[1]] [zU,zW];rw[aR]at h;exact⟨a,h⟩
def X7(H:Aa):BK prog 4 #[] H (.bool zW):=by refine Ai.of_vc func4 rfl (call4 _) (Ae.mk (nY H) ?_);rintro C H1 ⟨g,h⟩;have F_:=(St.nil H).call g;refine Ae.mk (nY H1) ?_;rintro D H2 ⟨b,l⟩;have m:=F_.call b;refine Ae.mk (hC (S:=H_ H2) (λk c=>c) ((h.frame b).mono λk c=>An b c) l NF NF) ?_;rintro _ H3 ⟨n,t,i,j,ok,rfl,a,-⟩;have o:=m.call n;obtain⟨rfl,rfl,rfl,rfl⟩:=a.uniq AiJ;refine Af _ (yW ⟨#[]⟩ 0 0) Lv rfl ?_;intro E H4 p q r s;have u:=o.box p q r s;refine AI (cs:=yW ⟨#[0,0,0]⟩ 1 2) u 0 rfl rfl (zQ:0+3<=3) rfl λH5 d=>?_;rw[show Ah (yW ⟨#[]⟩ 0 0) 0 (yW ⟨#[0,0,0]⟩ 1 2)=yW ⟨#[0,0,0]⟩ 1 2 from rfl]at d;refine Ae.mk (nY H5) ?_;rintro F H6 ⟨x,y⟩;have z:=d.call x;refine Ae.mk (Am0 (S:=H_ H6) (λk c=>c) y NF) ?_;rintro _ H7 ⟨A,w,ok,rfl,a,-⟩;have f:=z.call A;obtain⟨rfl,rfl⟩:=a.uniq aS;refine L_ (cs:=yW ⟨#[0,0,0]⟩ 1 2) mI ((f.blk 0 rfl).cells λj v B=>by rw[K_];exact B) zA ?_;refine Au underlying47 rfl _ Lv (yW ⟨#[0,0,0]⟩ 1 2) rfl (AoU zQ zQ zQ zQ zQ zQ ?_);rw[r_ ⟨rfl,rfl,rfl⟩];have e:((bA [0,0]).toList==(⟨#[0,0]⟩:ByteArray).toList)=zW:=beq_self_eq_true _;(conv=>whnf);rw[e];(conv=>whnf);exact⟨rfl,f.old⟩
end
section
attribute [local irreducible] Bs AE Ak
section
variable{K K':Type} [DecidableEq K] [DecidableEq K']{most:Nat}{step:K->Nat->K}{step':K'->Nat->K'}{start:K}{f:K->K'}{I:K->Prop}
def rY(f:K->K')(p:List K×List Nat):List K'×List Nat:=(p.1.map f,p.2)
def oI(I:K->Prop)(s:Option (List K×List Nat)):Prop:=∀F r,s=zY (F,r)->∀y∈F,I y
def AgG{F:List K}{k:K}(h:∀y∈F,f y=f k->y=k):(I' most F k).map (λp=>(p.1.map f,p.2))=I' most (F.map f) (f k):=by unfold I';have e:(F.map f).findIdx? (·=f k)=F.findIdx? (·=k):=by{rw[List.findIdx?_map];exact Iz λy a=>by{show zT (f y=f k)=zT (y=k);rw[decide_eq_decide];exact⟨h y a,λe=>by rw[e]⟩}};rw[e];cases F.findIdx? (·=k)with|some i=>rfl|none=>simp only[e_];split;{simp};rfl
def Af1{x:K}{b:Nat}{s:Option (List K×List Nat)}(m:oI I s)(j:I (step x b))(a:∀y z,I y->I z->f y=f z->y=z)(c:f (step x b)=step' (f x) b):(C6 most step x s b).map (rY f)=C6 most step' (f x) (s.map (rY f)) b/\oI I (C6 most step x s b):=by cases s with|none=>exact⟨rfl,λF r h=>by cases h⟩|some p=>{have⟨F,r⟩:=p;have l:=m F r rfl;have h:=AgG (most:=most) (f:=f) (F:=F) (k:=step x b) λy d=>a y _ (l y d) j;have e:(C6 most step' (f x) ((zY (F,r)).map (rY f)) b)=(I' most (F.map f) (step' (f x) b)).map λq=>(q.1,r++[q.2]):=rfl;rw[e,<-c,<-h];cases g:I' most F (step x b)with|none=>have e2:C6 most step x (zY (F,r)) b=zV:=by{show(I' most F (step x b)).map _=zV;rw[g];rfl};rw[e2];exact⟨rfl,λF r h=>by cases h⟩|some q=>{have⟨G,i⟩:=q;have e2:C6 most step x (zY (F,r)) b=zY (G,r++[i]):=by{show(I' most F (step x b)).map _=_;rw[g];rfl};rw[e2];refine⟨rfl,λF' n e y d=>?_⟩;injection e with e;injection e with e1 e3;subst e1;rcases P8 g y d with h | rfl;{exact l y h};exact j}}
def RB{x:K}(a:∀y z,I y->I z->f y=f z->y=z):∀(l:List Nat) (s:Option (List K×List Nat)),oI I s->(∀b∈l,I (step x b)/\f (step x b)=step' (f x) b)->(l.foldl (C6 most step x) s).map (rY f)=l.foldl (C6 most step' (f x)) (s.map (rY f))/\oI I (l.foldl (C6 most step x) s)| [],s,hs,_=>⟨rfl,hs⟩ | b::l,s,hs,h=>by have⟨d,e⟩:=Af1 (most:=most) hs (h b zZ).1 a (h b zZ).2;rw[wW,wW,<-d];exact RB a l _ e λc g=>h c (by simp[g])
def Sd(a:∀y z,I y->I z->f y=f z->y=z)(i:I start)(g:∀x b,I x->b<256->I (step x b)/\f (step x b)=step' (f x) b):∀n,(BA most step (AnZ 256) start n).map (λp=>(p.1.map f,p.2))=BA most step' (AnZ 256) (f start) n/\∀F rows,BA most step (AnZ 256) start n=zY (F,rows)->∀y∈F,I y
 | 0=>⟨rfl,λF rows e y c=>by
   injection e with e
   injection e with e1 e2
   subst e1;rw[V_.1 c];exact i⟩
 | n+1=>by
   have⟨j,k⟩:=Sd a i g n;rw[BA,BA,<-j];cases l:BA most step (AnZ 256) start n with
   | none=>exact⟨rfl,λF rows e=>by cases e⟩
   | some p=>
     have⟨F,rows⟩:=p;have h:=k F rows l;simp only[wA,wP,Y'];cases m:F[n]? with
     | none=>exact⟨rfl,λF' d e y c=>by
       injection e with e
       injection e with e1 e2
       subst e1;exact h y c⟩
     | some x=>
       have o:=h x (d_ m);have⟨s,t⟩:=RB (most:=most) (step:=step) (step':=step') (x:=x) a (AnZ 256) (zY (F,[])) (λF' r e y c=>by
        injection e with e
        injection e with e1 e2
        subst e1;exact h y c) λb u=>g x b o (yR.1 u)
       simp only[wP];rw[show(zY (F.map f,([]:List Nat)))=(zY (F,([]:List Nat))).map (rY f)from rfl,<-s];cases v:(AnZ 256).foldl (C6 most step x) (zY (F,[]))with
       | none=>exact⟨rfl,λF rows e=>by cases e⟩
       | some q=>
         have⟨G,r⟩:=q;refine⟨rfl,λF' d e y c=>?_⟩;injection e with e
         injection e with e1 e2
         subst e1;exact t G r v y c
def bK(a:∀y z,I y->I z->f y=f z->y=z)(d:I start)(c:∀x b,I x->b<256->I (step x b)/\f (step x b)=step' (f x) b):(FD most step start).map (List.map f)=FD most step' (f start):=by unfold FD Dt;rw[<-(Sd a d c most).1];cases BA most step (AnZ 256) start most<;>rfl
end
attribute [local irreducible] FD
noncomputable instance decL:DecidableEq (List Nat->Bool):=λa b=>Classical.propDecidable (a=b)
open Classical in
noncomputable def gD(M:PA)(q:Nat)(w:List Nat):Bool:=if Do w then M.fi (M.run q w)else zU
def dvL(L:List Nat->Bool)(b:Nat)(w:List Nat):Bool:=L (b::w)
def AkT(M:PA)(O:List Nat):Prop:=FD 65537 dvL (gD M 0)=zY (O.map (gD M))
end
section
def gI:AM:=BY [Ap9 256] [[1],[0]] [zU,zW]
attribute [local irreducible] gI Bs AE Ak
end
section
attribute [local irreducible] Bs Ak
end
section
attribute [local irreducible] Bs Ak AE
end
section
attribute [local irreducible] Bs AE Ak gI
def Cg(o:Option AM):Prop:=∃cells next final,o=Ey cells next final
def Cg.ok(h:Cg o):∃a,Fi o a:=by obtain⟨c,n,f,rfl⟩:=h;exact UO c n f
def Cg.steps(h:Cg o):Cs o:=by obtain⟨c,n,f,rfl⟩:=h;exact(AgN c n f).stepOk
structure IsCan(o:Option AM)(a:Option AM):Prop where
 made:Cg a
 ex:∃O,AkT (paO o) O/\Ag8 (paO o) O/\AkW (paO o) O (Am a) (AL a)/\stN a=O.length
end
section
attribute [local irreducible] Bs AE Ak
section
variable{K:Type}{most:Nat}{step:K->Nat->K}{start:K}{P:K->Prop}{fin:K->Bool}{sets:List (BitVec 256)}
structure JX(step:K->Nat->K)(start:K)(P:K->Prop)(sets:List (BitVec 256)):Prop where
 beg:P start
 st:∀x b,P x->P (step x b)
 sep:∀g b,g<256->b<256->BT sets g b=zW->∀x,P x->step x g=step x b
def JX.cov(h:JX step start P sets):qC P step (DZ sets):=λb d f=>by
 have⟨g,g1,g2,a⟩:=Jm (cells:=sets) (b:=b) b (Mq sets b);have i:g≠b:=λe=>by rw[e,f]at a;cases a
 exact⟨g,zO,a,λx j=>h.sep g b zO d (By.2 λc k=>(By.1 g2 c k).symm) x j⟩
def JX.detA [DecidableEq K](h:JX step start P sets)(a:1<=most):(Dt most step (CY sets) start).map Prod.fst=FD most step start:=by rw[Nf];exact OT h.cov a h.beg h.st
def JX.detD [DecidableEq K](h:JX step start P sets)(a:1<=most):(Dt most step (Ak sets 256).1 start).map Prod.fst=FD most step start:=by rw[Jd];exact OT h.cov a h.beg h.st
structure Wq(step:K->Nat->K)(fin:K->Bool)(F:List K)(st:Int->Nat->Int)(fi:Int->Bool):Prop where
 st:∀(q b:Nat) (x:K),F[q]?=zY x->b<256->∃t:Nat,st (q:Int) b=(t:Int)/\F[t]?=zY (step x b)
 fi:∀(q:Nat) (x:K),F[q]?=zY x->fi (q:Int)=fin x
def Tn [DecidableEq K](h:JX step start P sets){bs:List Nat}{F:List K}{rows:List (List Nat)}(a:1<=most)(c:Dt most step bs start=zY (F,rows)):P0 most step bs start F.length F rows/\∀x∈F,P x:=by obtain⟨-,-,-,d⟩:=Gq (P:=P) a h.beg (λx b e=>h.st x b e) bs most F rows c;exact⟨Ni a F.length F rows (SN a c) λj f=>f,d⟩
def Pn{bs:List Nat}{F:List K}{rows:List (List Nat)}(d:P0 most step bs start F.length F rows){q:Nat}{row:List Nat}(e:rows[q]?=zY row):row.length=bs.length/\∀t∈row,t<F.length:=by have f:=d.cols row (d_ e);refine⟨f,λt g=>?_⟩;have⟨k,a⟩:=xB g;have h:=(T_.1 a).1;have⟨b,i⟩:=Ac (l:=bs) (k:=k) zO;have c:=(T_.1 e).1;rw[d.rl]at c;have⟨x,j⟩:=Ac (l:=F) (k:=q) c;exact(T_.1 (d.ok q k row b t x e i a j)).1
def AnK [DecidableEq K](h:JX step start P sets){F:List K}{rows:List (List Nat)}(D:1<=most)(E:most<=65536)(G:Dt most step (CY sets) start=zY (F,rows)):B9 (BB sets) (rows.map AG) F.length=zW/\Wq step fin F (Am (zY (BY (BB sets) (rows.map AG) (F.map fin)))) (AL (zY (BY (BB sets) (rows.map AG) (F.map fin))))/\stN (zY (BY (BB sets) (rows.map AG) (F.map fin)))=F.length:=by
 have⟨d,H⟩:=Tn h D G;have O:=(T_.1 d.zero).1;have z:=d.len;have j:(rows.map AG).length=F.length:=by rw[e_,d.rl]
 have m:(CY sets).length=(BB sets).length:=e_ _;have hs:B9 (BB sets) (rows.map AG) F.length=zW:=by{rw[QI];refine⟨⟨zO,zO,j⟩,λb e=>Rv _ e,λr I=>?_⟩;obtain⟨row,a,rfl⟩:=yD.1 I;have⟨q,J⟩:=xB a;have⟨A,B⟩:=Pn d J;unfold IV;rw[X',beq_iff_eq,yC];refine⟨by unfold AG;rw[e_,A,m],λt i=>?_⟩;obtain⟨u,L,rfl⟩:=yD.1 i;have:=B u L;simp only[X',z'];omega};have n:(F.map fin).length=F.length:=e_ _;refine⟨hs,⟨λq b x f e=>?_,λq x f=>?_⟩,by simp only[stN,BY,e_];exact d.rl⟩;{have⟨row,a⟩:=Ac (l:=rows) (k:=q) (by rw[d.rl];exact(T_.1 f).1);have⟨A,B⟩:=Pn d a;have⟨M,N⟩:=Ce hs e;have⟨c,o⟩:=Ac M;have p:=N c o;have⟨t,i⟩:=Ac (l:=row) (k:=Bk (BB sets) b) zO;have v:(CY sets)[Bk (BB sets) b]?=zY (AX c 0).1:=by{unfold CY;rw[Y',o];rfl};have w:=d.ok q _ row _ t x a v i f;have g:=Nu.1 (d_ o);have C:=J9 sets;have y:BT sets (AX c 0).1 b=zW:=By.2 λs hs=>C.same c g _ _ (HA (C.ne c g)).1 p s hs;refine⟨t,?_,by rw[w,h.sep _ b (CW c 0) e y x (H x (d_ f))]⟩;rw[FI (row:=AG row) (by rw[n];exact hs) (by rw[Y',a];rfl) e];unfold AG;rw[xA,Y',i];rfl};simp[AL,BY,f]
def lV[DecidableEq K](h:JX step start P sets){F:List K}{rows:List (List Nat)}(G:1<=most)(H:most<=65536)(I:Dt most step (Ak sets 256).1 start=zY (F,rows))(J:D=⟨N' (Ak sets 256).2,N' (Ak sets 256).1,rows.map AG,F.map fin⟩):D.Ok/\Wq step fin F (Dh D) (L7 D)/\D.next.length=F.length:=by
 subst J;have⟨e,L⟩:=Tn h G I;have S:=(T_.1 e.zero).1;have A:=e.len;have d:=CG sets 256;have j:(rows.map AG).length=F.length:=by rw[e_,e.rl]
 refine⟨⟨by simp only;omega,by simp only;omega,by simp only[e_];exact e.rl.symm,by simp only;rw[C8,d.plen],λr B=>?_⟩,⟨λq b x f C=>?_,λq x f=>?_⟩,j⟩;{simp only at B ⊢;obtain⟨row,a,rfl⟩:=yD.1 B;have⟨q,M⟩:=xB a;have⟨N,E⟩:=Pn e M;have O:(Ak sets 256).1.length<=256:=d.flen;have Q:(AG row).length=row.length:=by{unfold AG;rw[e_]};refine⟨zO,λc R=>?_,λt i=>?_⟩;{obtain⟨u,m,rfl⟩:=yD.1 R;have:u<(Ak sets 256).1.length:=d.lt u m;omega};obtain⟨u,m,rfl⟩:=yD.1 i;have:=E u m;omega};{have⟨row,a⟩:=Ac (l:=rows) (k:=q) (by rw[e.rl];exact(T_.1 f).1);have⟨N,E⟩:=Pn e a;have⟨p,n⟩:=Ac (l:=(Ak sets 256).2) (k:=b) (by rw[d.plen];exact C);have o:p<(Ak sets 256).1.length:=d.lt p (d_ n);have⟨g,v⟩:=Ac o;have⟨t,i⟩:=Ac (l:=row) (k:=p) zO;have w:=e.ok q p row g t x a v i f;have y:BT sets g b=zW:=By.2 λs hs=>(By.1 (d.sig b p g n v).1 s hs).symm;have z:g<256:=(d.first p g v).1;refine⟨t,?_,by rw[w,h.sep g b z C y x (L x (d_ f))]⟩;exact EH (row:=AG row) (c:=p) (by simp only;rw[Y',a];rfl) (HT n) (by unfold AG;rw[Y',i];rfl)};simp[L7,f]
end
def Bl(a b:Option AM)(x:Int×Int)(c:Nat):Int×Int:=if c<256 then(Am a x.1 c,Am b x.2 c)else x
def Mc(a b:Option AM)(x:Int×Int):Prop:=(0<=x.1/\x.1<stN a)/\0<=x.2/\x.2<stN b
def R1{n:List Nat}(h:Fi o n){g:Nat}(p:g<256)(f:b<256)(hs:∀c∈A8 o,c.getLsbD g=c.getLsbD b){q:Int}(i:0<=q)(j:q<stN o):Am o q g=Am o q b:=by
 obtain⟨k,c,d,a,-⟩:=h.part b f;have e:c.getLsbD g=zW:=by rw[hs c (d_ d)];exact a
 obtain⟨l,m,-⟩:=h.least k c d;rw[(h.keeps k c l g d m p e).2 q i j,(h.keeps k c l b d m f a).2 q i j]
def Ao2{b:Option AM}(m:Cg a)(n:Cg b):JX (Bl a b) ((0,0):Int×Int) (Mc a b) (A8 a++A8 b):=by have sa:=m.steps;have sb:=n.steps;have q:=sa.n1;have r:=sb.n1;have⟨la,o⟩:=m.ok;have⟨s,p⟩:=n.ok;refine⟨⟨⟨tY _,zO⟩,tY _,zO⟩,λx c e=>?_,λg c f i hs x e=>?_⟩;{unfold Bl;split;{rename_i h;have j:=sa.step x.1 c e.1 h;have k:=sb.step x.2 c e.2 h;exact⟨j,k⟩};exact e};unfold Bl;rw[J_ f,J_ i];have j:=R1 o f i (λd l=>(By.1 hs d (yO _ l))) e.1.1 e.1.2;have k:=R1 p f i (λd l=>(By.1 hs d (xX _ l))) e.2.1 e.2.2;rw[j,k]
def nN(a b:Option AM)(most:Nat):Option (List (Int×Int)):=FD most (Bl a b) (0,0)
end
structure BR where
 p:Nat
 q:Nat
 u:Nat
 es:List u_
def zB(n:Int)(e:u_):u_:=⟨e.fr+n,e.to+n,e.sil,if e.sil then 0#256 else e.set⟩
def E8(a:P_):Bool:=(a.has a.start&&a.has a.fin)&&a.edges.all λe=>a.has e.fr&&a.has e.to
def Md:ReM->Bool | .and_ _ _=>zW | .minus _ _=>zW | _=>zU
def Bv{σ α β:Type}(x:σ×Except Int α)(f:α->σ->σ×Except Int β):σ×Except Int β:=match x with
 | (s,.error e)=>(s,.error e)
 | (s,.ok a)=>f a s
def CP{σ:Type}(x:σ×Except Int P_)(n:Nat):σ×Except Int BR:=Bv x λa s=>if E8 a=zW then(s,.ok ⟨n+a.start.toNat,n+a.fin.toNat,a.st.toNat,a.edges.map (zB n)⟩)else(s,.error 2)
def BG{σ:Type}(sub:ReM->σ->σ×Except Int P_):ReM->Nat->σ->σ×Except Int BR | .eps,n,s=>(s,.ok ⟨n,n+1,2,[AK n (n+1)]⟩)| .cls t,n,s=>(s,.ok ⟨n,n+1,2,[C3 n (n+1) t]⟩)| .cat a b,n,s=>Bv (BG sub a n s) λA s1=>Bv (BG sub b (n+A.u) s1) λC s2=>(s2,.ok ⟨A.p,C.q,A.u+C.u,A.es++C.es++[AK A.q C.p]⟩)| .alt a b,n,s=>Bv (BG sub a (n+1) s) λA s1=>Bv (BG sub b (n+1+A.u) s1) λC s2=>(s2,.ok ⟨n,n+1+A.u+C.u,A.u+C.u+2,A.es++C.es++[AK n A.p,AK n C.p,AK A.q (n+1+A.u+C.u),AK C.q (n+1+A.u+C.u)]⟩)| .star a,n,s=>Bv (BG sub a (n+1) s) λA s1=>(s1,.ok ⟨n,n+1+A.u,A.u+2,A.es++[AK n A.p,AK n (n+1+A.u),AK A.q A.p,AK A.q (n+1+A.u)]⟩)| .and_ a b,n,s=>CP (sub (.and_ a b) s) n | .minus a b,n,s=>CP (sub (.minus a b) s) n
section
variable{σ α β:Type}{x:σ×Except Int α}{f:α->σ->σ×Except Int β}{s:σ}
def Dm{a:α}(h:x=(s,.ok a)):Bv x f=f a s:=by rw[h];rfl
def Dy(h:x=(s,.error e)):Bv x f=(s,.error e):=by rw[h];rfl
def AP{b:β}(h:Bv x f=(s,.ok b)):∃c a,x=(c,.ok a)/\f a c=(s,.ok b):=by have⟨c,r⟩:=x;cases r with|error e=>cases h|ok a=>exact⟨c,a,rfl,h⟩
end
def Ed{a:P_}:E8 a=zW↔a.has a.start=zW/\a.has a.fin=zW/\∀e∈a.edges,a.has e.fr=zW/\a.has e.to=zW:=by unfold E8;simp only[X',yC,and_assoc]
structure U2{σ:Type}(sub:ReM->σ->σ×Except Int P_)(E:Nat):Prop where
 len:∀r s s' a,sub r s=(s',.ok a)->a.edges.length<=E
 err:∀r s s' e,sub r s=(s',.error e)->e≠0
def BW{σ:Type}{sub:ReM->σ->σ×Except Int P_}{E:Nat}(f:U2 sub E):∀(r:ReM) (n:Nat) (s e:σ) (A:BR),BG sub r n s=(e,.ok A)->n<=A.p/\A.p<n+A.u/\n<=A.q/\A.q<n+A.u/\A.u<=65536*r.nodes/\A.es.length<=(E+4)*r.nodes
 | .eps,n,s,e,A,h=>by
   cases h;simp only[ReM.nodes,c_];omega
 | .cls t,n,s,e,A,h=>by
   cases h;simp only[ReM.nodes,c_];omega
 | .cat a b,n,s,e,A,h=>by
   have⟨j,A1,d,c⟩:=AP h;have⟨v,A2,k,l⟩:=AP c;cases l;have o:=BW f a _ _ _ _ d;have w:=BW f b _ _ _ _ k;simp only[ReM.nodes,O_,c_,xC];omega
 | .alt a b,n,s,e,A,h=>by
   have⟨j,A1,d,c⟩:=AP h;have⟨v,A2,k,l⟩:=AP c;cases l;have o:=BW f a _ _ _ _ d;have w:=BW f b _ _ _ _ k;simp only[ReM.nodes,O_,b_,i_,xC];omega
 | .star a,n,s,e,A,h=>by
   have⟨j,A1,d,c⟩:=AP h;cases c;have o:=BW f a _ _ _ _ d;simp only[ReM.nodes,O_,b_,i_,xC];omega
 | .and_ a b,n,s,e,A,h=>by
   have⟨j,N,d,c⟩:=AP (show CP _ n=_ from h);have x:=f.len _ _ _ _ d;split at c
   ·rename_i m;cases c;obtain⟨g,i,-⟩:=Ed.1 m;have g:=P_.has_iff.1 g;have i:=P_.has_iff.1 i;simp only[ReM.nodes,e_,xC];omega
   ·cases c
 | .minus a b,n,s,e,A,h=>by
   have⟨j,N,d,c⟩:=AP (show CP _ n=_ from h);have x:=f.len _ _ _ _ d;split at c
   ·rename_i m;cases c;obtain⟨g,i,-⟩:=Ed.1 m;have g:=P_.has_iff.1 g;have i:=P_.has_iff.1 i;simp only[ReM.nodes,e_,xC];omega
   ·cases c
def Xr{σ:Type}{sub:ReM->σ->σ×Except Int P_}{E:Nat}(j:U2 sub E):∀(r:ReM) (n:Nat) (s d:σ) (e:Int),BG sub r n s=(d,.error e)->e≠0:=by have g:∀{α β:Type} {x:σ×Except Int α} {f:α->σ->σ×Except Int β} {d:σ} {e:Int},Bv x f=(d,.error e)->x=(d,.error e)\/∃i a,x=(i,.ok a)/\f a i=(d,.error e):=by{intro α β x f d e h;have⟨i,r⟩:=x;cases r with|error k=>have h:((i,.error k):σ×Except Int β)=(d,.error e):=h;cases h;exact .inl rfl|ok a=>exact .inr ⟨i,a,rfl,h⟩};intro r;induction r with|eps=>intro n s d e h;cases h|cls t=>intro n s d e h;cases h|cat a b c ihb | alt a b c ihb=>{intro n s d e h;rcases g (show Bv _ _=_ from h)with h | ⟨i,A,-,h⟩;{exact c _ _ _ _ h};rcases g h with h | ⟨l,C,-,h⟩;{exact ihb _ _ _ _ h};cases h}|star a c=>{intro n s d e h;rcases g (show Bv _ _=_ from h)with h | ⟨i,A,-,h⟩;{exact c _ _ _ _ h};cases h}|and_ a b c ihb | minus a b c ihb=>{intro n s d e h;rcases g (show Bv _ _=_ from h)with h | ⟨i,A,-,h⟩;{exact j.err _ _ _ _ h};split at h;{cases h};cases h;decide}
variable{d:PA}
section
attribute [local irreducible] Bs AE Ak
inductive PA.Live(d:PA):Nat->Prop
 | fin {q:Nat}:q<d.n->d.fi q=zW->d.Live q
 | step {q b:Nat}:q<d.n->b<256->d.Live (d.st q b)->d.Live q
def PA.Live.lt(h:d.Live q):q<d.n:=by cases h<;>assumption
open Classical in
noncomputable def PA.use(d:PA)(q:Nat):Bool:=zT (d.Live q)
def PA.use_iff:d.use q=zW↔d.Live q:=by unfold PA.use;simp
def PA.use_lt(h:d.use q=zW):q<d.n:=(PA.use_iff.1 h).lt
noncomputable def PA.place(d:PA)(q:Nat):Nat:=((AnZ q).filter d.use).length
noncomputable def PA.count(d:PA):Nat:=d.place d.n
noncomputable def PA.set(d:PA)(q t:Nat):BitVec 256:=tZ λb=>zT (d.st q b=t)
noncomputable def PA.hopsTo(d:PA)(q k:Nat):List u_:=(AnZ k).filterMap λt=>if(d.use t&&(d.set q t != 0#256))=zW then zY (C3 (d.place q) (d.place t) (d.set q t))else zV
noncomputable def PA.endE(d:PA)(q:Nat):List u_:=if d.fi q=zW then [AK (d.place q) d.count]else []
noncomputable def PA.edgesTo(d:PA)(k:Nat):List u_:=(AnZ k).flatMap λq=>if d.use q=zW then d.hopsTo q d.n++d.endE q else []
noncomputable def A9(d:PA):P_:=if d.use 0=zW then⟨d.count+1,0,d.count,d.edgesTo d.n⟩else⟨2,0,1,[]⟩
def PA.place_succ(q:Nat):d.place (q+1)=d.place q+if d.use q=zW then 1 else 0:=by unfold PA.place;rw[xW,vI,O_];cases h:d.use q<;>simp[h]
def PA.place_mono{t:Nat}(h:q<=t):d.place q<=d.place t:=by obtain⟨k,rfl⟩:=Nat.exists_eq_add_of_le h;clear h;induction k with|zero=>exact M_ _|succ k a=>rw[<-rI,PA.place_succ];omega
def PA.place_lt{t:Nat}(a:d.use q=zW)(h:q<t):d.place q<d.place t:=by have b:=PA.place_succ (d:=d) q;rw[J_ a]at b;have c:=PA.place_mono (d:=d) (show q+1<=t from h);omega
def PA.place_inj{p:Nat}(b:d.use p=zW)(c:d.use q=zW)(h:d.place p=d.place q):p=q:=by rcases sT p q with a | a | a;{have:=PA.place_lt b a;omega};{exact a};have:=PA.place_lt c a;omega
def PA.place_count(a:d.use q=zW):d.place q<d.count:=PA.place_lt a (PA.use_lt a)
def PA.place_le(q:Nat):d.place q<=q:=by unfold PA.place;have:=vX d.use (AnZ q);rwa [rS]at this
def PA.count_le:d.count<=d.n:=PA.place_le _
def PA.set_bit{t:Nat}:(d.set q t).getLsbD c=zW↔c<256/\d.st q c=t:=by unfold PA.set;constructor;{intro h;have a:=BitVec.lt_of_getLsbD h;rw[Jg _ a]at h;exact⟨a,by simpa using h⟩};rintro⟨a,h⟩;rw[Jg _ a];simpa using h
def PA.set_ne{t:Nat}(a:c<256)(h:d.st q c=t):d.set q t≠0#256:=λe=>by
 have:=PA.set_bit.2 ⟨a,h⟩;rw[e]at this;simp at this
def PA.mem_edges{e:u_}:e∈d.edgesTo d.n↔∃q,d.use q=zW/\((∃t,d.use t=zW/\d.set q t≠0#256/\e=C3 (d.place q) (d.place t) (d.set q t))\/(d.fi q=zW/\e=AK (d.place q) d.count)):=by unfold PA.edgesTo;rw[uH];constructor;{rintro⟨q,i,a⟩;split at a;{rename_i f;refine⟨q,f,?_⟩;rcases k_.1 a with a | a;{unfold PA.hopsTo at a;have⟨t,j,b⟩:=qR.1 a;split at b;{rename_i c;rw[X',bne_iff_ne]at c;exact .inl ⟨t,c.1,c.2,(AoW.inj b).symm⟩};cases b};unfold PA.endE at a;split at a;{rename_i g;exact .inr ⟨g,V_.1 a⟩};cases a};cases a};rintro⟨q,f,h⟩;refine⟨q,yR.2 (PA.use_lt f),?_⟩;rw[J_ f];rcases h with⟨t,b,c,rfl⟩ | ⟨b,rfl⟩;{refine yO _ ?_;unfold PA.hopsTo;refine qR.2 ⟨t,yR.2 (PA.use_lt b),?_⟩;rw[J_ (by rw[X',bne_iff_ne];exact⟨b,c⟩)]};refine xX _ ?_;unfold PA.endE;rw[J_ b];exact V_.2 rfl
def PA.run_cons(q b:Nat)(w:List Nat):d.run q (b::w)=d.run (d.st q b) w:=rfl
def PA.run_snoc(q b:Nat)(w:List Nat):d.run q (w++[b])=d.st (d.run q w) b:=by unfold PA.run;rw[xO];rfl
def PA.live_pre(h:d.Ok):∀(w:List Nat) (q:Nat),q<d.n->Do w->d.Live (d.run q w)->d.Live q | [],q,_,_,hl=>hl | b::w,q,hq,hw,hl=>.step hq (hw b (by simp)) (PA.live_pre h w _ (h.cl q b hq (hw b (by simp))) (λx a=>hw x (yH _ a)) hl)
def PA.loose_path(h:d.Ok){l:List Nat}:∀(w:List Nat) (q i:Nat),q<d.n->Do w->l.drop i=w->d.Live (d.run q w)->Pth (d.edgesTo d.n) l (d.place q:Int) i (d.place (d.run q w):Int) (i+w.length)
 | [],q,i,_,_,_,_=>.refl
 | b::w,q,i,hq,hw,hd,hl=>by
   have e:=hw b zZ;have a:Do w:=λx j=>hw x (yH _ j);have k:l[i]?=zY b:=by
    have:(l.drop i)[0]?=zY b:=by rw[hd];rfl
    rwa [List.getElem?_drop,Nat.add_zero]at this
   have f:l.drop (i+1)=w:=by
    rw[<-List.drop_drop,hd];rfl
   have c:=h.cl q b hq e;have g:d.Live (d.st q b):=PA.live_pre h w _ c a hl;have m:d.Live q:=.step hq e g;have o:=PA.loose_path h w (d.st q b) (i+1) c a f hl;have p:C3 (d.place q) (d.place (d.st q b)) (d.set q (d.st q b))∈d.edgesTo d.n:=PA.mem_edges.2 ⟨q,PA.use_iff.2 m,.inl ⟨_,PA.use_iff.2 g,PA.set_ne e rfl,rfl⟩⟩;have p1:Pth (d.edgesTo d.n) l (d.place q:Int) i (d.place (d.st q b):Int) (i+1):=.eat .refl p rfl rfl k (PA.set_bit.2 ⟨e,rfl⟩);have p2:=p1.trans o;rw[show i+1+w.length=i+(b::w).length by simp;omega]at p2;exact p2
def PA.loose_inv{l:List Nat}{i:Int}{j:Nat}(w:d.use 0=zW)(h:Pth (d.edgesTo d.n) l 0 0 i j):j<=l.length/\((∃q,d.use q=zW/\i=(d.place q:Int)/\d.run 0 (l.take j)=q)\/(i=(d.count:Int)/\d.fi (d.run 0 (l.take j))=zW)):=by induction h with|refl=>exact⟨p_ _,.inl ⟨0,w,rfl,rfl⟩⟩|@sil q1 j e _ h1 h2 b a=>{have⟨s,a⟩:=a;obtain⟨q,f,⟨t,g,u,rfl⟩ | ⟨g,rfl⟩⟩:=PA.mem_edges.1 h1;{cases h2};refine⟨s,.inr ⟨rfl,?_⟩⟩;have b:((d.place q:Nat):Int)=q1:=b;rcases a with⟨p,k,m,e2⟩ | ⟨m,-⟩;{have:q=p:=PA.place_inj f k zO;rw[e2,<-this];exact g};have:=PA.place_count f;omega}|@eat q1 j c e _ h1 h2 b g u a=>{have⟨s,a⟩:=a;have o:=(T_.1 g).1;refine⟨o,?_⟩;obtain⟨q,f,⟨t,v,y,rfl⟩ | ⟨v,rfl⟩⟩:=PA.mem_edges.1 h1;{have b:((d.place q:Nat):Int)=q1:=b;rcases a with⟨p,k,m,e2⟩ | ⟨m,-⟩;{have r:q=p:=PA.place_inj f k zO;refine .inl ⟨t,v,rfl,?_⟩;have x:l.take (j+1)=l.take j++[c]:=by{rw[List.take_add_one,g];rfl};rw[x,PA.run_snoc,e2,<-r];exact(PA.set_bit.1 u).2};have:=PA.place_count f;omega};cases h2}
def NC(g:d.n<=65535):(A9 d).has (A9 d).start=zW/\(A9 d).has (A9 d).fin=zW/\∀e∈(A9 d).edges,(A9 d).has e.fr=zW/\(A9 d).has e.to=zW:=by have h:=PA.count_le (d:=d);unfold A9;split;{refine⟨P_.has_iff.2 ⟨tY _,by show(0:Int)<(d.count:Int)+1;omega,by show(d.count:Int)+1<=65536;omega⟩,P_.has_iff.2 ⟨by show(0:Int)<=(d.count:Int);omega,by show(d.count:Int)<(d.count:Int)+1;omega,by show(d.count:Int)+1<=65536;omega⟩,λe b=>?_⟩;have a:∀k:Nat,k<=d.count->P_.has ⟨d.count+1,0,d.count,d.edgesTo d.n⟩ (k:Int)=zW:=λk i=>P_.has_iff.2 ⟨zO,by show(k:Int)<(d.count:Int)+1;omega,by show(d.count:Int)+1<=65536;omega⟩;obtain⟨q,c,⟨t,f,j,rfl⟩ | ⟨f,rfl⟩⟩:=PA.mem_edges.1 b;{exact⟨a _ (lL (PA.place_count c)),a _ (lL (PA.place_count f))⟩};exact⟨a _ (lL (PA.place_count c)),a _ (M_ _)⟩};exact⟨zQ,zQ,λe b=>by cases b⟩
def Oq(a:d.n<=65535):E8 (A9 d)=zW:=Ed.2 (NC a)
def ZV(h:d.Ok)(r:d.n<=65535)(f:Do w):Zx (A9 d) w=zW↔d.fi (d.run 0 w)=zW:=by have⟨s,z,t⟩:=NC r;have g:=PA.run_lt h w 0 h.pos f;rw[Mx];constructor;{intro u;have a:=Pm (l:=w) (M_ _) (A9 d).fin (by rw[M'];exact u);by_cases b:d.use 0=zW;{have e:A9 d=⟨d.count+1,0,d.count,d.edgesTo d.n⟩:=J_ b;rw[e]at a;obtain⟨-,⟨q,v,c,-⟩ | ⟨-,c⟩⟩:=PA.loose_inv b a;{have c:(d.count:Int)=(d.place q:Int):=c;have:=PA.place_count v;omega};rwa [M']at c};have e:A9 d=⟨2,0,1,[]⟩:=I_ b;rw[e]at a;have k:∀q j,Pth [] w 0 0 q j->q=0:=by{intro q j a;cases a with|refl=>rfl|sil _ h=>cases h|eat _ h=>cases h};have:=k _ _ a;exact absurd this zQ};intro p;have m:d.Live (d.run 0 w):=.fin g p;have x:d.Live 0:=PA.live_pre h w 0 h.pos f m;have b:d.use 0=zW:=PA.use_iff.2 x;have e:A9 d=⟨d.count+1,0,d.count,d.edgesTo d.n⟩:=J_ b;have p1:=PA.loose_path h (l:=w) w 0 0 h.pos f rfl m;have o:AK (d.place (d.run 0 w)) d.count∈d.edgesTo d.n:=PA.mem_edges.2 ⟨_,PA.use_iff.2 m,.inr ⟨p,rfl⟩⟩;have p2:=p1.trans (Pth.one (l:=w) (i:=0+w.length) o);have y:Pth (A9 d).edges w (A9 d).start 0 (A9 d).fin w.length:=by{rw[e];rw[K_]at p2;exact p2};have:=(Ud s (λe o=>(t e o).2) y).2;rwa [M']at this
end
def M3(A C:BR):BR:=⟨A.p,C.q,A.u+C.u,A.es++C.es++[AK A.q C.p]⟩
def Mz(n:Nat)(A C:BR):BR:=⟨n,n+1+A.u+C.u,A.u+C.u+2,A.es++C.es++[AK n A.p,AK n C.p,AK A.q (n+1+A.u+C.u),AK C.q (n+1+A.u+C.u)]⟩
def Io(n:Nat)(A:BR):BR:=⟨n,n+1+A.u,A.u+2,A.es++[AK n A.p,AK n (n+1+A.u),AK A.q A.p,AK A.q (n+1+A.u)]⟩
section
variable{l:List Nat}{a b:ReM}{A C:BR}{n:Nat}
def AlG(D:n<=A.p/\A.p<n+A.u/\n<=A.q/\A.q<n+A.u)(E:(n+A.u)<=C.p/\C.p<(n+A.u)+C.u/\(n+A.u)<=C.q/\C.q<(n+A.u)+C.u)(x:∀e∈A.es,((n:Nat):Int)<=e.fr/\e.fr<((n+A.u:Nat):Int)/\((n:Nat):Int)<=e.to/\e.to<((n+A.u:Nat):Int))(y:∀e∈C.es,(((n+A.u):Nat):Int)<=e.fr/\e.fr<(((n+A.u)+C.u:Nat):Int)/\(((n+A.u):Nat):Int)<=e.to/\e.to<(((n+A.u)+C.u:Nat):Int))(z:∀i j,Pth A.es l (A.p:Int) i (A.q:Int) j↔Mt l a i j)(tb:∀i j,Pth C.es l (C.p:Int) i (C.q:Int) j↔Mt l b i j)(i j:Nat):Pth (M3 A C).es l (A.p:Int) i (C.q:Int) j↔Mt l (.cat a b) i j:=by
 have f:∀e,e∈(M3 A C).es↔(e∈A.es\/e∈C.es\/e=AK A.q C.p):=λe=>by{simp only[M3,k_,V_,or_assoc]};constructor;{
 intro r
 have s:∀q j,Pth (M3 A C).es l (A.p:Int) i q j->
   (C' n (A.u) q/\Pth A.es l (A.p:Int) i q j)\/(C' (n+A.u) (C.u) q/\∃k,Mt l a i k/\Pth C.es l (C.p:Int) k q j):=by
  intro q j r
  induction r with
  | refl=>exact .inl ⟨by unfold C';omega,.refl⟩
  | @sil q j e _ h h2 m g=>
    rcases(f e).1 h with h | h | rfl
    ·have t:=x e h;rcases g with⟨d,g⟩ | ⟨d,-⟩
     ·exact .inl ⟨⟨zO,zO⟩,.sil g h h2 m⟩
     ·unfold C' at d;omega
    ·have t:=y e h;rcases g with⟨d,-⟩ | ⟨d,k,o,g⟩
     ·unfold C' at d;omega
     ·exact .inr ⟨⟨zO,zO⟩,k,o,.sil g h h2 m⟩
    ·have m:(A.q:Int)=q:=m;rcases g with⟨d,g⟩ | ⟨d,-⟩
     ·rw[<-m]at g;exact .inr ⟨⟨by show _<=((C.p:Nat):Int);omega,by show((C.p:Nat):Int)<_;omega⟩,j,(z i j).1 g,.refl⟩
     ·unfold C' at d;omega
  | @eat q j c e _ h h2 m h4 h5 g=>
    rcases(f e).1 h with h | h | rfl
    ·have t:=x e h;rcases g with⟨d,g⟩ | ⟨d,-⟩
     ·exact .inl ⟨⟨zO,zO⟩,.eat g h h2 m h4 h5⟩
     ·unfold C' at d;omega
    ·have t:=y e h;rcases g with⟨d,-⟩ | ⟨d,k,o,g⟩
     ·unfold C' at d;omega
     ·exact .inr ⟨⟨zO,zO⟩,k,o,.eat g h h2 m h4 h5⟩
    ·cases h2
 rcases s _ _ r with⟨d,-⟩ | ⟨-,k,o,v⟩;{have d:C' n (A.u) (C.q:Int):=d;unfold C' at d;omega};exact⟨k,o,(tb k j).1 v⟩};rintro⟨k,B,v⟩;have pa:=((z i k).2 B).mono (es':=(M3 A C).es) λe w=>(f e).2 (.inl w);have pb:=((tb k j).2 v).mono (es':=(M3 A C).es) λe w=>(f e).2 (.inr (.inl w));exact(pa.trans (Pth.one ((f _).2 (.inr (.inr rfl))))).trans pb
def Al6(B:(n+1)<=A.p/\A.p<(n+1)+A.u/\(n+1)<=A.q/\A.q<(n+1)+A.u)(D:(n+1+A.u)<=C.p/\C.p<(n+1+A.u)+C.u/\(n+1+A.u)<=C.q/\C.q<(n+1+A.u)+C.u)(t:∀e∈A.es,(((n+1):Nat):Int)<=e.fr/\e.fr<(((n+1)+A.u:Nat):Int)/\(((n+1):Nat):Int)<=e.to/\e.to<(((n+1)+A.u:Nat):Int))(v:∀e∈C.es,(((n+1+A.u):Nat):Int)<=e.fr/\e.fr<(((n+1+A.u)+C.u:Nat):Int)/\(((n+1+A.u):Nat):Int)<=e.to/\e.to<(((n+1+A.u)+C.u:Nat):Int))(w:∀i j,Pth A.es l (A.p:Int) i (A.q:Int) j↔Mt l a i j)(tb:∀i j,Pth C.es l (C.p:Int) i (C.q:Int) j↔Mt l b i j)(i j:Nat):Pth (Mz n A C).es l (n:Int) i ((n+1+A.u+C.u:Nat):Int) j↔Mt l (.alt a b) i j:=by
 have f:∀e,e∈(Mz n A C).es↔(e∈A.es\/e∈C.es\/e=AK n A.p\/e=AK n C.p\/e=AK A.q (n+1+A.u+C.u)\/e=AK C.q (n+1+A.u+C.u)):=λe=>by{simp only[Mz,k_,zM,tJ,or_false,or_assoc]};constructor;{
 intro m
 have o:∀q j,Pth (Mz n A C).es l (n:Int) i q j->
   (q=(n:Int)/\i=j)\/(C' (n+1) (A.u) q/\Pth A.es l (A.p:Int) i q j)\/(C' (n+1+A.u) (C.u) q/\Pth C.es l (C.p:Int) i q j)\/(q=((n+1+A.u+C.u:Nat):Int)/\Mt l (.alt a b) i j):=by
  intro q j m
  induction m with
  | refl=>exact .inl ⟨rfl,rfl⟩
  | @sil q j e _ h h2 k g=>
    rcases(f e).1 h with h | h | rfl | rfl | rfl | rfl
    ·have r:=t e h;rcases g with⟨d,-⟩ | ⟨d,g⟩ | ⟨d,-⟩ | ⟨d,-⟩
     ·omega
     ·exact .inr (.inl ⟨⟨zO,zO⟩,.sil g h h2 k⟩)
     ·unfold C' at d;omega
     ·omega
    ·have r:=v e h;rcases g with⟨d,-⟩ | ⟨d,-⟩ | ⟨d,g⟩ | ⟨d,-⟩
     ·omega
     ·unfold C' at d;omega
     ·exact .inr (.inr (.inl ⟨⟨zO,zO⟩,.sil g h h2 k⟩))
     ·omega
    ·have k:(n:Int)=q:=k;rcases g with⟨d,rfl⟩ | ⟨d,-⟩ | ⟨d,-⟩ | ⟨d,-⟩
     ·exact .inr (.inl ⟨⟨by show _<=((A.p:Nat):Int);omega,by show((A.p:Nat):Int)<_;omega⟩,.refl⟩)
     ·unfold C' at d;omega
     ·unfold C' at d;omega
     ·omega
    ·have k:(n:Int)=q:=k;rcases g with⟨d,rfl⟩ | ⟨d,-⟩ | ⟨d,-⟩ | ⟨d,-⟩
     ·exact .inr (.inr (.inl ⟨⟨by show _<=((C.p:Nat):Int);omega,by show((C.p:Nat):Int)<_;omega⟩,.refl⟩))
     ·unfold C' at d;omega
     ·unfold C' at d;omega
     ·omega
    ·have k:(A.q:Int)=q:=k;rcases g with⟨d,-⟩ | ⟨d,g⟩ | ⟨d,-⟩ | ⟨d,-⟩
     ·omega
     ·rw[<-k]at g;exact .inr (.inr (.inr ⟨rfl,.inl ((w i j).1 g)⟩))
     ·unfold C' at d;omega
     ·omega
    ·have k:(C.q:Int)=q:=k;rcases g with⟨d,-⟩ | ⟨d,-⟩ | ⟨d,g⟩ | ⟨d,-⟩
     ·omega
     ·unfold C' at d;omega
     ·rw[<-k]at g;exact .inr (.inr (.inr ⟨rfl,.inr ((tb i j).1 g)⟩))
     ·omega
  | @eat q j c e _ h h2 k h4 h5 g=>
    rcases(f e).1 h with h | h | rfl | rfl | rfl | rfl
    ·have r:=t e h;rcases g with⟨d,-⟩ | ⟨d,g⟩ | ⟨d,-⟩ | ⟨d,-⟩
     ·omega
     ·exact .inr (.inl ⟨⟨zO,zO⟩,.eat g h h2 k h4 h5⟩)
     ·unfold C' at d;omega
     ·omega
    ·have r:=v e h;rcases g with⟨d,-⟩ | ⟨d,-⟩ | ⟨d,g⟩ | ⟨d,-⟩
     ·omega
     ·unfold C' at d;omega
     ·exact .inr (.inr (.inl ⟨⟨zO,zO⟩,.eat g h h2 k h4 h5⟩))
     ·omega
    all_goals cases h2
 rcases o _ _ m with⟨d,-⟩ | ⟨d,-⟩ | ⟨d,-⟩ | ⟨-,x⟩;{have d:((n+1+A.u+C.u:Nat):Int)=(n:Int):=d;omega};{have d:C' (n+1) (A.u) ((n+1+A.u+C.u:Nat):Int):=d;unfold C' at d;omega};{have d:C' (n+1+A.u) (C.u) ((n+1+A.u+C.u:Nat):Int):=d;unfold C' at d;omega};exact x};rintro(y | z);{have pa:=((w i j).2 y).mono (es':=(Mz n A C).es) λe s=>(f e).2 (.inl s);exact((Pth.one (l:=l) (i:=i) ((f _).2 (.inr (.inr (.inl rfl))))).trans pa).trans (Pth.one ((f _).2 (.inr (.inr (.inr (.inr (.inl rfl)))))))};have pb:=((tb i j).2 z).mono (es':=(Mz n A C).es) λe s=>(f e).2 (.inr (.inl s));exact((Pth.one (l:=l) (i:=i) ((f _).2 (.inr (.inr (.inr (.inl rfl)))))).trans pb).trans (Pth.one ((f _).2 (.inr (.inr (.inr (.inr (.inr rfl)))))))
end
def AjA{l:List Nat}{a:ReM}{A:BR}{n:Nat}(y:(n+1)<=A.p/\A.p<(n+1)+A.u/\(n+1)<=A.q/\A.q<(n+1)+A.u)(v:∀e∈A.es,(((n+1):Nat):Int)<=e.fr/\e.fr<(((n+1)+A.u:Nat):Int)/\(((n+1):Nat):Int)<=e.to/\e.to<(((n+1)+A.u:Nat):Int))(s:∀i j,Pth A.es l (A.p:Int) i (A.q:Int) j↔Mt l a i j)(i j:Nat):Pth (Io n A).es l (n:Int) i ((n+1+A.u:Nat):Int) j↔Mt l (.star a) i j:=by
 have d:∀e,e∈(Io n A).es↔(e∈A.es\/e=AK n A.p\/e=AK n (n+1+A.u)\/e=AK A.q A.p\/e=AK A.q (n+1+A.u)):=λe=>by{simp only[Io,k_,zM,tJ,or_false,or_assoc]};constructor;{
 intro r
 have o:∀q j,Pth (Io n A).es l (n:Int) i q j->
   (q=(n:Int)/\i=j)\/(C' (n+1) (A.u) q/\∃k,E9 (Mt l a) i k/\Pth A.es l (A.p:Int) k q j)\/(q=((n+1+A.u:Nat):Int)/\E9 (Mt l a) i j):=by
  intro q j r;have hs:C' (n+1) (A.u) (A.p:Int):=by unfold C';omega
  induction r with
  | refl=>exact .inl ⟨rfl,rfl⟩
  | @sil q j e _ m h2 g f=>
    rcases(d e).1 m with m | rfl | rfl | rfl | rfl
    ·have w:=v e m;rcases f with⟨b,-⟩ | ⟨b,k,h,f⟩ | ⟨b,-⟩
     ·omega
     ·exact .inr (.inl ⟨⟨zO,zO⟩,k,h,.sil f m h2 g⟩)
     ·omega
    ·have g:(n:Int)=q:=g;rcases f with⟨b,rfl⟩ | ⟨b,-⟩ | ⟨b,-⟩
     ·exact .inr (.inl ⟨hs,i,.refl,.refl⟩)
     ·unfold C' at b;omega
     ·omega
    ·have g:(n:Int)=q:=g;rcases f with⟨b,rfl⟩ | ⟨b,-⟩ | ⟨b,-⟩
     ·exact .inr (.inr ⟨rfl,.refl⟩)
     ·unfold C' at b;omega
     ·omega
    ·have g:(A.q:Int)=q:=g;rcases f with⟨b,-⟩ | ⟨b,k,h,f⟩ | ⟨b,-⟩
     ·omega
     ·rw[<-g]at f;exact .inr (.inl ⟨hs,j,.step h ((s k j).1 f),.refl⟩)
     ·omega
    ·have g:(A.q:Int)=q:=g;rcases f with⟨b,-⟩ | ⟨b,k,h,f⟩ | ⟨b,-⟩
     ·omega
     ·rw[<-g]at f;exact .inr (.inr ⟨rfl,.step h ((s k j).1 f)⟩)
     ·omega
  | @eat q j c e _ m h2 g h4 h5 f=>
    rcases(d e).1 m with m | rfl | rfl | rfl | rfl
    ·have w:=v e m;rcases f with⟨b,-⟩ | ⟨b,k,h,f⟩ | ⟨b,-⟩
     ·omega
     ·exact .inr (.inl ⟨⟨zO,zO⟩,k,h,.eat f m h2 g h4 h5⟩)
     ·omega
    all_goals cases h2
 rcases o _ _ r with⟨b,-⟩ | ⟨b,-⟩ | ⟨-,t⟩;{have b:((n+1+A.u:Nat):Int)=(n:Int):=b;omega};{have b:C' (n+1) (A.u) ((n+1+A.u:Nat):Int):=b;unfold C' at b;omega};exact t};intro t;have o:∀k,E9 (Mt l a) i k->k=i\/Pth (Io n A).es l (n:Int) i (A.q:Int) k:=by{intro k h;induction h with|refl=>exact .inl rfl|@step k j h hj f=>{have pa:=((s k j).2 hj).mono (es':=(Io n A).es) λe x=>(d e).2 (.inl x);rcases f with rfl | f;{exact .inr ((Pth.one (l:=l) ((d _).2 (.inr (.inl rfl)))).trans pa)};exact .inr ((f.trans (Pth.one ((d _).2 (.inr (.inr (.inr (.inl rfl))))))).trans pa)}};rcases o j t with rfl | r;{exact Pth.one ((d _).2 (.inr (.inr (.inl rfl))))};exact r.trans (Pth.one ((d _).2 (.inr (.inr (.inr (.inr rfl))))))
end Go.Proofs.YtelngokgpnphfaaGreatDoor
