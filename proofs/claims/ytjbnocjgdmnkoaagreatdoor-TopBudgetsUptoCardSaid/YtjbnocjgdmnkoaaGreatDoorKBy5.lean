import Derived.Test.YtjbnocjgdmnkoaaGreatDoorKBy4
set_option maxHeartbeats 100000000
open Array renaming replicate -> AqN
open List renaming replicate -> AlY, range -> Am6
open Option renaming some -> AqI
set_option maxRecDepth 100000
open Go.Proofs.Tryz
open Go renaming Value -> v_, TypeId -> x_, Program -> w_, World -> y_, Operand -> z_
open Option renaming some -> zY, none -> zV
open Bool renaming true -> zW, false -> zU
open Decidable renaming decide -> zT
set_option linter.unusedVariables false
set_option linter.unusedSimpArgs false
set_option linter.defProp false
namespace Go.Proofs.YtjbnocjgdmnkoaaGreatDoor
variable{B S:Nat->Prop}{H H0:Aa}{ps:List Pc}{r ra:ReM}{k c q e:Nat}{va vb:v_}{b n:Int}{t:ByteArray}{p:Pc}{f:AF}{fs:List AF}{x:BitVec 256}{K:v_->Prop}{e':x_}{a a' b' U:Option AM}{N:O_}{A C:AM}{g V:Gr}{w:List Nat}
def D_.rebase(a:D_ B H0 H ps):D_ B H H ps:=⟨A_.refl _ _,λk b=>a.up b,I_ _,a.oks,a.rng,a.dis⟩
def D_.widen{H':Aa}(d:D_ B H0 H ps)(g:A_ (F_ H) H H')(N:Nat->Prop)(f:∀k,N k->H.size<=k/\k<H'.size):D_ (λk=>B k\/N k) H' H' ps:=by have a:=d.call g;refine⟨A_.refl _ _,λk b=>?_,I_ _,a.oks,λp e k b=>⟨λc=>?_,(a.rng p e k b).2⟩,a.dis⟩;{rcases b with b | b;{exact a.up b};exact(f k b).2};rcases c with c | c;{exact(d.rng p e k b).1 c};have:=(d.rng p e k b).2;have:=(f k c).1;omega
open Go.Lib
inductive ROp
 | alt
 | cat
 | and_
 | minus
def opR:ROp->ReM->ReM->ReM | .alt=>.alt | .cat=>.cat | .and_=>.and_ | .minus=>.minus
def opF:ROp->FuncId | .alt=>117 | .cat=>178 | .and_=>149 | .minus=>150
def XM(op:ROp)(a b:ReM):(opR op a b).nodes=1+a.nodes+b.nodes:=by cases op<;>rfl
def xD(r:ReM):Nat:=min r.nodes 2001
def Ac(r:ReM)(fn:v_):List v_:=[B_ ((xD r:Nat):Int),fn]
inductive Cx(B:Nat->Prop)(H:Aa):v_->ReM->Prop
 | leaf {b:Nat} {r:ReM}:B b->L_ H b 35 [Al r]->Cx B H (.func (.func 193) #[] #[J_ b]) r
 | join {b1 b2 b3:Nat} {va vb:v_} {ra rb:ReM} (op:ROp):B b1->B b2->B b3->L_ H b1 234 [.func (.func (opF op)) #[] #[]]->L_ H b2 186 (Ac ra va)->L_ H b3 186 (Ac rb vb)->
   Cx B H va ra->Cx B H vb rb->Cx B H (.func (.func 152) #[] #[J_ b1,J_ b2,J_ b3]) (opR op ra rb)
 | star {b:Nat} {va:v_} {ra:ReM}:B b->L_ H b 186 (Ac ra va)->Cx B H va ra->Cx B H (.func (.func 213) #[] #[J_ b]) (.star ra)
def Cx.frame{B':Nat->Prop}{H':Aa}{v:v_}(h:Cx B H v r)(k:A_ B H H')(s:∀k,B k->B' k):Cx B' H' v r:=by induction h with|leaf a b=>exact .leaf (s _ a) (b.agr k a)|join op a b e f g j _ _ c d=>exact .join op (s _ a) (s _ b) (s _ e) (f.agr k a) (g.agr k b) (j.agr k e) c d|star a b _ l=>exact .star (s _ a) (b.agr k a) l
def Xj{H':Aa}(b:A_ B H H')(c:∀k,B k->k<H.size)(a:B k):k<H'.size:=by have h:=b k a;rw[Array.getElem?_eq_getElem (c k a)]at h;exact(Array.getElem?_eq_some_iff.1 h).1
def jP(op:ROp)(a b:ReM)(H:Aa):AT prog (opF op) #[Al a,Al b] H (Al (opR op a b)):=by have⟨T1,c,d⟩:=AN a;have⟨T2,e,e2⟩:=AN b;cases op;(case' alt=>show AT prog 117 #[Al a,Al b] H (.iface 70 (.agg #[Al a,Al b]));rw[d,e2];refine Am.of_vc func117 rfl (call117 _) (Ad underlying70 rfl _ rfl [.iface T1 c,.iface T2 e] rfl ?_));(case' cat=>show AT prog 178 #[Al a,Al b] H (.iface 73 (.agg #[Al a,Al b]));rw[d,e2];refine Am.of_vc func178 rfl (call178 _) (Ad underlying73 rfl _ rfl [.iface T1 c,.iface T2 e] rfl ?_));(case' and_=>show AT prog 149 #[Al a,Al b] H (.iface 71 (.agg #[Al a,Al b]));rw[d,e2];refine Am.of_vc func149 rfl (call149 _) (Ad underlying71 rfl _ rfl [.iface T1 c,.iface T2 e] rfl ?_));(case' minus=>show AT prog 150 #[Al a,Al b] H (.iface 72 (.agg #[Al a,Al b]));rw[d,e2];refine Am.of_vc func150 rfl (call150 _) (Ad underlying72 rfl _ rfl [.iface T1 c,.iface T2 e] rfl ?_));all_goals (conv=>whnf);exact⟨rfl,A_.refl _ _⟩
def MT(cap:Array v_):(((#[]:Array v_).toList++([]:List v_))++cap.toList).toArray=cap:=zZ
def AiK{v:v_}(h:Cx B H v r)(w:∀k,B k->k<H.size):∃g cap,v= .func (.func g) #[] cap/\∀H',A_ B H H'->AT prog g cap H' (Al r):=by induction h with|@leaf b r h1 h2=>refine⟨_,_,rfl,λH' c=>?_⟩;have x:=h2.agr c h1;refine Am.of_vc func193 rfl (call193 _) (C_ (x.cellE rfl) zA ?_);(conv=>whnf);exact⟨rfl,A_.refl _ _⟩|@join b1 b2 b3 va vb ra rb op h1 h2 h3 h4 h5 h6 _ _ ih1 ih2=>refine⟨_,_,rfl,λH' c=>?_⟩;have q:=h4.agr c h1;have t:=h5.agr c h2;have u:=h6.agr c h3;obtain⟨g1,y,rfl,p1⟩:=ih1;obtain⟨g2,D,rfl,p2⟩:=ih2;refine Am.of_vc func152 rfl (call152 _) (Ap.held (F_ H') 9 (sq [0,1,2,4,5] (.f 3 (.f 6 (.f 7 (.f 8 .e))))) rfl zX (C_ (q.cellE rfl) q.lt (E_ ?_)));refine C_ (t.cellE rfl) t.lt (E_ ?_);refine C_ (u.cellE rfl) u.lt ?_;(conv=>whnf);rw[MT];refine Af (p1 H' c) λG1 a=>?_;refine⟨a,?_⟩;have m:A_ B H G1:=c.trans (a.mono λk l=>Xj c w l);(conv=>whnf);rw[MT];refine Af (p2 G1 m) λG2 n=>?_;have d:=a.trans (n.mono λk l=>Ak a l);refine⟨d,?_⟩;refine Af (jP op ra rb G2) λG3 p=>?_;have j:=d.trans (p.mono λk l=>Ak d l);refine⟨j,?_⟩;(conv=>whnf);refine⟨j,?_⟩;exact⟨rfl,j⟩|@star b va ra h1 h2 _ ih=>refine⟨_,_,rfl,λH' c=>?_⟩;have z:=h2.agr c h1;obtain⟨g1,y,rfl,p1⟩:=ih;refine Am.of_vc func213 rfl (call213 _) (E_ ?_);refine lT (z.cellE rfl) ?_;(conv=>whnf);rw[MT];refine Af (p1 H' c) λG1 a=>?_;have⟨T1,A,C⟩:=AN ra;show _;rw[show Al (.star ra)= .iface 75 (.agg #[Al ra])from rfl];rw[C];refine Ad underlying75 rfl _ rfl [.iface T1 A] rfl ?_;(conv=>whnf);exact⟨rfl,a⟩
structure RY(B:Nat->Prop)(H:Aa)(ps:List Pc)(r:ReM)(v:v_)(H':Aa):Prop where
 ex:∃(B':Nat->Prop) (fn:v_),v= .agg (Ac r fn).toArray/\(∀k,B k->B' k)/\A_ (F_ H) H H'/\D_ B' H' H' ps/\Cx B' H' fn r
def Cx.fn{v:v_}(h:Cx B H v r):∃g c,v= .func (.func g) #[] c:=by cases h<;>exact⟨_,_,rfl⟩
def CA{l:List v_}{v:v_}(h:l.length=2):As l 0 (Ac r v)=Ac r v:=BC (by rw[h];rfl)
def A9{b:Nat}{v:v_}(h:L_ H b 186 (Ac r v)):AO H b 0 (Ac r v):=h.cells (λj v a=>by rw[N_];exact a)
def Ar:List v_:=[B_ 0,.nilFunc]
def CW:(prog.info? 186).bind (·.zero)=zY (.agg Ar.toArray):=zX
def Sq(n:Nat)(a:n<1152921504606846976)(H:Aa):AT prog 151 #[B_ n] H (.int .i64 ((min n 2001:Nat):Int)):=by refine Am.of_vc func151 rfl (call151 _) (AmV ?_);(conv=>whnf);refine⟨?_,A_.refl _ _⟩;congr 1;split<;>omega
def Vy(r:ReM):xD r<=2001:=Nat.min_le_right _ _
def Rg(n:D_ B H0 H ps)(p:r.nodes=1):Am prog 175 #[Al r] H (RY B H ps r):=by refine Am.of_vc func175 rfl (call175 _) ?_;have⟨T1,t,m⟩:=AN r;rw[m];refine BF [.iface T1 t] rfl ?_;intro b H1 u w g h;refine Aq (.agg Ar.toArray) Ar CW rfl ?_;intro q H2 x y j c;refine Ad underlying186 rfl _ rfl (Ac r (.func (.func 193) #[] #[J_ b])) (by unfold Ac xD;rw[p];rfl) ?_;refine wG (cs:=Ac r (.func (.func 193) #[] #[J_ b])) rfl j (by simp[Ac,Ar]) rfl ?_;intro H3 d e z;rw[CA rfl]at d;refine lN (cs:=Ac r (.func (.func 193) #[] #[J_ b])) (A9 d) ?_;have l:A_ (F_ H) H H2:=(h.mono λk a=>by have:k<H.size:=a;omega).trans (c.mono λk a=>by have:k<H.size:=a;omega);have f:A_ (F_ H) H H3:=l.trans (e.mono λk a=>by have:k<H.size:=a;omega);have A:L_ H3 b 35 [Al r]:=by{rw[m];exact(g.agr c (zO:b<q)).agr e (zO:b≠q)};exact⟨_,_,rfl,λk a=>.inl a,f,n.widen f (λk=>k=b) (λk a=>zO),.leaf (.inr rfl) A⟩
def Hx{rb:ReM}(op:ROp)(I:D_ B H0 H ps)(J:Cx B H va ra)(K:Cx B H vb rb):Am prog 116 #[.agg (Ac ra va).toArray,.agg (Ac rb vb).toArray,.func (.func (opF op)) #[] #[]] H (RY B H ps (opR op ra rb)):=by
 obtain⟨g1,L,rfl⟩:=J.fn;obtain⟨g2,M,rfl⟩:=K.fn;have z1:=Vy ra;have z2:=Vy rb;refine Am.of_vc func116 rfl (call116 _) (BF (Ac ra (.func (.func g1) #[] L)) rfl ?_);intro c H1 P Q A C;refine BF (Ac rb (.func (.func g2) #[] M)) rfl ?_;intro d H2 R S D r;refine BF [.func (.func (opF op)) #[] #[]] rfl ?_;intro f H3 T U E n;refine Aq (.agg Ar.toArray) Ar CW rfl ?_;intro q H4 V W t g;have N:L_ H4 c 186 (Ac ra (.func (.func g1) #[] L)):=((A.agr r (zO:c<d)).agr n (zO:c<f)).agr g (zO:c<q);have O:L_ H4 d 186 (Ac rb (.func (.func g2) #[] M)):=(D.agr n (zO:d<f)).agr g (zO:d<q);have X:L_ H4 f 234 [.func (.func (opF op)) #[] #[]]:=E.agr g (zO:f<q);refine E_ ?_;refine lT (N.cellE rfl) ?_;(conv=>whnf);rw[m_ (x:=1+((xD ra:Nat):Int)) zO];refine E_ ?_;refine lT (O.cellE rfl) ?_;(conv=>whnf);rw[m_ (x:=1+((xD ra:Nat):Int)+((xD rb:Nat):Int)) zO];rw[(zO:1+((xD ra:Nat):Int)+((xD rb:Nat):Int)=((1+xD ra+xD rb:Nat):Int))];refine Af (Sq (1+xD ra+xD rb) zO H4) λH5 j=>?_;have F:min (1+xD ra+xD rb) 2001=xD (opR op ra rb):=by unfold xD;rw[XM];omega
 rw[F];have Y:=Ac (opR op ra rb) (.func (.func 152) #[] #[J_ f,J_ c,J_ d]);refine Ad underlying186 rfl _ rfl (Ac (opR op ra rb) (.func (.func 152) #[] #[J_ f,J_ c,J_ d])) rfl (wG (cs:=Ac (opR op ra rb) (.func (.func 152) #[] #[J_ f,J_ c,J_ d])) rfl (t.agr j t.lt) (by simp[Ac,Ar]) rfl ?_);intro H6 u w Z;rw[CA rfl]at u;refine lN (cs:=Ac (opR op ra rb) (.func (.func 152) #[] #[J_ f,J_ c,J_ d])) (A9 u) ?_;have y:A_ (F_ H) H H4:=(((C.mono λk a=>by have:k<H.size:=a;omega).trans (r.mono λk a=>by have:k<H.size:=a;omega)).trans (n.mono λk a=>by have:k<H.size:=a;omega)).trans (g.mono λk a=>by have:k<H.size:=a;omega);have p:A_ (F_ H) H H6:=(y.trans (j.mono λk a=>Ak y a)).trans (w.mono λk a=>by have:k<H.size:=a;omega);have l5:=Ay j;have m:∀{b:Nat} {e:x_} {l:List v_},L_ H4 b e l->b≠q->L_ H6 b e l:=λh G=>(h.agr j h.lt).agr w G;have z:A_ B H H6:=p.mono λk a=>I.up a;exact⟨_,_,rfl,λk a=>.inl a,p,I.widen p (λk=>k=f\/k=c\/k=d) (λk a=>by rcases a with rfl | rfl | rfl<;>omega),.join op (.inr (.inl rfl)) (.inr (.inr (.inl rfl))) (.inr (.inr (.inr rfl))) (m X zO) (m N zO) (m O zO) (J.frame z λk a=>.inl a) (K.frame z λk a=>.inl a)⟩
def RH(t:D_ B H0 H ps)(u:Cx B H va ra):Am prog 194 #[.agg (Ac ra va).toArray] H (RY B H ps (.star ra)):=by
 obtain⟨g1,w,rfl⟩:=u.fn;have E:=Vy ra;refine Am.of_vc func194 rfl (call194 _) (BF (Ac ra (.func (.func g1) #[] w)) rfl ?_);intro c H1 y z l m;refine Aq (.agg Ar.toArray) Ar CW rfl ?_;intro q H4 A C e f;have n:L_ H4 c 186 (Ac ra (.func (.func g1) #[] w)):=l.agr f (zO:c<q);refine E_ ?_;refine lT (n.cellE rfl) ?_;(conv=>whnf);rw[m_ (x:=1+((xD ra:Nat):Int)) zO];rw[(zO:1+((xD ra:Nat):Int)=((1+xD ra:Nat):Int))];refine Af (Sq (1+xD ra) zO H4) λH5 b=>?_;have p:min (1+xD ra) 2001=xD (.star ra):=by unfold xD;show _=min (1+ra.nodes) 2001;omega
 rw[p];refine Ad underlying186 rfl _ rfl (Ac (.star ra) (.func (.func 213) #[] #[J_ c])) rfl (wG (cs:=Ac (.star ra) (.func (.func 213) #[] #[J_ c])) rfl (e.agr b e.lt) (by simp[Ac,Ar]) rfl ?_);intro H6 g h D;rw[CA rfl]at g;refine lN (cs:=Ac (.star ra) (.func (.func 213) #[] #[J_ c])) (A9 g) ?_;have j:A_ (F_ H) H H4:=(m.mono λk a=>by have:k<H.size:=a;omega).trans (f.mono λk a=>by have:k<H.size:=a;omega);have d:A_ (F_ H) H H6:=(j.trans (b.mono λk a=>Ak j a)).trans (h.mono λk a=>by have:k<H.size:=a;omega);have F:=Ay b;have r:A_ B H H6:=d.mono λk a=>t.up a;exact⟨_,_,rfl,λk a=>.inl a,d,t.widen d (λk=>k=c) (λk a=>zO),.star (.inr rfl) ((n.agr b n.lt).agr h (zO:c≠q)) (u.frame r λk a=>.inl a)⟩
def Rk(E:D_ B H0 H ps)(F:Cx B H va ra):Am prog 195 #[.agg (Ac ra va).toArray] H (RY B H ps (CL ra)):=by obtain⟨g1,l,rfl⟩:=F.fn;refine Am.of_vc func195 rfl (call195 _) (BF (Ac ra (.func (.func g1) #[] l)) rfl ?_);intro G H1 m L n g;refine Aq (.agg Ar.toArray) Ar CW rfl ?_;intro q H4 p t u d;have I:L_ H4 G 186 (Ac ra (.func (.func g1) #[] l)):=n.agr d (zO:G<q);have b:A_ (F_ H) H H4:=(g.mono λk a=>by have:k<H.size:=a;omega).trans (d.mono λk a=>by have:k<H.size:=a;omega);have w:=(E.skip m g).box p t u d;refine Ap.heldZ (F_ H4) [5] (sq [0,1,2] (.f 3 (.f 4 (.f 5 .e)))) rfl zX (K_ (cs:=Ac ra (.func (.func g1) #[] l)) (A9 I) I.lt (Ad underlying62 rfl _ rfl [] rfl (An.mk (Rg (r:=.eps) w rfl) ?_)));rintro _ H5 ⟨B1,O,rfl,J,a1,x,ge⟩;refine⟨a1,?_⟩;have h:A_ B H H5:=(b.trans (a1.mono λk a=>Ak b a)).mono λk a=>E.up a;refine An.mk (Hx .alt x (F.frame h J) ge) ?_;rintro _ H6 ⟨B2,P,rfl,M,a2,y,K⟩;have j:=a1.trans (a2.mono λk a=>Ak a1 a);refine⟨j,?_⟩;obtain⟨g2,z,rfl⟩:=K.fn;refine Bd (cs:=Ac (CL ra) (.func (.func g2) #[] z)) y _ rfl (ES _ _) (by simp[Ac,Ar]) rfl λH7 c A N=>?_;rw[SI,CA rfl]at c;have C:L_ H7 q 186 (Ac (CL ra) (.func (.func g2) #[] z)):=c.blk _ (ES _ _);refine lN (cs:=Ac (CL ra) (.func (.func g2) #[] z)) (A9 C) ?_;have D:A_ (F_ H) H H6:=b.trans (j.mono λk a=>Ak b a);exact⟨B2,_,rfl,λk a=>M k (J k a),D.trans (A.mono λk a=>by have:k<H.size:=a;omega),c.lft.rebase,K.frame c.old λk a=>a⟩
def KU(a:ReM)(m:Nat):DL a m 1=zY (if 0<m then a else CL a):=rfl
def XW(a:ReM)(m k:Nat)(h:1<=k):∃r,DL a m k=zY r:=by obtain⟨j,rfl⟩:∃j,k=j+1:=⟨k-1,zO⟩;exact⟨_,rfl⟩
def Jo(a:ReM)(m k:Nat)(h:1<=k):(DL a m (k+1)).getD .eps= .cat ((DL a m k).getD .eps) (if k<m then a else CL a):=by have⟨r,b⟩:=XW a m k h;show(zY (YU (DL a m k) (if k<m then a else CL a))).getD .eps=_;rw[b];rfl
def V6(ps:List Pc)(b3 q6 q7:Nat)(a out:ReM)(va fn:v_):List Pc:=ps++[pB 186 b3 (Ac a va),pB 186 q6 Ar,pB 186 q7 (Ac out fn)]
structure AhO(B:Nat->Prop)(H:Aa)(ps:List Pc)(b3 q6 q7:Nat)(a out:ReM)(va:v_)(G:Aa):Prop where
 ex:∃(B':Nat->Prop) (fn:v_),(∀k,B k->B' k)/\A_ (F_ H) H G/\D_ B' G G (V6 ps b3 q6 q7 a out va fn)/\Cx B' G va a/\Cx B' G fn out
def WY{a:ReM}{m:Nat}(Y:D_ B H0 H ps)(Q:Cx B H va a)(hm:m<=255)(b9: -1<=n)(bd:n<=255)(be:0<=n->(m:Int)<=n):Am prog 215 #[.agg (Ac a va).toArray,B_ m,B_ n] H (RY B H ps (FP a m n)):=by
 obtain⟨g1,l,rfl⟩:=Q.fn;refine Am.of_vc func215 rfl (call215 _) (BF (Ac a (.func (.func g1) #[] l)) rfl ?_);intro S H1 ai aj ak T;have st1:=Y.box ai aj ak T;refine Aq (.agg Ar.toArray) Ar CW rfl ?_;intro N H2 am ao ap a0;have A:=st1.box am ao ap a0;have p:A_ (F_ H) H H2:=(T.mono λk b=>by have:k<H.size:=b;omega).trans (a0.mono λk b=>by have:k<H.size:=b;omega);have a8:A_ B H H2:=p.mono λk b=>Y.up b;rw[yP]at A;have aq:=Q.frame a8 λk b=>b;have a9:L_ H2 S 186 (Ac a (.func (.func g1) #[] l)):=A.blk _ (ES _ _);by_cases h1:m=0/\n<0;{have y:((m:Int)==0)=zW:=by{rw[h1.1];rfl};have Z:zT (n<0)=zW:=a_ h1.2;(conv=>whnf);rw[y];(conv=>whnf);rw[Z];refine K_ (cs:=Ac a (.func (.func g1) #[] l)) (A9 a9) zA (An.mk (RH A aq) ?_);rintro _ H3 ⟨B1,f1,rfl,q,a1,z,gs⟩;obtain⟨g2,g,rfl⟩:=gs.fn;refine Bd (cs:=Ac (.star a) (.func (.func g2) #[] g)) z _ rfl (W_ ps _ 1) (by simp[Ac,Ar]) rfl λH4 d C ab=>?_;rw[zB,CA rfl]at d;have t:L_ H4 N 186 (Ac (.star a) (.func (.func g2) #[] g)):=d.blk _ (W_ ps _ 1);refine lN (cs:=Ac (.star a) (.func (.func g2) #[] g)) (A9 t) ?_;have e:FP a m n= .star a:=by{unfold FP;rw[H_ h1.2,H_ h1.1]};rw[e];exact⟨B1,_,rfl,q,(p.trans (a1.mono λk b=>Ak p b)).trans (C.mono λk b=>by have:k<H.size:=b;omega),d.lft.rebase,gs.frame d.old λk b=>b⟩};by_cases h2:m=0/\n=0;{have y:((m:Int)==0)=zW:=by{rw[h2.1];rfl};have Z:zT (n<0)=zU:=j_;have d3:(n==0)=zW:=by{rw[h2.2];rfl};(conv=>whnf);rw[y];(conv=>whnf);rw[Z];(conv=>whnf);rw[y];(conv=>whnf);rw[d3];refine Ad underlying62 rfl _ rfl [] rfl (An.mk (Rg (r:=.eps) A rfl) ?_);rintro _ H3 ⟨B1,f1,rfl,q,a1,z,gs⟩;obtain⟨g2,g,rfl⟩:=gs.fn;refine Bd (cs:=Ac .eps (.func (.func g2) #[] g)) z _ rfl (W_ ps _ 1) (by simp[Ac,Ar]) rfl λH4 d C ab=>?_;rw[zB,CA rfl]at d;have t:L_ H4 N 186 (Ac .eps (.func (.func g2) #[] g)):=d.blk _ (W_ ps _ 1);refine lN (cs:=Ac .eps (.func (.func g2) #[] g)) (A9 t) ?_;have e:FP a m n= .eps:=by{unfold FP;rw[G_ zO,H_ h2.2]};rw[e];exact⟨B1,_,rfl,q,(p.trans (a1.mono λk b=>Ak p b)).trans (C.mono λk b=>by have:k<H.size:=b;omega),d.lft.rebase,gs.frame d.old λk b=>b⟩};by_cases U:m=0;have y:((m:Int)==0)=zW:=by rw[U];rfl
 (conv=>whnf);rw[y];(conv=>whnf);rw[show zT (n<0)=zU from j_];(conv=>whnf);rw[y];(conv=>whnf);rw[show(n==0)=zU from beq_eq_false_iff_ne.2 zO];rotate_left
 have y:((m:Int)==0)=zU:=beq_eq_false_iff_ne.2 zO;(conv=>whnf);rw[y];(conv=>whnf);rw[y];(all_goals refine K_ (cs:=Ac a (.func (.func g1) #[] l)) (A9 a9) zA (Aq (.agg Ar.toArray) Ar CW rfl ?_);intro V H3 au aw ay ad;have z:=A.box au aw ay ad;rw[yP]at z;refine Bd (cs:=Ac a (.func (.func g1) #[] l)) z _ rfl (W_ ps _ 2) (by simp[Ac,Ar]) rfl λH4 d C ab=>?_;rw[zB]at d;replace d:D_ B H0 H4 (V6 ps S N V a a (.func (.func g1) #[] l) (.func (.func g1) #[] l)):=by{have e:As Ar 0 (Ac a (.func (.func g1) #[] l))=Ac a (.func (.func g1) #[] l):=CA rfl;have:=d;rw[e]at this;exact this};have O:A_ (F_ H) H H4:=(p.trans (ad.mono λk b=>by have:=Ak p b;omega)).trans (C.mono λk b=>by have:k<H.size:=b;omega);have D:A_ B H H4:=O.mono λk b=>Y.up b;have n3:H.size<=V:=by{have:=Ay p;omega};have n6:H.size<=N:=by{have:=Ay (show A_ (F_ H) H H1 from T.mono λk b=>by have:k<H.size:=b;omega);omega};(conv=>whnf);refine AC.cut [] (λ_:Unit=>[]) (λ_ G=>AhO B H ps S N V a ((DL a m 1).getD .eps) (.func (.func g1) #[] l) G) ?_ ?_;{by_cases U:m=0;{have y:((m:Int)==0)=zW:=by{rw[U];rfl};(conv=>whnf);rw[y];refine K_ (cs:=Ac a (.func (.func g1) #[] l)) (A9 (d.blk _ (ES _ _))) zA (An.mk (Rk d (Q.frame D λk b=>b)) ?_);rintro _ H5 ⟨B1,f1,rfl,q,a1,az,gs⟩;obtain⟨g2,g,rfl⟩:=gs.fn;refine Bd (cs:=Ac (CL a) (.func (.func g2) #[] g)) az _ rfl (W_ ps _ 2) (by simp[Ac]) rfl λH6 E b0 bf=>?_;unfold V6 at E;rw[zB]at E;have e6:As (Ac a (.func (.func g1) #[] l)) 0 (Ac (CL a) (.func (.func g2) #[] g))=Ac (CL a) (.func (.func g2) #[] g):=CA rfl;rw[e6]at E;(conv=>whnf);have ae:A_ (F_ H) H H6:=(O.trans (a1.mono λk b=>Ak O b)).trans (b0.mono λk b=>by have:k<H.size:=b;omega);refine⟨rfl,(),rfl,⟨B1,.func (.func g2) #[] g,q,ae,?_,Q.frame (ae.mono λk b=>Y.up b) q,?_⟩⟩;{rw[KU,G_ zO];exact E.rebase};rw[KU,G_ zO];exact gs.frame E.old λk b=>b};have y:((m:Int)==0)=zU:=beq_eq_false_iff_ne.2 zO;(conv=>whnf);rw[y];(conv=>whnf);refine⟨rfl,(),rfl,⟨B,.func (.func g1) #[] l,λk b=>b,O,?_,Q.frame D λk b=>b,?_⟩⟩;{rw[KU,H_ zO];exact d.rebase};rw[KU,H_ zO];exact Q.frame D λk b=>b};rintro⟨⟩ G0 b4 ah;(conv=>whnf);refine AD.mk [8] (λk:Nat=>[B_ k]) (λk G=>1<=k/\k<=max m 1/\AhO B H ps S N V a ((DL a m k).getD .eps) (.func (.func g1) #[] l) G) (λk _=>max m 1-k) ?_ ?_;{(conv=>whnf);exact⟨1,rfl,I_ _,zO,ah⟩};rintro k G b5 ⟨W,b6,⟨B1,f1,q,ag,h,gv,M⟩⟩;obtain⟨F,I,rfl⟩:=M.fn;refine Av.m2 (λhz=>?_) (λhz=>?_);{(conv=>whnf);(try refine AC.run ?_);refine K_ (cs:=Ac ((DL a m k).getD .eps) (.func (.func F) #[] I)) (A9 (h.blk _ (W_ ps _ 2))) zA (K_ (cs:=Ac a (.func (.func g1) #[] l)) (A9 (h.blk _ (ES ps _))) zA (An.mk (Hx .cat h M gv) ?_));rintro _ G1 ⟨B2,f2,rfl,P,a2,J,R⟩;obtain⟨g2,g,rfl⟩:=R.fn;refine Bd (cs:=Ac (opR .cat ((DL a m k).getD .eps) a) (.func (.func g2) #[] g)) J _ rfl (W_ ps _ 2) (by simp[Ac]) rfl λG3 j u X=>?_;unfold V6 at j;rw[zB]at j;have e:As (Ac ((DL a m k).getD .eps) (.func (.func F) #[] I)) 0 (Ac (opR .cat ((DL a m k).getD .eps) a) (.func (.func g2) #[] g))=Ac (opR .cat ((DL a m k).getD .eps) a) (.func (.func g2) #[] g):=CA rfl;rw[e]at j;(conv=>whnf);rw[S_ k zO];have K:A_ (F_ H) H G3:=(ag.trans (a2.mono λk b=>Ak ag b)).trans (u.mono λk b=>by have:k<H.size:=b;omega);refine⟨rfl,k+1,rfl,⟨zO,zO,⟨B2,.func (.func g2) #[] g,λk b=>P k (q k b),K,?_,Q.frame (K.mono λk b=>Y.up b) λk b=>P k (q k b),?_⟩⟩,zO⟩;{rw[Jo _ _ _ W,H_ zO];exact j.rebase};rw[Jo _ _ _ W,H_ zO];exact R.frame j.old λk b=>b};obtain rfl:k=max m 1:=zO;by_cases hn:n<0;{have Z:zT (n<0)=zW:=a_ hn;have b7:max m 1=m:=zO;rw[b7]at M h;(conv=>whnf);(try refine AC.run ?_);(conv=>whnf);rw[Z];refine Ap.heldZ (F_ G) [4] (sq [0,1] (.f 2 (.f 3 (.f 4 .e)))) rfl zX (K_ (cs:=Ac ((DL a m m).getD .eps) (.func (.func F) #[] I)) (A9 (h.blk _ (W_ ps _ 2))) ((h.in_ _ (W_ ps _ 2) (k:=V) rfl).2) (K_ (cs:=Ac a (.func (.func g1) #[] l)) (A9 (h.blk _ (ES ps _))) ((h.in_ _ (ES ps _) (k:=S) rfl).2) (An.mk (RH h gv) ?_)));rintro _ G1 ⟨B2,f2,rfl,P,a2,J,gs⟩;refine⟨a2,?_⟩;have w:A_ B1 G G1:=a2.mono λk b=>h.up b;refine An.mk (Hx .cat J (M.frame w P) gs) ?_;rintro _ G2 ⟨B3,f3,rfl,s3,a3,j,R⟩;have L:=a2.trans (a3.mono λk b=>Ak a2 b);refine⟨L,?_⟩;obtain⟨g2,g,rfl⟩:=R.fn;refine Bd (cs:=Ac (opR .cat ((DL a m m).getD .eps) (.star a)) (.func (.func g2) #[] g)) j _ rfl (W_ ps _ 1) (by simp[Ac,Ar]) rfl λG3 c u X=>?_;unfold V6 at c;rw[zB,CA rfl]at c;have t:L_ G3 N 186 (Ac (opR .cat ((DL a m m).getD .eps) (.star a)) (.func (.func g2) #[] g)):=c.blk _ (W_ ps _ 1);refine lN (cs:=Ac (opR .cat ((DL a m m).getD .eps) (.star a)) (.func (.func g2) #[] g)) (A9 t) ?_;have e:FP a m n=opR .cat ((DL a m m).getD .eps) (.star a):=by{unfold FP;rw[H_ hn,G_ zO]<;>rfl};rw[e];exact⟨B3,_,rfl,λk b=>s3 k (P k (q k b)),(ag.trans (L.mono λk b=>Ak ag b)).trans (u.mono λk b=>by have:k<H.size:=b;omega),c.lft.rebase,R.frame c.old λk b=>b⟩};have Z:zT (n<0)=zU:=b_ hn;obtain⟨nn,rfl⟩:=uF (zO:0<=n);(conv=>whnf);(try refine AC.run ?_);(conv=>whnf);refine AD.mk [8] (λk:Nat=>[B_ k]) (λk G=>max m 1<=k/\k<=nn/\AhO B H ps S N V a ((DL a m k).getD .eps) (.func (.func g1) #[] l) G) (λk _=>nn-k) ?_ ?_;{(conv=>whnf);exact⟨max m 1,rfl,I_ _,zO,⟨B1,.func (.func F) #[] I,q,ag,h,gv,M⟩⟩};clear q ag h gv M B1;rintro k G b8 ⟨W,b6,⟨B1,f1,q,ag,h,gv,M⟩⟩;obtain⟨F,I,rfl⟩:=M.fn;refine Av.m2 (λhz=>?_) (λhz=>?_);{(conv=>whnf);(try refine AC.run ?_);refine Ap.heldZ (F_ G) [4] (sq [0,1] (.f 2 (.f 3 (.f 4 .e)))) rfl zX (K_ (cs:=Ac ((DL a m k).getD .eps) (.func (.func F) #[] I)) (A9 (h.blk _ (W_ ps _ 2))) ((h.in_ _ (W_ ps _ 2) (k:=V) rfl).2) (K_ (cs:=Ac a (.func (.func g1) #[] l)) (A9 (h.blk _ (ES ps _))) ((h.in_ _ (ES ps _) (k:=S) rfl).2) (An.mk (Rk h gv) ?_)));rintro _ G1 ⟨B2,f2,rfl,P,a2,J,gs⟩;refine⟨a2,?_⟩;have w:A_ B1 G G1:=a2.mono λk b=>h.up b;refine An.mk (Hx .cat J (M.frame w P) gs) ?_;rintro _ G2 ⟨B3,f3,rfl,s3,a3,j,R⟩;have L:=a2.trans (a3.mono λk b=>Ak a2 b);refine⟨L,?_⟩;obtain⟨g2,g,rfl⟩:=R.fn;refine Bd (cs:=Ac (opR .cat ((DL a m k).getD .eps) (CL a)) (.func (.func g2) #[] g)) j _ rfl (W_ ps _ 2) (by simp[Ac]) rfl λG3 c u X=>?_;unfold V6 at c;rw[zB]at c;have e:As (Ac ((DL a m k).getD .eps) (.func (.func F) #[] I)) 0 (Ac (opR .cat ((DL a m k).getD .eps) (CL a)) (.func (.func g2) #[] g))=Ac (opR .cat ((DL a m k).getD .eps) (CL a)) (.func (.func g2) #[] g):=CA rfl;rw[e]at c;(conv=>whnf);rw[S_ k zO];have K:A_ (F_ H) H G3:=(ag.trans (L.mono λk b=>Ak ag b)).trans (u.mono λk b=>by have:k<H.size:=b;omega);refine⟨rfl,k+1,rfl,⟨zO,zO,⟨B3,.func (.func g2) #[] g,λk b=>s3 k (P k (q k b)),K,?_,Q.frame (K.mono λk b=>Y.up b) λk b=>s3 k (P k (q k b)),?_⟩⟩,zO⟩;{rw[Jo _ _ _ zO,G_ zO];exact c.rebase};rw[Jo _ _ _ zO,G_ zO];exact R.frame c.old λk b=>b};obtain rfl:k=nn:=zO;refine K_ (cs:=Ac ((DL a m k).getD .eps) (.func (.func F) #[] I)) (A9 (h.blk _ (W_ ps _ 2))) zA (Bd (cs:=Ac ((DL a m k).getD .eps) (.func (.func F) #[] I)) h _ rfl (W_ ps _ 1) (by simp[Ac,Ar]) rfl λG3 c u X=>?_);unfold V6 at c;rw[zB,CA rfl]at c;have t:L_ G3 N 186 (Ac ((DL a m k).getD .eps) (.func (.func F) #[] I)):=c.blk _ (W_ ps _ 1);refine lN (cs:=Ac ((DL a m k).getD .eps) (.func (.func F) #[] I)) (A9 t) ?_;have e:FP a m (k:Int)=(DL a m k).getD .eps:=by{unfold FP;rw[G_ zO,G_ zO,zG]};rw[e];exact⟨B1,_,rfl,q,ag.trans (u.mono λk b=>by have:k<H.size:=b;omega),c.lft.rebase,M.frame c.old λk b=>b⟩)
abbrev oN(t:ByteArray)(i:Nat)(ov:v_):List v_:=[.string t,B_ i,ov]
abbrev pSc(s:Nat)(t:ByteArray)(i:Nat)(ov:v_):Pc:=pB 183 s (oN t i ov)
def E8{s i:Nat}{b:v_}(a:L_ H s 183 (oN t i b)):AT prog 78 #[J_ s] H (.bool (zT (t.size<=i))):=by refine Am.of_vc func78 rfl (call78 _) (Ap.lex rfl zX (E_ ?_));refine C_ (a.cellE rfl) zA (E_ ?_);refine lT (a.cellE rfl) ?_;(conv=>whnf);refine⟨?_,A_.refl _ _⟩;congr 1;rw[decide_eq_decide];omega
def Do{s i:Nat}{c:v_}(a:L_ H s 183 (oN t i c))(d:i<t.size):AT prog 115 #[J_ s] H (.int .u8 (bt t i:Int)):=by refine Am.of_vc func115 rfl (call115 _) (Ap.lex rfl zX (E_ ?_));refine C_ (a.cellE rfl) zA (E_ ?_);refine lT (a.cellE rfl) ?_;have⟨b,e,f,h⟩:=CY d;have g:zT ((i:Int)<(t.size:Int))=zW:=Y';(conv=>whnf);rw[g];refine Ap.lex rfl zX (E_ ?_);refine C_ (a.cellE rfl) zA (E_ ?_);refine C_ (a.cellE rfl) zA (En Ek rfl e ?_);(conv=>whnf);refine⟨?_,A_.refl _ _⟩;rw[f]
def CC{s:Nat}:Aw prog 79 #[J_ s,B_ c,B_ e] H (λ_ _=>False) (λx H'=>x=Bx c e/\H'=H):=by refine Aw.of_vc func79 rfl (call79 _) (Ad underlying24 rfl _ rfl [B_ c,B_ e,.string ⟨#[]⟩] rfl ?_);(conv=>whnf);exact⟨rfl,rfl⟩
def RC{s i:Nat}{q:v_}(T:t.size<=1152921504606846976)(U:i<=t.size)(N:D_ B H H ps)(A:ps[k]?=zY (pSc s t i q)):
  Aw prog 214 #[J_ s] H (λv H'=>JY t i=zW/\v= .int .i64 (((Eb t 3 i 0).1:Nat):Int)/\D_ B H H' (ps.set k (pSc s t (Eb t 3 i 0).2 q)))
   (λx H'=>JY t i=zU/\x=Bx 20 i/\A_ B H H'):=by
 refine Aw.of_vc func214 rfl (call214 _) (A7.of (Ap.lex rfl zX (E_ ?_)));refine lT ((N.blk k A).cellE rfl) ?_;(conv=>whnf);refine CU.mk [3] (λx:Nat×Nat=>match x with | (_,v)=>[B_ v]) (λx G=>match x with | (n,v)=>n<=3/\v<10^n/\Eb t 3 i 0=Eb t (3-n) (i+n) v/\(n=0\/JY t i=zW)/\D_ B H G (ps.set k (pSc s t (i+n) q))) (λx _=>match x with | (n,_)=>3-n) ?_ ?_
 ·(conv=>whnf);exact⟨(0,0),rfl,zO,zQ,rfl,.inl rfl,by rw[Nat.add_zero,C6 A];exact N⟩
 ·rintro⟨n,v⟩ G O ⟨C,D,P,hd,r⟩;have a:(ps.set k (pSc s t (i+n) q))[k]?=zY (pSc s t (i+n) q):=Jq A;have out:(n=3\/JY t (i+n)=zU)->Eb t 3 i 0=(v,i+n):=λh=>by
   rw[P];rcases h with rfl | h
   ·rfl
   ·cases z:3-n with
    | zero=>rfl
    | succ m=>unfold Eb;rw[h];rfl
  refine Ab.of (Af (E8 (r.blk k a)) λG1 E=>?_);have st1:=r.call E;by_cases p:i+n<t.size
  ·obtain⟨V,-,-,R⟩:=CY p;rw[b_ (show¬t.size<=i+n by omega)];refine E_ ?_;refine lT ((st1.blk k a).cellE rfl) ?_;(conv=>whnf);rw[m_ (x:=(i:Int)+3) zO];by_cases Q:n=3
   ·have F:zT (((i+n:Nat):Int)<(i:Int)+3)=zU:=j_;(conv=>whnf);rw[F];refine Ah.run (E_ ?_);refine lT ((st1.blk k a).cellE rfl) ?_;have j:=out (.inl Q);by_cases b:n=0
    ·have d:(((i+n:Nat):Int)==(i:Int))=zW:=by rw[b];exact beq_self_eq_true _
     (conv=>whnf);rw[d];refine E_ ?_;refine C_ ((st1.blk k a).cellE rfl) zA (Ab.mk (CC (c:=20) (e:=i+n)) (λ_ _ h=>h.elim) ?_);rintro _ _ ⟨rfl,rfl⟩;subst b
     exact⟨by
       rcases(.inl Q:0=3\/JY t (i+0)=zU)with h | h
       ·omega
       ·exact h,rfl,st1.old⟩
    ·have d:(((i+n:Nat):Int)==(i:Int))=zU:=beq_eq_false_iff_ne.2 zO;(conv=>whnf);rw[d];(conv=>whnf);rw[j];exact⟨hd.resolve_left b,rfl,st1⟩
   ·have F:zT (((i+n:Nat):Int)<(i:Int)+3)=zW:=Y';(conv=>whnf);rw[F];refine Ab.of (Af (Do (st1.blk k a) p) λG2 I=>?_);have f:=st1.call I;by_cases J:48<=bt t (i+n)
    ·have S:zT (((bt t (i+n):Nat):Int)>=48)=zW:=Y';have l:zT (48<=((bt t (i+n):Nat):Int))=zW:=S;(conv=>whnf);rw[l];refine Ab.of (Af (Do (f.blk k a) p) λG3 K=>?_);have g:=f.call K;by_cases z:bt t (i+n)<=57
     ·have L:zT (((bt t (i+n):Nat):Int)<=57)=zW:=Y';have u:JY t (i+n)=zW:=a_ ⟨J,z⟩;(conv=>whnf);rw[L];refine Ab.of (Af (Do (g.blk k a) p) λG4 M=>?_);have w:=g.call M;(conv=>whnf);rw[vU (x:=10*(v:Int)) (by have:v<1000:=yQ D (tS zO C);omega) (by have:v<1000:=yQ D (tS zO C);omega)];(conv=>whnf);rw[w8 (x:=((bt t (i+n):Nat):Int)-48) zO zO];(conv=>whnf);rw[vU (x:=((bt t (i+n):Nat):Int)-48) zO zO];(conv=>whnf);rw[vU (x:=10*(v:Int)+(((bt t (i+n):Nat):Int)-48)) zO (by have:v<1000:=yQ D (tS zO C);omega)];refine E_ ?_;refine lT ((w.blk k a).cellE rfl) ?_;(conv=>whnf);rw[m_ (x:=((i+n:Nat):Int)+1) zO];refine E_ ?_;refine Bc w k a zZ rfl λG5 y=>?_;refine⟨rfl,(n+1,10*v+(bt t (i+n)-48)),?_,⟨zO,?_,?_,.inr ?_,?_⟩,by show 3-(n+1)<3-n;omega⟩
      ·show [Value.int .i64 (10*(v:Int)+(((bt t (i+n):Nat):Int)-48))]=[B_ ((10*v+(bt t (i+n)-48):Nat):Int)]
       congr 2;omega
      ·rw[Nat.pow_succ];omega
      ·rw[P,(zO:3-n=(3-(n+1))+1),Eb,u];rfl
      ·rcases hd with rfl | hd
       ·exact u
       ·exact hd
      ·rw[uU]at y;exact y
     ·have L:zT (((bt t (i+n):Nat):Int)<=57)=zU:=j_;(conv=>whnf);rw[L];refine Ah.run (E_ ?_);refine lT ((g.blk k a).cellE rfl) ?_;have j:=out (.inr (b_ λh=>z h.2));by_cases b:n=0
      ·have d:(((i+n:Nat):Int)==(i:Int))=zW:=by rw[b];exact beq_self_eq_true _
       (conv=>whnf);rw[d];refine E_ ?_;refine C_ ((g.blk k a).cellE rfl) zA (Ab.mk (CC (c:=20) (e:=i+n)) (λ_ _ h=>h.elim) ?_);rintro _ _ ⟨rfl,rfl⟩;subst b
       exact⟨by
         rcases(.inr (b_ λh=>z h.2):0=3\/JY t (i+0)=zU)with h | h
         ·omega
         ·exact h,rfl,g.old⟩
      ·have d:(((i+n:Nat):Int)==(i:Int))=zU:=beq_eq_false_iff_ne.2 zO;(conv=>whnf);rw[d];(conv=>whnf);rw[j];exact⟨hd.resolve_left b,rfl,g⟩
    ·have l:zT (48<=((bt t (i+n):Nat):Int))=zU:=j_;(conv=>whnf);rw[l];refine Ah.run (E_ ?_);refine lT ((f.blk k a).cellE rfl) ?_;have j:=out (.inr (b_ λh=>J h.1));by_cases b:n=0
     ·have d:(((i+n:Nat):Int)==(i:Int))=zW:=by rw[b];exact beq_self_eq_true _
      (conv=>whnf);rw[d];refine E_ ?_;refine C_ ((f.blk k a).cellE rfl) zA (Ab.mk (CC (c:=20) (e:=i+n)) (λ_ _ h=>h.elim) ?_);rintro _ _ ⟨rfl,rfl⟩;subst b
      exact⟨by
        rcases(.inr (b_ λh=>J h.1):0=3\/JY t (i+0)=zU)with h | h
        ·omega
        ·exact h,rfl,f.old⟩
     ·have d:(((i+n:Nat):Int)==(i:Int))=zU:=beq_eq_false_iff_ne.2 zO;(conv=>whnf);rw[d];(conv=>whnf);rw[j];exact⟨hd.resolve_left b,rfl,f⟩
  ·rw[a_ (zO:t.size<=i+n)];refine Ah.run (E_ ?_);refine lT ((st1.blk k a).cellE rfl) ?_;have j:=out (.inr (b_ λh=>by have:=Gq p;omega));by_cases b:n=0
   ·have d:(((i+n:Nat):Int)==(i:Int))=zW:=by rw[b];exact beq_self_eq_true _
    (conv=>whnf);rw[d];refine E_ ?_;refine C_ ((st1.blk k a).cellE rfl) zA (Ab.mk (CC (c:=20) (e:=i+n)) (λ_ _ h=>h.elim) ?_);rintro _ _ ⟨rfl,rfl⟩;subst b
    exact⟨by
      rcases(.inr (b_ λh=>by have:=Gq p;omega):0=3\/JY t (i+0)=zU)with h | h
      ·omega
      ·exact h,rfl,st1.old⟩
   ·have d:(((i+n:Nat):Int)==(i:Int))=zU:=beq_eq_false_iff_ne.2 zO;(conv=>whnf);rw[d];(conv=>whnf);rw[j];exact⟨hd.resolve_left b,rfl,st1⟩
def RE{l:List Pc}{q r:Pc}(a:ps[k]?=zY p):(ps.set k q++l).set k r=ps.set k r++l:=by rw[mD (Jq a),uU]
def FO{l:List Pc}{q:Pc}(a:ps[k]?=zY p):(ps.set k q++l)[k]?=zY q:=mC (Jq a)
structure Y5(B:Nat->Prop)(H:Aa)(ps:List Pc)(k s:Nat)(t:ByteArray)(j:Nat)(ov:v_)(r:ReM)(v:v_)(H':Aa):Prop where
 ex:∃(B':Nat->Prop) (fn:v_),v= .agg (Ac r fn).toArray/\(∀k,B k->B' k)/\A_ B H H'/\D_ B' H' H' (ps.set k (pSc s t j ov))/\Cx B' H' fn r
def Dl{d:Nat}(h:c≠d):((c:Int)==(d:Int))=zU:=beq_eq_false_iff_ne.2 zO
def YM{s i:Nat}{L:v_}{a:ReM}(ht:t.size<=1152921504606846)(hc:bt t i=123)(st:D_ B H H ps)(l:ps[k]?=zY (pSc s t i L))(ga:Cx B H va a):
  Aw prog 196 #[J_ s,.agg (Ac a va).toArray] H (λv H'=>∃m n j,DB t i= .inr (m,n,j)/\Y5 B H ps k s t j L (FP a m n) v H')
   (λx H'=>∃c p:Nat,DB t i= .inl (c,p)/\x=Bx c p/\A_ B H H'):=by
 have hi:i<t.size:=Et zO;obtain⟨g1,J,rfl⟩:=ga.fn;refine Aw.of_vc func196 rfl (call196 _) (Ec st (Ac a (.func (.func g1) #[] J)) rfl λN H1 st1=>(BO st1 (.agg Ar.toArray) Ar CW rfl λO H2 D=>?_));rw[yP]at D;replace D:D_ B H H2 (ps++[pB 186 N (Ac a (.func (.func g1) #[] J)),pB 186 O Ar]):=D;have P:(ps++[pB 186 N (Ac a (.func (.func g1) #[] J)),pB 186 O Ar])[k]?=zY (pSc s t i L):=mC l;refine E_ ?_;refine C_ ((D.blk k P).cellE rfl) zA (E_ ?_);refine lT ((D.blk k P).cellE rfl) ?_;(conv=>whnf);rw[m_ (x:=(i:Int)+1) zO];refine E_ ?_;refine Bc D k P zZ rfl λH3 F=>?_;rw[mD l]at F;replace F:D_ B H H3 (ps.set k (pSc s t (i+1) L)++[pB 186 N (Ac a (.func (.func g1) #[] J)),pB 186 O Ar]):=F;have a3:=F.old;refine Ab.mk (RC zO zO F.rebase (FO l)) ?_ ?_;rotate_left
 {rintro _ H4 ⟨hd,rfl,a4⟩;exact⟨20,i+1,by unfold DB;rw[hd];rfl,rfl,a3.trans a4⟩}
 rintro _ H4 ⟨hd,rfl,z⟩;have a4:=a3.trans z.old;rw[RE l]at z;replace z:=z.rebase;obtain⟨-,-,V⟩:=Gb (t:=t) 3 (i+1) 0;replace V:=V zO;have hm:=Nj (t:=t) 3 (i+1) 0;have f:DB t i=(match uD t (Eb t 3 (i+1) 0).1 (Eb t 3 (i+1) 0).2 with
  | .inl e=>.inl e
  | .inr (n,j)=>NI t i (Eb t 3 (i+1) 0).1 n j):=by unfold DB;rw[H_ hd];cases uD t (Eb t 3 (i+1) 0).1 (Eb t 3 (i+1) 0).2<;>rfl
 generalize Eb t 3 (i+1) 0=q at*;have⟨m,j⟩:=q;replace hm:m<1000:=hm;replace V:j<=t.size:=V;replace f:DB t i=(match uD t m j with
  | .inl e=>.inl e
  | .inr (n,j)=>NI t i m n j):=f
 replace z:D_ B H4 H4 (ps.set k (pSc s t j L)++[pB 186 N (Ac a (.func (.func g1) #[] J)),pB 186 O Ar]):=z;(conv=>whnf);refine Ah.cut [7] (λx:Int×Nat=>match x with | (n,_)=>[B_ n]) (λx G=>match x with | (n,e)=>uD t m j= .inr (n,e)/\e<=t.size/\ -1<=n/\n<1000/\A_ B H G/\D_ B G G (ps.set k (pSc s t e L)++[pB 186 N (Ac a (.func (.func g1) #[] J)),pB 186 O Ar])) ?_ ?_;{refine Ab.of (Af (E8 (z.blk k (FO l))) λH5 Q=>?_);have u:=z.call Q;by_cases W:j<t.size;{rw[b_ (show¬t.size<=j by omega)];refine Ab.of (Af (Do (u.blk k (FO l)) W) λH6 R=>?_);have w:=u.call R;by_cases M:bt t j=44;{have I:(((bt t j:Nat):Int)==44)=zW:=by{rw[M];rfl};have E:uD t m j=(if bt t (j+1)=125 then .inr (-1,j+1)else if JY t (j+1)then .inr (((Eb t 3 (j+1) 0).1:Int),(Eb t 3 (j+1) 0).2)else .inl (20,j+1)):=by{unfold uD;rw[H_ M]};(conv=>whnf);rw[I];refine E_ ?_;refine lT ((w.blk k (FO l)).cellE rfl) ?_;(conv=>whnf);rw[m_ (x:=(j:Int)+1) zO];refine E_ ?_;refine Bc w k (FO l) zZ rfl λH7 b=>?_;rw[RE l]at b;replace b:D_ B H4 H7 (ps.set k (pSc s t (j+1) L)++[pB 186 N (Ac a (.func (.func g1) #[] J)),pB 186 O Ar]):=b;refine Ab.of (Af (E8 (b.blk k (FO l))) λH8 a0=>?_);have y:=b.call a0;by_cases h2:j+1<t.size;{rw[b_ (show¬t.size<=j+1 by omega)];refine Ab.of (Af (Do (y.blk k (FO l)) h2) λH9 S=>?_);have d:=y.call S;by_cases h3:bt t (j+1)=125;{have I:(((bt t (j+1):Nat):Int) != 125)=zU:=by{rw[h3];rfl};(conv=>whnf);rw[I];(conv=>whnf);exact⟨rfl,(-1,j+1),rfl,by rw[E,H_ h3],zO,zO,zO,a4.trans d.old,d.rebase⟩};{have I:(((bt t (j+1):Nat):Int) != 125)=zW:=bne_iff_ne.2 zO;rw[G_ h3]at E;(conv=>whnf);rw[I];refine Ab.mk (RC zO zO d.rebase (FO l)) ?_ ?_;{rintro _ H10 ⟨A,rfl,g⟩;rw[H_ A]at E;rw[RE l]at g;obtain⟨-,-,T⟩:=Gb (t:=t) 3 (j+1) 0;have a9:=Nj (t:=t) 3 (j+1) 0;(conv=>whnf);exact⟨rfl,(_,_),rfl,E,T zO,zO,zO,(a4.trans d.old).trans g.old,g.rebase⟩};{rintro _ H10 ⟨A,rfl,U⟩;rw[G_ (by rw[A];decide)]at E;exact⟨20,j+1,by rw[f,E],rfl,(a4.trans d.old).trans U⟩}}};{rw[a_ (zO:t.size<=j+1)];rw[G_ (by rw[Gq h2];omega)]at E;refine Ab.mk (RC zO zO y.rebase (FO l)) ?_ ?_;{rintro _ H10 ⟨A,rfl,g⟩;rw[H_ A]at E;rw[RE l]at g;obtain⟨-,-,T⟩:=Gb (t:=t) 3 (j+1) 0;have a9:=Nj (t:=t) 3 (j+1) 0;(conv=>whnf);exact⟨rfl,(_,_),rfl,E,T zO,zO,zO,(a4.trans y.old).trans g.old,g.rebase⟩};{rintro _ H10 ⟨A,rfl,U⟩;rw[G_ (by rw[A];decide)]at E;exact⟨20,j+1,by rw[f,E],rfl,(a4.trans y.old).trans U⟩}}};{have I:(((bt t j:Nat):Int)==44)=zU:=Dl M;(conv=>whnf);rw[I];(conv=>whnf);exact⟨rfl,((m:Int),j),rfl,by unfold uD;rw[G_ M],V,zO,zO,a4.trans w.old,w.rebase⟩}};{rw[a_ (zO:t.size<=j)];(conv=>whnf);exact⟨rfl,((m:Int),j),rfl,by unfold uD;rw[G_ (by rw[Gq W];omega)],V,zO,zO,a4.trans u.old,u.rebase⟩}};{rintro⟨n,e⟩ G ad ⟨E,he,X,ae,ag,Y⟩;rw[E]at f;replace f:DB t i=NI t i m n e:=f;refine Ah.run (Ab.of (Af (E8 (Y.blk k (FO l))) λH5 Q=>?_));have u:=Y.call Q;by_cases W:e<t.size;{rw[b_ (show¬t.size<=e by omega)];refine Ab.of (Af (Do (u.blk k (FO l)) W) λH6 R=>?_);have w:=u.call R;by_cases M:bt t e=125;{have I:(((bt t e:Nat):Int) != 125)=zU:=by{rw[M];rfl};have r:NI t i m n e=(if 255<m\/255<n\/(0<=n/\n<(m:Int))then .inl (22,i)else .inr (m,n,e+1)):=by{unfold NI;rw[H_ M]};(conv=>whnf);rw[I];refine E_ ?_;refine lT ((w.blk k (FO l)).cellE rfl) ?_;(conv=>whnf);rw[m_ (x:=(e:Int)+1) zO];refine E_ ?_;refine Bc w k (FO l) zZ rfl λH7 b=>?_;rw[RE l]at b;replace b:D_ B G H7 (ps.set k (pSc s t (e+1) L)++[pB 186 N (Ac a (.func (.func g1) #[] J)),pB 186 O Ar]):=b;refine Ah.run ?_;(conv=>whnf);by_cases w1:255<m;{have e1:zT (255<(m:Int))=zW:=Y';(conv=>whnf);rw[e1];rw[H_ (.inl w1)]at r;refine Ab.mk (CC (c:=22) (e:=i)) (λ_ _ h=>h.elim) ?_;rintro _ _ ⟨rfl,rfl⟩;exact⟨22,i,by rw[f,r],rfl,ag.trans b.old⟩};{have e1:zT (255<(m:Int))=zU:=j_;(conv=>whnf);rw[e1];by_cases K:255<n;{have e2:zT (255<n)=zW:=a_ K;(conv=>whnf);rw[e2];rw[H_ (.inr (.inl K))]at r;refine Ab.mk (CC (c:=22) (e:=i)) (λ_ _ h=>h.elim) ?_;rintro _ _ ⟨rfl,rfl⟩;exact⟨22,i,by rw[f,r],rfl,ag.trans b.old⟩};{have e2:zT (255<n)=zU:=b_ K;(conv=>whnf);rw[e2];by_cases c3:0<=n;{have e3:zT (0<=n)=zW:=a_ c3;(conv=>whnf);rw[e3];by_cases c4:n<(m:Int);{have e4:zT (n<(m:Int))=zW:=a_ c4;(conv=>whnf);rw[e4];rw[H_ (.inr (.inr ⟨c3,c4⟩))]at r;refine Ab.mk (CC (c:=22) (e:=i)) (λ_ _ h=>h.elim) ?_;rintro _ _ ⟨rfl,rfl⟩;exact⟨22,i,by rw[f,r],rfl,ag.trans b.old⟩};{have e4:zT (n<(m:Int))=zU:=b_ c4;(conv=>whnf);rw[e4];rw[G_ zO]at r;refine K_ (cs:=Ac a (.func (.func g1) #[] J)) (A9 (b.blk _ (ES _ _))) zA (Ab.of (An.mk (WY b (ga.frame (ag.trans b.old) λk C=>C) zO X zO zO) ?_));rintro _ H8 ⟨B1,f1,rfl,Z,a8,y,gs⟩;obtain⟨g2,K,rfl⟩:=gs.fn;refine Bd (cs:=Ac (FP a m n) (.func (.func g2) #[] K)) y _ rfl (W_ _ _ 1) (by simp[Ac,Ar]) rfl λH9 d S ab=>?_;rw[zB,CA rfl]at d;refine lN (cs:=Ac (FP a m n) (.func (.func g2) #[] K)) (A9 (d.blk _ (W_ _ _ 1))) ?_;exact⟨m,n,e+1,by rw[f,r],B1,_,rfl,Z,((ag.trans b.old).trans (a8.mono λk C=>b.up C)).trans λk C=>d.old k (Z k C),d.lft.rebase,gs.frame d.old λk C=>C⟩}};{have e3:zT (0<=n)=zU:=b_ c3;(conv=>whnf);rw[e3];rw[G_ zO]at r;refine K_ (cs:=Ac a (.func (.func g1) #[] J)) (A9 (b.blk _ (ES _ _))) zA (Ab.of (An.mk (WY b (ga.frame (ag.trans b.old) λk C=>C) zO X zO zO) ?_));rintro _ H8 ⟨B1,f1,rfl,Z,a8,y,gs⟩;obtain⟨g2,K,rfl⟩:=gs.fn;refine Bd (cs:=Ac (FP a m n) (.func (.func g2) #[] K)) y _ rfl (W_ _ _ 1) (by simp[Ac,Ar]) rfl λH9 d S ab=>?_;rw[zB,CA rfl]at d;refine lN (cs:=Ac (FP a m n) (.func (.func g2) #[] K)) (A9 (d.blk _ (W_ _ _ 1))) ?_;exact⟨m,n,e+1,by rw[f,r],B1,_,rfl,Z,((ag.trans b.old).trans (a8.mono λk C=>b.up C)).trans λk C=>d.old k (Z k C),d.lft.rebase,gs.frame d.old λk C=>C⟩}}}};{have I:(((bt t e:Nat):Int) != 125)=zW:=bne_iff_ne.2 zO;(conv=>whnf);rw[I];refine E_ ?_;refine C_ ((w.blk k (FO l)).cellE rfl) zA (Ab.mk (CC (c:=20) (e:=e)) (λ_ _ h=>h.elim) ?_);rintro _ _ ⟨rfl,rfl⟩;exact⟨20,e,by rw[f];unfold NI;rw[G_ M],rfl,ag.trans w.old⟩}};{rw[a_ (zO:t.size<=e)];refine E_ ?_;refine C_ ((u.blk k (FO l)).cellE rfl) zA (Ab.mk (CC (c:=20) (e:=e)) (λ_ _ h=>h.elim) ?_);rintro _ _ ⟨rfl,rfl⟩;exact⟨20,e,by rw[f];unfold NI;rw[G_ (by rw[Gq W];omega)],rfl,ag.trans u.old⟩}}
def Vm{i m:Nat}{a:ReM}(b:f.factor=zY a)(c:HX (bt t i)=zW)(d:GW t i= .inr (m,n,k)):Ci t ⟨i,f,fs⟩= .inr ⟨k,{f with factor:=zY (FP a m n)},fs⟩:=by unfold Ci;show(if HX (bt t i)then _ else _)=_;rw[H_ c,b];show(match GW t i with | .inl e=>_ | .inr (m,n,k)=>_)=_;rw[d]
def Tp{i:Nat}{e:Nat×Nat}{a:ReM}(b:f.factor=zY a)(c:HX (bt t i)=zW)(d:GW t i= .inl e):Ci t ⟨i,f,fs⟩= .inl e:=by unfold Ci;show(if HX (bt t i)then _ else _)=_;rw[H_ c,b];show(match GW t i with | .inl e=>_ | .inr (m,n,k)=>_)=_;rw[d]
def Tg(h:c=42\/c=43\/c=63\/c=123):HX c=zW:=by rcases h with rfl | rfl | rfl | rfl<;>rfl
def Tf(a:c≠42)(b:c≠43)(d:c≠63)(e:c≠123):HX c=zU:=by unfold HX;rw[beq_eq_false_iff_ne.2 a,beq_eq_false_iff_ne.2 b,beq_eq_false_iff_ne.2 d,beq_eq_false_iff_ne.2 e];rfl
structure RepI(B:Nat->Prop)(H:Aa)(ps:List Pc)(k s q1 q2 i:Nat)(t:ByteArray)(ov:v_)(f:AF)(fs:List AF)(j:Nat)(G:Aa):Prop where
 ex:∃(a:ReM) (B':Nat->Prop) (fn:v_),Cr t ⟨i,f,fs⟩=Cr t ⟨j,{f with factor:=zY a},fs⟩/\i<=j/\j<=t.size/\(∀k,B k->B' k)/\A_ B H G/\
  D_ B' G G (ps.set k (pSc s t j ov)++[pB 186 q1 (Ac a fn),pB 186 q2 Ar])/\Cx B' G fn a
def XX{s i:Nat}{I:v_}{a:ReM}(ht:t.size<=1152921504606846)(hi:i<=t.size)(hf:f.factor=zY a)(st:D_ B H H ps)(E:ps[k]?=zY (pSc s t i I))(ga:Cx B H va a):
  Aw prog 176 #[J_ s,.agg (Ac a va).toArray] H
   (λv H'=>∃j r,i<=j/\j<=t.size/\HX (bt t j)=zU/\Cr t ⟨i,f,fs⟩=Cr t ⟨j,{f with factor:=zY r},fs⟩/\Y5 B H ps k s t j I r v H')
   (λx H'=>∃c p:Nat,Cr t ⟨i,f,fs⟩= .inl (c,(p:Int))/\x=Bx c p/\A_ B H H'):=by obtain⟨g1,c1,rfl⟩:=ga.fn;refine Aw.of_vc func176 rfl (call176 _) (BF (Ac a (.func (.func g1) #[] c1)) rfl ?_);intro J H1 ad ae W X;have st1:=st.box ad ae W X;refine Aq (.agg Ar.toArray) Ar CW rfl ?_;intro R H2 ah ai Y Z;have A:=st1.box ah ai Y Z;rw[yP]at A;replace A:D_ B H H2 (ps++[pB 186 J (Ac a (.func (.func g1) #[] c1)),pB 186 R Ar]):=A;rw[<-C6 E]at A;(conv=>whnf);refine CU.mk [] (λ_:Nat=>[]) (λj G=>RepI B H ps k s J R i t I f fs j G) (λj _=>t.size-j) ?_ ?_;{(conv=>whnf);refine⟨i,rfl,⟨a,B,.func (.func g1) #[] c1,?_,I_ _,hi,λk b=>b,A.old,A.rebase,ga.frame A.old λk b=>b⟩⟩;rw[<-hf]};{rintro j G ap ⟨a',B1,f1,K,a0,hj,u,ag,a8,P⟩;obtain⟨w,y,rfl⟩:=P.fn;clear st st1 A ga W Y X Z;have S:(ps.set k (pSc s t j I)++[pB 186 J (Ac a' (.func (.func w) #[] y)),pB 186 R Ar])[k]?=zY (pSc s t j I):=FO E;refine Ab.of (Af (E8 (a8.blk k S)) λG1 aj=>?_);have L:=a8.call aj;by_cases h0:j<t.size;{rw[b_ (show¬t.size<=j by omega)];refine Ah.run (Ab.of (Af (Do (L.blk k S) h0) λG2 ak=>?_));have g:=L.call ak;have M:∀{m k2:Nat} {n:Int},(bt t j=42\/bt t j=43\/bt t j=63\/bt t j=123)->GW t j= .inr (m,n,k2)->Cr t ⟨i,f,fs⟩=Cr t ⟨k2,{f with factor:=zY (FP a' m n)},fs⟩:=λhc E=>by{rw[K];exact E5 (s:=⟨j,{f with factor:=zY a'},fs⟩) h0 (Vm rfl (Tg hc) E)};by_cases N:bt t j=42;{have d1:(((bt t j:Nat):Int)==42)=zW:=by{rw[N];rfl};(conv=>whnf);rw[d1];refine K_ (cs:=Ac a' (.func (.func w) #[] y)) (A9 (g.blk _ (ES _ _))) zA (Ab.of (An.mk (RH g (P.frame g.old λk b=>b)) ?_));rintro _ G3 ⟨B2,f2,rfl,F,a3,z,gs⟩;have C:A_ B H G3:=(ag.trans λk b=>g.old k (u k b)).trans (a3.mono λk b=>g.up (u k b));obtain⟨g2,l,rfl⟩:=gs.fn;refine Bd (cs:=Ac (.star a') (.func (.func g2) #[] l)) z _ rfl (ES _ _) (by simp[Ac]) rfl λG4 d ja js=>?_;rw[SI]at d;have T:As (Ac a' (.func (.func w) #[] y)) 0 (Ac (.star a') (.func (.func g2) #[] l))=Ac (.star a') (.func (.func g2) #[] l):=CA rfl;replace d:D_ B2 G3 G4 (ps.set k (pSc s t j I)++[pB 186 J (As (Ac a' (.func (.func w) #[] y)) 0 (Ac (.star a') (.func (.func g2) #[] l))),pB 186 R Ar]):=d;rw[T]at d;refine E_ ?_;refine lT ((d.blk k (FO E)).cellE rfl) ?_;(conv=>whnf);rw[m_ (x:=(j:Int)+1) zO];refine E_ ?_;refine Bc d k (FO E) zZ rfl λG5 h=>?_;rw[RE E]at h;have D:A_ B G3 G5:=λk b=>h.old k (F k (u k b));exact⟨rfl,j+1,rfl,⟨.star a',B2,.func (.func g2) #[] l,M (m:=0) (n:= -1) (.inl N) (by unfold GW;rw[H_ N]),zO,zO,λk b=>F k (u k b),C.trans D,h.rebase,gs.frame h.old λk b=>b⟩,zO⟩};{have d1:(((bt t j:Nat):Int)==42)=zU:=Dl N;(conv=>whnf);rw[d1];by_cases Q:bt t j=43;{have d2:(((bt t j:Nat):Int)==43)=zW:=by{rw[Q];rfl};(conv=>whnf);rw[d2];refine A7.of (Ap.heldZ (F_ G2) [4] (sq [0,1] (.f 2 (.f 3 (.f 4 .e)))) rfl zX (K_ (cs:=Ac a' (.func (.func w) #[] y)) (A9 (g.blk _ (ES _ _))) ((g.in_ _ (ES _ _) (k:=J) rfl).2) (K_ (cs:=Ac a' (.func (.func w) #[] y)) (A9 (g.blk _ (ES _ _))) ((g.in_ _ (ES _ _) (k:=J) rfl).2) (An.mk (RH g (P.frame g.old λk b=>b)) ?_))));rintro _ G6 ⟨B6,f6,rfl,s6,a6,am,ao⟩;refine⟨a6,?_⟩;refine An.mk (Hx .cat am ((P.frame g.old λk b=>b).frame (a6.mono λk b=>g.up b) s6) ao) ?_;rintro _ G3 ⟨B7,f7,rfl,s7,a7,z,gs⟩;have a9:=a6.trans (a7.mono λk b=>Ak a6 b);refine⟨a9,?_⟩;have C:A_ B H G3:=(ag.trans λk b=>g.old k (u k b)).trans (a9.mono λk b=>g.up (u k b));obtain⟨B2,ab⟩:∃B2,B2=B7:=⟨_,rfl⟩;rw[<-ab]at z gs;have F:∀k,B1 k->B2 k:=λk b=>by{rw[ab];exact s7 k (s6 k b)};obtain⟨g2,l,rfl⟩:=gs.fn;refine Bd (cs:=Ac (opR .cat a' (.star a')) (.func (.func g2) #[] l)) z _ rfl (ES _ _) (by simp[Ac]) rfl λG4 d ja js=>?_;rw[SI]at d;have T:As (Ac a' (.func (.func w) #[] y)) 0 (Ac (opR .cat a' (.star a')) (.func (.func g2) #[] l))=Ac (opR .cat a' (.star a')) (.func (.func g2) #[] l):=CA rfl;replace d:D_ B2 G3 G4 (ps.set k (pSc s t j I)++[pB 186 J (As (Ac a' (.func (.func w) #[] y)) 0 (Ac (opR .cat a' (.star a')) (.func (.func g2) #[] l))),pB 186 R Ar]):=d;rw[T]at d;refine E_ ?_;refine lT ((d.blk k (FO E)).cellE rfl) ?_;(conv=>whnf);rw[m_ (x:=(j:Int)+1) zO];refine E_ ?_;refine Bc d k (FO E) zZ rfl λG5 h=>?_;rw[RE E]at h;have D:A_ B G3 G5:=λk b=>h.old k (F k (u k b));exact⟨rfl,j+1,rfl,⟨opR .cat a' (.star a'),B2,.func (.func g2) #[] l,M (m:=1) (n:= -1) (.inr (.inl Q)) (by unfold GW;rw[G_ N,H_ Q]),zO,zO,λk b=>F k (u k b),C.trans D,h.rebase,gs.frame h.old λk b=>b⟩,zO⟩};{have d2:(((bt t j:Nat):Int)==43)=zU:=Dl Q;(conv=>whnf);rw[d2];by_cases U:bt t j=63;{have d3:(((bt t j:Nat):Int)==63)=zW:=by{rw[U];rfl};(conv=>whnf);rw[d3];refine K_ (cs:=Ac a' (.func (.func w) #[] y)) (A9 (g.blk _ (ES _ _))) zA (Ab.of (An.mk (Rk g (P.frame g.old λk b=>b)) ?_));rintro _ G3 ⟨B2,f2,rfl,F,a3,z,gs⟩;have C:A_ B H G3:=(ag.trans λk b=>g.old k (u k b)).trans (a3.mono λk b=>g.up (u k b));obtain⟨g2,l,rfl⟩:=gs.fn;refine Bd (cs:=Ac (CL a') (.func (.func g2) #[] l)) z _ rfl (ES _ _) (by simp[Ac]) rfl λG4 d ja js=>?_;rw[SI]at d;have T:As (Ac a' (.func (.func w) #[] y)) 0 (Ac (CL a') (.func (.func g2) #[] l))=Ac (CL a') (.func (.func g2) #[] l):=CA rfl;replace d:D_ B2 G3 G4 (ps.set k (pSc s t j I)++[pB 186 J (As (Ac a' (.func (.func w) #[] y)) 0 (Ac (CL a') (.func (.func g2) #[] l))),pB 186 R Ar]):=d;rw[T]at d;refine E_ ?_;refine lT ((d.blk k (FO E)).cellE rfl) ?_;(conv=>whnf);rw[m_ (x:=(j:Int)+1) zO];refine E_ ?_;refine Bc d k (FO E) zZ rfl λG5 h=>?_;rw[RE E]at h;have D:A_ B G3 G5:=λk b=>h.old k (F k (u k b));exact⟨rfl,j+1,rfl,⟨CL a',B2,.func (.func g2) #[] l,M (m:=0) (n:=1) (.inr (.inr (.inl U))) (by unfold GW;rw[G_ N,G_ Q,H_ U]),zO,zO,λk b=>F k (u k b),C.trans D,h.rebase,gs.frame h.old λk b=>b⟩,zO⟩};{have d3:(((bt t j:Nat):Int)==63)=zU:=Dl U;(conv=>whnf);rw[d3];by_cases V:bt t j=123;{have d4:(((bt t j:Nat):Int)==123)=zW:=by{rw[V];rfl};(conv=>whnf);rw[d4];refine K_ (cs:=Ac a' (.func (.func w) #[] y)) (A9 (g.blk _ (ES _ _))) zA (Ab.mk (YM ht V g.rebase S (P.frame g.old λk b=>b)) ?_ ?_);{rintro _ G3 ⟨m,n,j2,O,⟨B2,f2,rfl,F,a3,z,gs⟩⟩;have aq:=N9 O;rw[RE E]at z;obtain⟨g2,l,rfl⟩:=gs.fn;refine Bd (cs:=Ac (FP a' m n) (.func (.func g2) #[] l)) z _ rfl (ES _ _) (by simp[Ac]) rfl λG4 d ja js=>?_;rw[SI]at d;have T:As (Ac a' (.func (.func w) #[] y)) 0 (Ac (FP a' m n) (.func (.func g2) #[] l))=Ac (FP a' m n) (.func (.func g2) #[] l):=CA rfl;replace d:D_ B2 G3 G4 (ps.set k (pSc s t j2 I)++[pB 186 J (As (Ac a' (.func (.func w) #[] y)) 0 (Ac (FP a' m n) (.func (.func g2) #[] l))),pB 186 R Ar]):=d;rw[T]at d;(conv=>whnf);have C:A_ B H G3:=(ag.trans λk b=>g.old k (u k b)).trans (a3.mono λk b=>u k b);have D:A_ B G3 G4:=λk b=>d.old k (F k (u k b));exact⟨rfl,j2,rfl,⟨FP a' m n,B2,.func (.func g2) #[] l,M (m:=m) (n:=n) (.inr (.inr (.inr V))) (by unfold GW;rw[G_ N,G_ Q,G_ U];exact O),zO,zO,λk b=>F k (u k b),C.trans D,d.rebase,gs.frame d.old λk b=>b⟩,zO⟩};{rintro _ G3 ⟨c,p,O,rfl,a3⟩;refine⟨c,p,?_,rfl,(ag.trans λk b=>g.old k (u k b)).trans (a3.mono λk b=>u k b)⟩;rw[K];exact EN (s:=⟨j,{f with factor:=zY a'},fs⟩) h0 (Tp rfl (Tg (.inr (.inr (.inr V)))) (by unfold GW;rw[G_ N,G_ Q,G_ U];exact O))}};{have d4:(((bt t j:Nat):Int)==123)=zU:=Dl V;(conv=>whnf);rw[d4];refine K_ (cs:=Ac a' (.func (.func w) #[] y)) (A9 (g.blk _ (ES _ _))) zA (Bd (cs:=Ac a' (.func (.func w) #[] y)) g _ rfl (W_ _ _ 1) (by simp[Ac,Ar]) rfl λG9 q ja js=>?_);rw[zB,CA rfl]at q;refine lN (cs:=Ac a' (.func (.func w) #[] y)) (A9 (q.blk _ (W_ _ _ 1))) ?_;exact⟨j,a',a0,hj,Tf N Q U V,K,B1,_,rfl,u,ag.trans λk b=>q.old k (u k b),q.lft.rebase,P.frame q.old λk b=>b⟩}}}}};{rw[a_ (zO:t.size<=j)];refine K_ (cs:=Ac a' (.func (.func w) #[] y)) (A9 (L.blk _ (ES _ _))) zA (Bd (cs:=Ac a' (.func (.func w) #[] y)) L _ rfl (W_ _ _ 1) (by simp[Ac,Ar]) rfl λG9 q ja js=>?_);rw[zB,CA rfl]at q;refine lN (cs:=Ac a' (.func (.func w) #[] y)) (A9 (q.blk _ (W_ _ _ 1))) ?_;exact⟨j,a',a0,hj,by rw[Gq h0];rfl,K,B1,_,rfl,u,ag.trans λk b=>q.old k (u k b),q.lft.rebase,P.frame q.old λk b=>b⟩}}
def GT(ps:List Pc)(k r:Nat)(t:ByteArray)(q2 q3 i:Nat)(x:BitVec 256):List Pc:=ps.set k (yC r t i)++[pB 65 q2 (Ag 0),pB 65 q3 (Ag x)]
def E4{r a b i:Nat}(c:ps[k]?=zY p):(GT ps k r t a b i x)[k]?=zY (yC r t i):=mC (tZ c)
def EJ{r a b i j:Nat}(c:ps[k]?=zY p):(GT ps k r t a b i x).set k (yC r t j)=GT ps k r t a b j x:=by unfold GT;rw[mD (tZ c),uU]
def I4{r b a i:Nat}:(GT ps k r t b a i x)[(ps.set k (yC r t i)).length+1]?=zY (pB 65 a (Ag x)):=W_ _ _ 1
def Rn{r a b i:Nat}:(GT ps k r t a b i x)[(ps.set k (yC r t i)).length+0]?=zY (pB 65 a (Ag 0)):=W_ _ _ 0
def E0{b:Nat}(h:L_ H b 65 (Ag x)):AO H b 0 (Ag x):=h.cells (λj v a=>by rw[N_];exact a)
structure MemI(B:Nat->Prop)(H0:Aa)(ps:List Pc)(k r:Nat)(t:ByteArray)(q2 q3:Nat)(M:Sum Nat (BitVec 256×Nat))(y:Nat×Nat×BitVec 256)(G:Aa):Prop where
 le:y.1<=t.size
 fuel:t.size<y.2.1+y.1
 eq:Ie t y.2.1 y.1 y.2.2=M
 st:D_ B H0 G (GT ps k r t q2 q3 y.1 y.2.2)
def Vs{r i:Nat}(hE:DY H0)(V:B 0)(ht:t.size<=1152921504606846976)(st:D_ B H0 H ps)(p:ps[k]?=zY (yC r t i))(hi:i<=t.size):
  Aw prog 228 #[J_ r] H (λv H'=>∃(x:BitVec 256) (j:Nat),Md t i= .inr (x,j)/\v=AX x/\D_ B H0 H' (ps.set k (yC r t j)))
   (λx H'=>∃e j:Nat,Md t i= .inl e/\x=Bx 10 e/\D_ B H0 H' (ps.set k (yC r t j))):=by
 refine Aw.of_vc func228 rfl (call228 _) (Aq (AX 0) (Ag 0) rfl rfl ?_);intro E H2 ad ae a8 ah;have ai:=st.box ad ae a8 ah;refine Aq (AX 0) (Ag 0) rfl rfl ?_;intro F H3 aj ak a9 am;have I:=ai.box aj ak a9 am;rw[yP]at I;replace I:D_ B H0 H3 (GT ps k r t E F i 0#256):=by{unfold GT;rw[jJ p];exact I};refine Ab.of (Af (LF (I.blk k (E4 p))) λH4 ao=>?_);have O:=I.call ao;obtain⟨P,J⟩:∃P:Bool,P=zT (bt t i=94):=⟨_,rfl⟩;have z:Md t i=match Ie t (t.size+1) (if P then i+1 else i) 0#256 with | .inl e=>.inl e | .inr (x,k)=>.inr (if P then ~~~x else x,k):=by{unfold Md;rw[J];by_cases h:bt t i=94;{simp only[h,if_true,decide_true];cases Ie t (t.size+1) (i+1) 0#256<;>rfl};{simp only[h,if_false,decide_false,Bool.false_eq_true];cases Ie t (t.size+1) i 0#256<;>rfl}}
 obtain⟨i0,K⟩:∃j,j=if P then i+1 else i:=⟨_,rfl⟩;obtain⟨M,hM⟩:∃M,M=Ie t (t.size+1) i0 0#256:=⟨_,rfl⟩;rw[<-K,<-hM]at z;have ap:i0<=t.size:=by{rw[K];cases N:P with|false=>exact hi|true=>rw[N]at J;have b5:=of_decide_eq_true J.symm;exact Et zO};by_cases h0:bt t i=256;rotate_left
 have d1:((bt t i:Int)==(94:Int))=P:=by{rw[J];by_cases h:bt t i=94;{rw[h];rfl};{rw[b_ h];exact beq_eq_false_iff_ne.2 zO}};rw[G_ h0,Y'];(conv=>whnf);rw[d1];(conv=>whnf);refine Ah.cut [] (λ_:Unit=>[]) (λ_ G=>D_ B H0 G (GT ps k r t E F i0 0#256)) ?_ ?_;{refine Av.mk (λN=>?_) (λN=>?_);{(conv=>whnf);refine E_ ?_;refine lT ((O.blk k (E4 p)).cellE rfl) ?_;(conv=>whnf);rw[m_ (x:=(i:Int)+1) zO];refine E_ ?_;refine Bc O k (E4 p) zZ rfl λH5 Q=>?_;replace Q:D_ B H0 H5 ((GT ps k r t E F i 0#256).set k (yC r t (i+1))):=Q;rw[EJ p]at Q;exact⟨rfl,(),rfl,by rw[K,N];exact Q⟩};{(conv=>whnf);exact⟨rfl,(),rfl,by rw[K,N];exact O⟩}};cases N:P;rotate_left 2
 have N:P=zU:=by rw[J,b_];omega
 rw[H_ h0,j_];(conv=>whnf);refine Ah.cut [] (λ_:Unit=>[]) (λ_ G=>D_ B H0 G (GT ps k r t E F i0 0#256)) ?_ ?_;{(conv=>whnf);exact⟨rfl,(),rfl,by rw[K,N];exact O⟩};(all_goals
 rintro⟨⟩ G aq au;(conv=>whnf);refine CU.mk [] (λ_:Nat×Nat×BitVec 256=>[]) (λy G=>MemI B H0 ps k r t E F M y G) (λy _=>t.size-y.1) ?_ ?_;{(conv=>whnf);exact⟨(i0,t.size+1,0#256),rfl,⟨ap,by simp only;omega,hM.symm,au⟩⟩};{
 rintro⟨j,n,x⟩ J0 aw ⟨hj,ay,L,W⟩;simp only at hj ay L W;obtain⟨n,rfl⟩:∃m,n=m+1:=⟨n-1,zO⟩;(conv=>whnf);try refine Ah.run ?_
 refine Ab.of (Af (LF (W.blk k (E4 p))) λJ1 u=>?_);have D:=W.call u;by_cases R:bt t j=256;{rw[H_ R,j_];have h1:EL t ER j= .inl j:=by{unfold EL;rw[R,G_ zQ,H_ (.inr (.inl zQ))]};have d:Ie t (n+1) j x= .inl j:=by{rw[Ie,G_ zO,h1]};(conv=>whnf);(try refine Ah.run ?_);refine Ab.mk (Nk (s:=ER) hE V ht D (E4 p)) ?_ ?_;{rintro _ J2 ⟨lo,A,q,rfl,a⟩;exfalso;rw[h1]at q;cases q};{rintro _ J2 ⟨e,A,q,rfl,a⟩;rw[EJ p]at a;refine⟨e,A,?_,rfl,a.lft⟩;rw[h1]at q;cases q;rw[z,<-L,d]}};{
 have az:=Et R;have⟨b1,b6,a8,a9⟩:=CY az;rw[G_ R,Y'];by_cases S:bt t j=93;{
 have d2:((bt t j:Int)==(93:Int))=zW:=by rw[S];rfl
 have d:M= .inr (x,j+1):=by rw[<-L];unfold Ie;rw[H_ S]
 (conv=>whnf);try refine Ah.run ?_
 (conv=>whnf);rw[d2];refine E_ ?_;refine lT ((D.blk k (E4 p)).cellE rfl) ?_;(conv=>whnf);rw[m_ (x:=(j:Int)+1) zO];refine E_ ?_;refine Bc D k (E4 p) zZ rfl λJ2 a=>?_;replace a:D_ B H0 J2 ((GT ps k r t E F j x).set k (yC r t (j+1))):=a;rw[EJ p]at a;rw[d]at z
 first
 | (skip
    refine K_ (cs:=Ag x) (E0 (a.blk _ I4)) zA (AB (cs:=Ag x) a _ rfl Rn (I_ _) rfl λJ4 b=>?_);have T:L_ J4 E 65 (Ag x):=by
     have:=b.blk _ (tZ Rn);rwa [BC (by rfl)]at this
    unfold GT at b;rw[zB]at b;refine lN (cs:=Ag x) (E0 T) ?_;exact⟨x,j+1,by rw[z,N];rfl,rfl,b.lft⟩)
 | (skip
    refine K_ (cs:=Ag x) (E0 (a.blk _ I4)) zA (Ab.of (Af (SZ x J2) λJ3 w=>?_));have l:=a.call w;refine AB (cs:=Ag (~~~x)) l _ rfl Rn (I_ _) rfl λJ4 b=>?_;have T:L_ J4 E 65 (Ag (~~~x)):=by
     have:=b.blk _ (tZ Rn);rwa [BC (by rfl)]at this
    unfold GT at b;rw[zB]at b;refine lN (cs:=Ag (~~~x)) (E0 T) ?_;exact⟨~~~x,j+1,by rw[z,N];rfl,rfl,b.lft⟩)};{
 have d2:((bt t j:Int)==(93:Int))=zU:=beq_eq_false_iff_ne.2 zO;(conv=>whnf);try refine Ah.run ?_
 (conv=>whnf);rw[d2];refine Ab.mk (Nk (s:=ER) hE V ht D (E4 p)) ?_ ?_;{
 rintro _ J2 ⟨lo,A,q,rfl,a⟩;rw[EJ p]at a;have b7:=Gc q;have d:Ie t (n+1) j x=Pv t lo A x (Ie t n):=by{rw[Ie,G_ S,q]};rw[L]at d;(conv=>whnf);try refine Ah.run ?_
 refine Ab.of (Af (LF (a.blk k (E4 p))) λJ3 w=>?_);have l:=a.call w;by_cases X:bt t A=45;{have b0:A<t.size:=Et zO;rw[G_ zO,Y'];unfold Pv at d;rw[H_ X]at d;have d3:((bt t A:Int)==(45:Int))=zW:=by{rw[X];rfl};(conv=>whnf);(try refine Ah.run ?_);(conv=>whnf);rw[d3];refine E_ ?_;refine lT ((l.blk k (E4 p)).cellE rfl) ?_;(conv=>whnf);rw[m_ (x:=((A:Nat):Int)+1) zO];refine E_ ?_;refine Bc l k (E4 p) zZ rfl λJ4 b=>?_;replace b:D_ B H0 J4 ((GT ps k r t E F A x).set k (yC r t (A+1))):=b;rw[EJ p]at b;refine E_ ?_;refine C_ ((b.blk k (E4 p)).cellE rfl) zA (Ab.mk (Nk (s:=ER) hE V ht b (E4 p)) ?_ ?_);{rintro _ J5 ⟨C,j2,U,rfl,g⟩;rw[EJ p]at g;have b4:=Gc U;rw[U]at d;by_cases ab:C<lo;{have d4:zT ((C:Int)<(lo:Int))=zW:=Y';simp only[H_ ab]at d;(conv=>whnf);rw[d4];refine Ab.mk Dt (λ_ _ h=>h.elim) ?_;rintro _ _ ⟨rfl,rfl⟩;exact⟨A+1,j2,by rw[z,d],rfl,g.lft⟩};{have d4:zT ((C:Int)<(lo:Int))=zU:=j_;simp only[G_ ab]at d;(conv=>whnf);rw[d4];refine A7.held (F_ J5) [5] (sq [0,1,2] (.f 3 (.f 4 (.f 5 .e)))) (AG _ _) rfl zX (K_ (cs:=Ag x) (E0 (g.blk _ I4)) ((g.in_ _ I4 (k:=F) rfl).2) (Ab.of (Af (GF lo C zO zO J5) λJ1 u=>(⟨u,?_⟩))));refine Ab.of (Af (Jv x (AR lo C) J1) λJ2 Y=>?_);have w:=u.trans (Y.mono λk hk=>Ak u hk);refine⟨w,?_⟩;have Z:=g.call w;refine AB (cs:=Ag (x ||| AR lo C)) Z _ rfl I4 (I_ _) rfl λJ4 c=>?_;rw[BC (by rfl)]at c;replace c:D_ B H0 J4 (GT ps k r t E F j2 (x ||| AR lo C)):=by{unfold GT at c ⊢;rw[zB]at c;exact c};(conv=>whnf);exact⟨rfl,(j2,n,x ||| AR lo C),rfl,⟨by simp only;omega,by simp only;omega,d.symm,c⟩,by simp only;omega⟩}};{rintro _ J5 ⟨e,j2,U,rfl,g⟩;rw[EJ p]at g;rw[U]at d;exact⟨e,j2,by rw[z,d],rfl,g.lft⟩}};{
 unfold Pv at d;rw[G_ X]at d;by_cases a0:bt t A=256;rw[H_ a0,j_];(conv=>whnf);try refine Ah.run ?_
 rotate_left
 have T:=CY (Et a0);rw[G_ a0,Y'];have d3:((bt t A:Int)==(45:Int))=zU:=beq_eq_false_iff_ne.2 zO;(conv=>whnf);try refine Ah.run ?_
 (conv=>whnf);rw[d3];(all_goals refine A7.held (F_ J3) [5] (sq [0,1,2] (.f 3 (.f 4 (.f 5 .e)))) (AG _ _) rfl zX (K_ (cs:=Ag x) (E0 (l.blk _ I4)) ((l.in_ _ I4 (k:=F) rfl).2) (Ab.of (Af (GF lo lo zO zO J3) λJ1 u=>(⟨u,?_⟩))));refine Ab.of (Af (Jv x (AR lo lo) J1) λJ2 Y=>?_);have w:=u.trans (Y.mono λk hk=>Ak u hk);refine⟨w,?_⟩;have Z:=l.call w;refine AB (cs:=Ag (x ||| AR lo lo)) Z _ rfl I4 (I_ _) rfl λJ4 c=>?_;rw[BC (by rfl)]at c;replace c:D_ B H0 J4 (GT ps k r t E F A (x ||| AR lo lo)):=by{unfold GT at c ⊢;rw[zB]at c;exact c};(conv=>whnf);exact⟨rfl,(A,n,x ||| AR lo lo),rfl,⟨by simp only;omega,by simp only;omega,d.symm,c⟩,by simp only;omega⟩)}};{rintro _ J2 ⟨e,A,q,rfl,a⟩;rw[EJ p]at a;refine⟨e,A,?_,rfl,a.lft⟩;rw[z,<-L];unfold Ie;rw[G_ S,q]}}}})
def He{P:w_}{t A:x_}{v:v_}{d:TypeDesc}(hd:P.underlying A=zY d)(a:∀b,d≠ .interface b)(k:K v):A8 P (Instr.typeAssert (.iface A v) t A zU) S H K:=by refine A8.mk _ (λw _=>?_) k;unfold Instr.typeAssert;simp only[Sem.run_bind,run_underlying hd,Result.andThen_ok];cases d<;>first | (exact absurd rfl (a _)) | simp
def AlV:ofB 0#256 (zI ⟨#[10]⟩)=AR 10 10:=by decide+kernel
def AiO{r i:Nat}(P:DY H0)(C:B 0)(Q:t.size<=1152921504606846976)(S:D_ B H0 H ps)(R:ps[k]?=zY (yC r t i))(T:i<t.size):
  Aw prog 217 #[J_ r] H (λv H'=>∃(x:BitVec 256) (j:Nat),Ck t i= .inr (x,j)/\v=AX x/\D_ B H0 H' (ps.set k (yC r t j)))
   (λx H'=>∃e j:Nat,Ck t i= .inl e/\x=Bx 10 e/\D_ B H0 H' (ps.set k (yC r t j))):=by
 refine Aw.of_vc func217 rfl (call217 _) ?_;have⟨b,I,J,U⟩:=CY T;refine Aq (AX 0) (Ag 0) rfl rfl ?_;intro n H2 K L D M;have m:=S.box K L D M;have h:(ps++[pB 65 n (Ag 0)])[k]?=zY (yC r t i):=mC R;have f:∀(j:Nat),(ps++[pB 65 n (Ag 0)]).set k (yC r t j)=ps.set k (yC r t j)++[pB 65 n (Ag 0)]:=λj=>mD R;have A:∀(j:Nat),(ps.set k (yC r t j)++[pB 65 n (Ag 0)])[(ps.set k (yC r t j)).length]?=zY (pB 65 n (Ag 0)):=λj=>ES _ _;have E:=m.blk k h;refine A7.of (Ap.lex rfl zX (E_ ?_));refine C_ (E.cellE rfl) zA (E_ ?_);refine C_ (E.cellE rfl) zA (En Ek rfl I ?_);rw[<-J];have fin:∀(x:BitVec 256) (j:Nat) (G:Aa),Ck t i= .inr (x,j)->D_ B H0 G (ps.set k (yC r t j)++[pB 65 n (Ag 0)])->True:=λ_ _ _ _ _=>trivial;by_cases q:bt t i=46;{have F:((bt t i:Int)==(46:Int))=zW:=by{rw[q];rfl};(conv=>whnf);(try refine Ah.run ?_);(conv=>whnf);rw[F];refine E_ ?_;refine lT ((m.blk k h).cellE rfl) ?_;(conv=>whnf);rw[m_ (x:=(i:Int)+1) zO];refine E_ ?_;refine Bc m k h zZ rfl λH4 g=>?_;replace g:D_ B H0 H4 ((ps++[pB 65 n (Ag 0)]).set k (yC r t (i+1))):=g;rw[f]at g;refine Ab.of (Af (oG ⟨#[10]⟩ zQ H4) λH5 N=>?_);have a:=g.call N;rw[AlV];refine Ab.of (Af (SZ (AR 10 10) H5) λH6 w=>?_);have y:=a.call w;refine AB (cs:=Ag (~~~(AR 10 10))) y _ rfl (A _) (I_ _) rfl λH7 d=>?_;have p:L_ H7 n 65 (Ag (~~~(AR 10 10))):=by{have:=d.blk _ (tZ (A _));rwa [BC (by rfl)]at this};rw[SI]at d;refine lN (cs:=Ag (~~~(AR 10 10))) (E0 p) ?_;exact⟨_,i+1,by unfold Ck;rw[H_ q],rfl,d.lft⟩};have F:((bt t i:Int)==(46:Int))=zU:=beq_eq_false_iff_ne.2 zO;by_cases z:bt t i=91;{have O:((bt t i:Int)==(91:Int))=zW:=by{rw[z];rfl};have l:Ck t i=Md t (i+1):=by{unfold Ck;rw[G_ q,H_ z]};(conv=>whnf);(try refine Ah.run ?_);(conv=>whnf);rw[F];(conv=>whnf);rw[O];refine E_ ?_;refine lT ((m.blk k h).cellE rfl) ?_;(conv=>whnf);rw[m_ (x:=(i:Int)+1) zO];refine E_ ?_;refine Bc m k h zZ rfl λH4 g=>?_;replace g:D_ B H0 H4 ((ps++[pB 65 n (Ag 0)]).set k (yC r t (i+1))):=g;refine Ab.mk (Vs P C Q g (tZ h) zO) ?_ ?_;{rintro _ H5 ⟨x,j,u,rfl,a⟩;rw[uU,f]at a;refine AB (cs:=Ag x) a _ rfl (A _) (I_ _) rfl λH7 d=>?_;have p:L_ H7 n 65 (Ag x):=by{have:=d.blk _ (tZ (A _));rwa [BC (by rfl)]at this};rw[SI]at d;refine lN (cs:=Ag x) (E0 p) ?_;exact⟨x,j,by rw[l,u],rfl,d.lft⟩};{rintro _ H5 ⟨e,j,u,rfl,a⟩;rw[uU,f]at a;exact⟨e,j,by rw[l,u],rfl,a.lft⟩}};have O:((bt t i:Int)==(91:Int))=zU:=beq_eq_false_iff_ne.2 zO;have l:Ck t i=match EL t Qf i with | .inl e=>.inl e | .inr (b,k)=>.inr (AR b b,k):=by unfold Ck;rw[G_ q,G_ z]<;>rfl
 (conv=>whnf);try refine Ah.run ?_
 (conv=>whnf);rw[F];(conv=>whnf);rw[O];refine Ab.mk (Nk (s:=Qf) P C Q m h) ?_ ?_;{rintro _ H5 ⟨c,j,u,rfl,a⟩;have V:=Gc u;rw[f]at a;rw[u]at l;refine Ab.of (Af (GF c c zO zO H5) λH6 w=>?_);have y:=a.call w;refine AB (cs:=Ag (AR c c)) y _ rfl (A _) (I_ _) rfl λH7 d=>?_;have p:L_ H7 n 65 (Ag (AR c c)):=by{have:=d.blk _ (tZ (A _));rwa [BC (by rfl)]at this};rw[SI]at d;refine lN (cs:=Ag (AR c c)) (E0 p) ?_;exact⟨_,j,l,rfl,d.lft⟩};{rintro _ H5 ⟨e,j,u,rfl,a⟩;rw[f]at a;rw[u]at l;exact⟨e,j,l,rfl,a.lft⟩}
def Bb(c i:Nat):v_:=.agg #[B_ c,B_ i,.string ⟨#[]⟩]
def Ae(c i:Nat):List v_:=[B_ c,B_ i,.string ⟨#[]⟩]
def WH(q4 q5 q6:Nat)(x:BitVec 256)(j c e:Nat):List Pc:=[pB 65 q4 (Ag x),pB 3 q5 [B_ j],pB 24 q6 (Ae c e)]
def AfG{q4 q5 q6:Nat}{K:Aa->Prop}(k:K H):BX prog 216 #[J_ q4,J_ q5,J_ q6] .returning .returning H K:=by refine BX.mk (R:=λH'=>H'=H) (Ce (R:=λH'=>H'=H) func216 rfl ⟨⟨_,rfl⟩,rfl,rfl,rfl,rfl,rfl⟩ .ret rfl ?_) (λH' h=>by rw[h];exact k);(conv=>whnf);refine⟨rfl,?_⟩;refine L9 underlying20 ?_;(conv=>whnf)
def AfF{q4 q5 q6 j c0 e0:Nat}{K:Aa->Prop}(d:D_ B H0 H (WH q4 q5 q6 x j c0 e0++ps))(k:∀H',D_ B H0 H' (WH q4 q5 q6 0 0 10 e++ps)->K H'):BX prog 216 #[J_ q4,J_ q5,J_ q6] (.panicking (pe (Bx 10 e))) (.panicking [{v:=Bx 10 e,recovered:=zW}]) H K:=by refine BX.mk (R:=λH'=>D_ B H0 H' (WH q4 q5 q6 0 0 10 e++ps)) (Ce (R:=λH'=>D_ B H0 H' (WH q4 q5 q6 0 0 10 e++ps)) func216 rfl ⟨⟨_,rfl⟩,rfl,rfl,rfl,rfl,rfl⟩ (.pan _) rfl ?_) k;(conv=>whnf);refine⟨rfl,?_⟩;refine Mm underlying20 (Ap.held (λ_=>False) 6 (sq [0,1,2] (.f 3 (.f 4 (.f 5 .e)))) rfl zX (Em De (AX 0) rfl (Ag 0) rfl (He underlying24 (λl h=>by cases h) (AB (cs:=Ag 0) d 0 rfl rfl (I_ _) rfl λH1 st1=>(⟨λk b=>b.elim,?_⟩)))));refine Bc st1 1 rfl zZ rfl λH2 c=>(⟨λk b=>b.elim,?_⟩);refine AB (cs:=Ae 10 e) c 2 rfl rfl (I_ _) rfl λH3 a=>(⟨λk b=>b.elim,?_⟩);(conv=>whnf);have g:As (Ag x) 0 (Ag 0)=Ag 0:=BC rfl;have e2:As (Ae c0 e0) 0 (Ae 10 e)=Ae 10 e:=BC rfl;rw[e2]at a;rw[g]at a;exact a
def N1(t:ByteArray)(i:Nat)(v:v_):Prop:=match Ck t i with
 | .inl e=>v= .tuple #[AX 0,B_ 0,Bb 10 e]
 | .inr (x,j)=>v= .tuple #[AX x,B_ j,Bb 0 0]
def EC{i:Nat}(T:DY H)(X:t.size<=1152921504606846976)(Y:i<t.size):
  Am prog 197 #[.string t,B_ i] H λv H'=>A_ (F_ H) H H'/\N1 t i v:=by
 refine Am.of_rest func197 rfl (call197 _) (Bn.seq (Aq (AX 0) (Ag 0) rfl rfl ?_));intro q4 H1 g l m n;have st1:=(St.nil H).box g l m n;refine Aq (.int .i64 0) [B_ 0] rfl rfl ?_;intro q5 H2 p z A B;have C:=st1.box p z A B;refine Aq (Bb 0 0) (Ae 0 0) rfl rfl ?_;intro q6 H3 q D E F;have G:=C.box q D E F;refine Bn.seq ?_;have Z:zT ((i:Int)<0)=zU:=j_;have d2:zT ((i:Int)>=(t.size:Int))=zU:=j_;(conv=>whnf);rw[Z];(conv=>whnf);rw[d2];refine Bn.defer_ ⟨rfl,rfl,rfl,⟨_,rfl⟩,rfl,rfl⟩ (λvs w=>call216 _ w) ?_;(conv=>whnf);refine⟨rfl,?_⟩;refine Ad underlying341 rfl _ rfl (oM t i) rfl (BF (oM t i) rfl ?_);intro r H4 u I J K;have L:=G.box u I J K;have o3:q4<q5:=by have:q5=H1.size:=p;omega
 have o4:q5<q6:=by have:q6=H2.size:=q;omega
 have o5:q6<r:=by have:r=H3.size:=u;omega
 refine Ab.mk (AiO (k:=3) T T.2 X L rfl Y) ?_ ?_;{rintro _ H5 ⟨x,j,M,rfl,c⟩;refine AB (cs:=Ag x) c 0 rfl rfl (I_ _) rfl λH6 a=>?_;have e1:As (Ag 0) 0 (Ag x)=Ag x:=BC rfl;rw[e1]at a;have U:=a.blk 0 rfl;have br:L_ H6 r 341 (oM t j):=a.blk 3 rfl;refine A7.held (λk=>k=q4\/k=r) [] (sq [0,1,2,3,4,5] (.f 6 (.f 7 (.f 8 .e)))) (JQ (R:=λv H5=>A_ (F_ H) H H5/\N1 t i v) zX) rfl zX (K_ (cs:=Ag x) (E0 U) (.inl rfl) (E_ ?_));refine C_ (br.cellE rfl) (.inr rfl) (Ad underlying24 rfl _ rfl (Ae 0 0) rfl (Bd (cs:=Ag x) a 0 rfl rfl (I_ _) rfl λH7 d N a0=>?_));have e2:As (Ag x) 0 (Ag x)=Ag x:=BC rfl;rw[e2]at d;have V:A_ (λk=>k=q4\/k=r) H6 H7:=λk y=>by{rcases y with h | h;{rw[h];exact(d.blk 0 rfl).trans U.symm};{exact N _ (zO:k≠q4)}};refine⟨V,?_⟩;refine M1 d 1 rfl zZ rfl λH8 O P ab=>?_;have W:A_ (λk=>k=q4\/k=r) H6 H8:=V.trans (P.mono λk y=>by rcases y with rfl | rfl<;>omega);refine⟨W,?_⟩;refine Bd (cs:=Ae 0 0) O 2 rfl rfl (I_ _) rfl λH9 b Q ad=>?_;have a9:A_ (λk=>k=q4\/k=r) H6 H9:=W.trans (Q.mono λk y=>by rcases y with rfl | rfl<;>omega);refine⟨a9,?_⟩;(conv=>whnf);refine AfG (K_ (cs:=Ag x) (E0 (b.blk 0 rfl)) zA (C_ ((b.blk 1 rfl).cellE rfl) zA ?_));refine K_ (cs:=Ae 0 0) ((b.blk 2 rfl).cells (λj v S=>by rw[N_];exact S)) zA ?_;refine⟨b.old,?_⟩;unfold N1;rw[M];rfl};{rintro _ H5 ⟨e,j,M,rfl,c⟩;refine AfF (q4:=q4) (q5:=q5) (q6:=q6) (x:=0) (j:=0) (c0:=0) (e0:=0) c λH6 a=>(K_ (cs:=Ag 0) (E0 (a.blk 0 rfl)) zA (C_ ((a.blk 1 rfl).cellE rfl) zA ?_));refine K_ (cs:=Ae 10 e) ((a.blk 2 rfl).cells (λj v S=>by rw[N_];exact S)) zA ?_;refine⟨a.old,?_⟩;unfold N1;rw[M];rfl}
inductive Sc3 where
 | e
 | q (i:Nat) (s:Sc3)
 | f (i:Nat) (s:Sc3)
 | b (i:Nat) (s:Sc3) (j:Nat) (s':Sc3)
 | t (i:Nat) (s:Sc3) (j:Nat) (s':Sc3) (k:Nat) (s'':Sc3)
def rO:List Nat->Sc3->Sc3 | [],s=>s | i::l,s=>.q i (rO l s)
def Sc3.len:Sc3->Nat | .e=>0 | .q _ s=>s.len+1 | .f _ s=>s.len+1 | .b _ s _ _=>s.len+1 | .t _ s _ _ _ _=>s.len+1
def Sc3.even:Sc3->Bool | .e=>zW | .q _ s=>s.even | .f _ s=>s.even | .b _ s _ s'=>s.even&&s'.even&&s.len==s'.len | .t _ s _ s' _ s''=>s.even&&s'.even&&s''.even&&s.len==s'.len&&s.len==s''.len
def Eg(ops:Array Oper):Sc3->Array Bool->Bool | .e,listed=>(Region.ready .any ops listed).isEmpty | .q i s,listed=>(Region.ready .any ops listed).contains i&&Region.free .any ops listed i&&Eg ops s (listed.setIfInBounds i zW)| .f i s,listed=>Region.ready .any ops listed==[i]&&Eg ops s (listed.setIfInBounds i zW)| .b i s j s',listed=>Region.ready .any ops listed==[i,j]&&Eg ops s (listed.setIfInBounds i zW)&&Eg ops s' (listed.setIfInBounds j zW)| .t i s j s' k s'',listed=>Region.ready .any ops listed==[i,j,k]&&Eg ops s (listed.setIfInBounds i zW)&&Eg ops s' (listed.setIfInBounds j zW)&&Eg ops s'' (listed.setIfInBounds k zW)
def held3(P:w_)(S:Nat->Prop)(H0:Aa)(all:List Oper)(s:Sc3):Fr->Aa->(Fr->Aa->Prop)->Prop:=Sc3.rec (motive:=λ_=>Fr->Aa->(Fr->Aa->Prop)->Prop) (λfr H K=>K fr H)
  (λi _ ih fr H K=>match all[i]? with
   | none=>False
   | some o=>TZ all o fr (Vp P S o H λfr' H'=>ih fr' H' K) (TH o H λfr' H'=>ih fr' H' K))
  (λi _ ih fr H K=>M3 P S [] H0 all i fr H λfr' H'=>ih fr' H' K)
  (λi _ j _ ih ih' fr H K=>(M3 P S [] H0 all i fr H λfr' H'=>ih fr' H' K)/\M3 P S [] H0 all j fr H λfr' H'=>ih' fr' H' K)
  (λi _ j _ k _ ih ih' ih'' fr H K=>(M3 P S [] H0 all i fr H λfr' H'=>ih fr' H' K)/\(M3 P S [] H0 all j fr H λfr' H'=>ih' fr' H' K)/\M3 P S [] H0 all k fr H λfr' H'=>ih'' fr' H' K) s
def AdT(P:w_)(S:Nat->Prop)(H0:Aa)(all:List Oper)(i:Nat)(s:Sc3)(fr:Fr)(H:Aa)(K:Fr->Aa->Prop):held3 P S H0 all (.q i s) fr H K=(match all[i]? with | none=>False | some o=>TZ all o fr (Vp P S o H λa H'=>held3 P S H0 all s a H' K) (TH o H λa H'=>held3 P S H0 all s a H' K)):=rfl
def C4{P:w_}{S:Nat->Prop}{w0:y_}{all:List Oper}{Q:Exit->Act->y_->Prop}(hs:Region.noSelect all.toArray=zW)
  (C:∀c a w,¬Q (.panic c) a w):∀(l:Sc3) (d:Array Bool) (fr:Fr) (a:Act) (w:y_) (K:Fr->Aa->Prop),At fr a->Z_ w0 w->yU w0 S w->Zad all.toArray d->
  (∀p a' g,At p a'->Z_ w0 g->K p g.heap->Q .normal a' g)->Eg all.toArray l d=zW->l.even=zW->
  held3 P S w0.heap all l fr w.heap K->IV P all.toArray Q (yU w0 S) [] l.len d a w
 | .e,d,fr,a,w,K,hat,he,_,_,hq,hB,_,h=>⟨by simpa [Eg]using hB,hq fr a w hat he h⟩
 | .q i s,d,fr,a,w,K,hat,he,hc,hsh,hq,hB,hev,h=>by
   simp only[Eg,o_]at hB;obtain⟨⟨D,T⟩,r⟩:=hB;rw[AdT]at h;split at h
   ·exact h.elim
   ·rename_i o U;have E:all.toArray[i]?=zY o:=by simpa using U
    have F:i∈Region.ready .any all.toArray d:=by simpa using D
    rcases M7 hat h with⟨x,h⟩ | ⟨x,h⟩
    ·unfold Vp at h;split at h
     ·have⟨v,V,n⟩:=CJ h;rw[Bk]at n;refine Dv (v:=v) (f:=all.toArray.size) E (Region.noSelect_spec hs) (λc a' g J=>(C _ _ _ J).elim) rfl (λj H=>by cases H) s.len d a w hsh (Region.free_spec E T) F
       (.inl ⟨x,λg L=>?_⟩) hc ?_
      ·rw[hat.evalF];exact V g λk n=>(L.2 k n).trans (hc.2 k n).symm
      ·exact C4 hs C s _ _ _ w K (hat.put o.dst v) he hc (hsh.put F) hq r hev n
     ·exact h.elim
    ·unfold TH at h;rw[Bk]at h;exact Dv (v:=undef) (f:=all.toArray.size) E (Region.noSelect_spec hs) (λc a' g J=>(C _ _ _ J).elim) rfl (λj H=>by cases H) s.len d a w hsh (Region.free_spec E T) F
      (.inr ⟨x,rfl⟩) hc (C4 hs C s _ _ _ w K (hat.put o.dst undef) he hc (hsh.put F) hq r hev h)
 | .f i s,d,fr,a,w,K,hat,he,hc,hsh,hq,hB,hev,h=>by
   simp only[Eg,o_,beq_iff_eq]at hB;have⟨D,r⟩:=hB;refine⟨(λG=>by rw[D]at G;cases G),λj H=>?_⟩;have M:=H;rw[D]at H;obtain rfl:j=i:=by simpa using H
   exact DW (Z:=[]) hat he (λ_=>hc) h λp a' g z A u B=>⟨u,C4 hs C s _ _ _ g K z A (u rfl) (hsh.put M) hq r hev B⟩
 | .b i s j s',d,fr,a,w,K,hat,he,hc,hsh,hq,hB,hev,h=>by
   simp only[Eg,o_,beq_iff_eq]at hB;obtain⟨⟨D,r⟩,I⟩:=hB;simp only[Sc3.even,o_,beq_iff_eq]at hev;obtain⟨⟨N,e2⟩,O⟩:=hev;refine⟨(λG=>by rw[D]at G;cases G),λk n=>?_⟩;have y:=n;rw[D]at n;rcases J'.1 n with rfl | n
   ·exact DW (Z:=[]) hat he (λ_=>hc) h.1 λp a' g z A u B=>⟨u,C4 hs C s _ _ _ g K z A (u rfl) (hsh.put y) hq r N B⟩
   ·obtain rfl:k=j:=by simpa using n
    rw[O];exact DW (Z:=[]) hat he (λ_=>hc) h.2 λp a' g z A u B=>⟨u,C4 hs C s' _ _ _ g K z A (u rfl) (hsh.put y) hq I e2 B⟩
 | .t i s j s' m s'',d,fr,a,w,K,hat,he,hc,hsh,hq,hB,hev,h=>by
   simp only[Eg,o_,beq_iff_eq]at hB;obtain⟨⟨⟨D,r⟩,I⟩,R⟩:=hB;simp only[Sc3.even,o_,beq_iff_eq]at hev;obtain⟨⟨⟨⟨N,e2⟩,O⟩,W⟩,X⟩:=hev;refine⟨(λG=>by rw[D]at G;cases G),λk n=>?_⟩;have y:=n;rw[D]at n;rcases J'.1 n with rfl | n
   ·exact DW (Z:=[]) hat he (λ_=>hc) h.1 λp a' g z A u B=>⟨u,C4 hs C s _ _ _ g K z A (u rfl) (hsh.put y) hq r N B⟩
   ·rcases J'.1 n with rfl | n
    ·rw[W];exact DW (Z:=[]) hat he (λ_=>hc) h.2.1 λp a' g z A u B=>⟨u,C4 hs C s' _ _ _ g K z A (u rfl) (hsh.put y) hq I e2 B⟩
    ·obtain rfl:k=m:=by simpa using n
     rw[X];exact DW (Z:=[]) hat he (λ_=>hc) h.2.2 λp a' g z A u B=>⟨u,C4 hs C s'' _ _ _ g K z A (u rfl) (hsh.put y) hq R O B⟩
def Ap.held3{P:w_}{l:List Oper}{fr:Fr}{K:Fr->Aa->Prop}(S:Nat->Prop)(b:Sc3)(g:P.follows .mixedOrders=zW)(c:(Region.noSelect l.toArray&&(b.len==l.length)&&b.even&&Eg l.toArray b (AqN l.length zU))=zW)(h:YtjbnocjgdmnkoaaGreatDoor.held3 P S H l b fr H K):Ap P l fr H K:=by refine⟨?_⟩;intro id Q a w d k m n;subst k;simp only[o_,beq_iff_eq]at c;refine wp_region_any g (FM (S:=yU w S) (Z:=[]) _ _ _ _ ?_);have e:Zad l.toArray (AqN l.length zU):=λj o _ f=>by{rw[Array.getD_eq_getD_getElem?,Array.getElem?_replicate]at f;split at f<;>simp at f};have:=C4 (P:=P) (S:=S) (w0:=w) (Q:=Q) c.1.1.1 m b (AqN l.length zU) fr a {w with drawn:=w.drawn+1} K d ⟨rfl,rfl,rfl⟩ ⟨⟨rfl,rfl,rfl⟩,A_.refl _ _⟩ e n c.2 c.1.2 h;rw[c.1.1.2]at this;simpa using this
section
variable{α:Type}{T:Ty α}{e:x_}{a:Option Addr}{n cap:Nat}{xs:List α}
def D_.capT(f:D_ B H0 H ps)(i:Nat)(g:ps[i]?=zY (pN T S e a n cap xs)):xs.length<=cap:=by obtain⟨j,⟨k,c⟩,m⟩:=(f.at_ i g).1;rcases c with⟨c,h⟩ | ⟨b,d,l,c,p,q,r,t,u,w⟩;{rw[h];exact V_ _};cases c;omega
def D_.popT{x:α}(f:D_ B H0 H ps)(i:Nat)(g:ps[i]?=zY (pS T e a n cap (xs++[x]))):D_ B H0 H (ps.set i (pS T e a xs.length cap xs)):=by have d:=(f.at_ i g).1;refine f.say i g _ ⟨d.pop,λk b=>b.elim⟩ λk b=>?_;rcases b with⟨o,m,c,b⟩ | b;{injection b with e1 e2 e3;subst e1;exact .inl ⟨o,n,cap,rfl⟩};exact b.elim
end
def L_.ne{b b':Nat}{e:x_}{l a:List v_}(h:L_ H b e l)(c:L_ H b' e' a)(d:e≠e'):b≠b':=by rintro rfl;have f:=AqI.inj (h.symm.trans c);injection f with _ e2 _;exact d e2
section
variable{i:Nat}
def Vl(h:bt t i=40)(a:fs.length<1000):Ci t ⟨i,f,fs⟩= .inr ⟨i+1,JJ i,AU f::fs⟩:=by unfold Ci;simp only[h];rw[G_ zQ,G_ zQ,G_ zQ,G_ zQ,H_ trivial,G_ zO]
def Vk(h:bt t i=40)(a:1000<=fs.length):Ci t ⟨i,f,fs⟩= .inl (23,i):=by unfold Ci;simp only[h];rw[G_ zQ,G_ zQ,G_ zQ,G_ zQ,H_ trivial,H_ a]
def Tl{g:AF}(h:bt t i=41):Ci t ⟨i,f,g::fs⟩= .inr ⟨i+1,{g with factor:=(CV f).alt},fs⟩:=by unfold Ci;simp only[h];rw[G_ zQ,G_ zQ,G_ zQ,H_ trivial]
def R4(h:bt t i=41):Ci t ⟨i,f,[]⟩= .inl (20,i):=by unfold Ci;simp only[h];rw[G_ zQ,G_ zQ,G_ zQ,H_ trivial]
def XS(h:bt t i=124):Ci t ⟨i,f,fs⟩= .inr ⟨i+1,CV f,fs⟩:=by unfold Ci;simp only[h];rw[G_ zQ,H_ trivial]
def Ov(h:bt t i=38\/bt t i=45):Ci t ⟨i,f,fs⟩= .inr ⟨i+1,{CZ f with sign:=bt t i},fs⟩:=by unfold Ci;rcases h with h | h<;>(simp only[h];rw[G_ zQ,G_ zQ,H_ zQ])
def Ge(h:HX (bt t i)=zW)(a:f.factor=zV):Ci t ⟨i,f,fs⟩= .inl (20,i):=by unfold Ci;simp only[a];rw[H_ h]
end
def QT(c:Nat):Prop:=c≠124/\c≠38/\c≠45/\c≠41/\HX c=zU
def XT{i:Nat}(h:QT (bt t i))(a:bt t i≠40)(b:Ck t i= .inr (x,k)):Ci t ⟨i,f,fs⟩= .inr ⟨k,{AU f with factor:=zY (.cls x)},fs⟩:=by unfold Ci;simp only[b];rw[G_ (by rw[h.2.2.2.2];decide),G_ h.1,G_ (by rintro(e | e);exact h.2.1 e;exact h.2.2.1 e),G_ h.2.2.2.1,G_ a]
def Vj{i:Nat}(h:QT (bt t i))(a:bt t i≠40)(b:Ck t i= .inl e):Ci t ⟨i,f,fs⟩= .inl (10,e):=by unfold Ci;simp only[b];rw[G_ (by rw[h.2.2.2.2];decide),G_ h.1,G_ (by rintro(e | e);exact h.2.1 e;exact h.2.2.1 e),G_ h.2.2.2.1,G_ a]
def AdI{i:Nat}(h:L3 t i= .inl e):e<=i+2:=by unfold L3 at h;split at h;{cases h;omega};split at h;{cases h};split at h;{cases h};split at h;{cases h};split at h;{split at h;{cases h;omega};split at h;{cases h;omega};cases h};split at h;{cases h;omega};cases h
def Rz{i:Nat}{u:ByteArray}(h:EL t u i= .inl e):e<=i+3:=by unfold EL at h;split at h;{have:=AdI h;omega};split at h;{cases h;omega};cases h
def Rl{t:ByteArray}:∀{n i e:Nat} {x:BitVec 256},Ie t n i x= .inl e->i<=t.size+2->e<=t.size+6
 | 0,i,e,x,h,hi=>by cases h;omega
 | n+1,i,e,x,h,hi=>by
   unfold Ie at h;split at h
   ·cases h
   ·split at h
    ·rename_i d a;cases h;have:=Rz a;omega
    ·rename_i lo j a;have:=Gc a;unfold Pv at h;split at h
     ·split at h
      ·rename_i e2 b;cases h;have:=Rz b;omega
      ·rename_i c f b;have:=Gc b;split at h
       ·cases h;omega
       ·exact Rl h zO
     ·exact Rl h zO
def O1{i:Nat}(h:Ck t i= .inl e)(c:i<t.size):e<=t.size+6:=by unfold Ck at h;split at h;{cases h};split at h;{unfold Md at h;split at h;{rename_i b a;cases h;exact Rl a (by split<;>omega)};cases h};split at h;{rename_i b a;cases h;have:=Rz a;omega};cases h
abbrev jZ:Ty Int:=Dc .i64
abbrev sP(s:Nat)(t:ByteArray)(i:Nat)(a:Option Addr)(n cap:Nat)(os:List Int)(ps:List Pc):List Pc:=pSc s t i (.slice a n cap)::pS jZ 3 a n cap os::ps
structure Sc(B:Nat->Prop)(H:Aa)(s:Nat)(t:ByteArray)(i:Nat)(os:List Int)(ps:List Pc):Prop where
 ex:∃a n cap,D_ B H H (sP s t i a n cap os ps)
structure SR(B:Nat->Prop)(H:Aa)(s:Nat)(t:ByteArray)(j:Nat)(os:List Int)(ps:List Pc)(r:ReM)(v:v_)(H':Aa):Prop where
 ex:∃(B':Nat->Prop) (fn:v_),v= .agg (Ac r fn).toArray/\(∀k,B k->B' k)/\A_ B H H'/\Sc B' H' s t j os ps/\Cx B' H' fn r
structure SE(B:Nat->Prop)(H:Aa)(t:ByteArray)(st:RdS)(x:v_)(H':Aa):Prop where
 ex:∃c p:Nat,Cr t st= .inl (c,(p:Int))/\x=Bx c p/\A_ B H H'
def SE.from{B':Nat->Prop}{H1 H':Aa}{b a:RdS}{x:v_}(h:SE B' H1 t a x H')(d:Cr t b=Cr t a)(e:A_ B H H1)(hs:∀k,B k->B' k):SE B H t b x H':=by have⟨c,p,f,g,j⟩:=h;exact⟨c,p,d.trans f,g,e.trans λk l=>j k (hs k l)⟩
def Kx(t:ByteArray)(i:Nat):Prop:=∀(B:Nat->Prop) (H:Aa) (s:Nat) (os:List Int) (ps:List Pc) (f:AF) (fs:List AF),DY H->B 0->i<=t.size->os.length=fs.length->fs.length<=1000->
 f.alt=zV->f.meet=zV->f.row=zV->f.factor=zV->Sc B H s t i os ps->
 Aw prog 77 #[J_ s] H
  (λv H'=>∃j f' r,i<=j/\j<=t.size/\(j=t.size\/bt t j=41)/\Cr t ⟨i,f,fs⟩=Cr t ⟨j,f',fs⟩/\(CV f').alt=zY r/\f'.place=f.place/\SR B H s t j os ps r v H')
  (λx H'=>SE B H t ⟨i,f,fs⟩ x H')
def Fe{x:Int}(h:zC .i64 x):(Lit.int .i64 x).wf=zW:=by unfold Lit.wf;simp only[o_,yL];exact h
def Ke(c e:Nat):List Lit:=[.int .i64 (c:Int),.int .i64 (e:Int),.string []]
def Wj(b:c<9223372036854775808)(d:e<9223372036854775808):prog.keyLits 3 24 (Ae c e)=zY (Ke c e):=by have f:prog.cellsOf 24=3:=zX;have g:prog.cellsOf 22=1:=zX;have h:prog.cellsOf 3=1:=zX;have j:prog.cellsOf 9=1:=zX;have k:(0:Nat)<=maxLen:=V_ _;have a:(⟨#[]⟩:ByteArray).size<=maxLen:=V_ _;simp[Program.keyLits,underlying24,underlying22,underlying3,underlying9,f,g,h,j,Ae,Ke,a,Fe (CF b),Fe (CF d)]
def UH{c' e':Nat}:zT (c=c'/\e=e')=zW↔Ke c e=Ke c' e':=by unfold Ke;rw[yL];constructor;{rintro⟨rfl,rfl⟩;rfl};intro h;simp only[List.cons.injEq,Lit.int.injEq,true_and,and_true]at h;exact⟨zO,zO⟩
def Ht{c' e':Nat}(d:c<9223372036854775808)(f:e<9223372036854775808)(a:c'<9223372036854775808)(b:e'<9223372036854775808){x y:z_}(k:K (.bool (!zT (c=c'/\e=e')))):A8 prog (do eqGuard .neq 24 x y (.agg (Ae c e).toArray) (.agg (Ae c' e').toArray);binOp .neq 24 (.agg (Ae c e).toArray) (.agg (Ae c' e').toArray)) S H K:=qS (m:=3) (la:=Ke c e) (lb:=Ke c' e') zX zQ (eqGuardType24) rfl rfl (Wj d f) (Wj a b) UH k
def AhT{s i:Nat}{os:List Int}(hE:DY H)(M:B 0)(ht:t.size<=1048576)(O:i<t.size)(cd:os.length=fs.length)(ce:fs.length<=1000)
  (ap:QT (bt t i)) (IH:∀i',i<i'->Kx t i') (sc:Sc B H s t i os ps):
  Aw prog 177 #[J_ s] H
   (λv H'=>∃j r,i<j/\j<=t.size/\Cr t ⟨i,f,fs⟩=Cr t ⟨j,{AU f with factor:=zY r},fs⟩/\SR B H s t j os ps r v H')
   (λx H'=>SE B H t ⟨i,f,fs⟩ x H'):=by
 have⟨a,n,cap,st⟩:=sc;refine Aw.of_vc func177 rfl (call177 _) (BO st (.agg Ar.toArray) Ar CW rfl λC H1 st1=>(Ab.of (Af (Do (st1.blk 0 rfl) O) λH2 bf=>?_)));have g:=st1.call bf;by_cases P:bt t i=40;{
 have d1:(((bt t i:Nat):Int) != 40)=zU:=by rw[P];rfl
 (conv=>whnf);rw[d1];obtain rfl:n=os.length:=g.len 1 rfl;replace g:D_ B H H2 (sP s t i a os.length cap os ps++[pB 186 C Ar]):=g;refine Ah.run (E_ ?_);refine lT ((g.blk 0 rfl).cellE rfl) ?_;by_cases hd:1000<=fs.length;{have d2:zT (1000<=(os.length:Int))=zW:=Y';(conv=>whnf);rw[d2];refine E_ ?_;refine C_ ((g.blk 0 rfl).cellE rfl) zA (Ab.mk (CC (c:=23) (e:=i)) (λ_ _ h=>h.elim) ?_);rintro _ _ ⟨rfl,rfl⟩;exact⟨23,i,EN O (Vk P hd),rfl,g.old⟩};{
 have d2:zT (1000<=(os.length:Int))=zU:=j_;(conv=>whnf);rw[d2];refine A7.of (Ap.heldZ (λk=>k=s) [13] (sq [0,1,2,3,4,5,6,7,8] (.f 9 (.f 10 (sq [11,12] (.f 13 .e))))) rfl zX (E_ ?_));refine C_ ((g.blk 0 rfl).cellE rfl) rfl (E_ ?_);refine C_ ((g.blk 0 rfl).cellE rfl) rfl (Az AQ [B_ i] rfl rfl zQ zQ ?_);intro z H3 bh cg ad bj;have aq:=g.skip bh bj;refine⟨λk m=>by rw[show k=s from m];exact(aq.blk 0 rfl).trans (g.blk 0 rfl).symm,?_⟩;refine Ip (x:=(i:Int)) aq 1 AQ rfl ad ⟨rfl,CF zO⟩ rfl zO zQ λa4 Q H4 au ch=>?_;refine⟨λk m=>by rw[show k=s from m];exact(au.blk 0 rfl).trans (g.blk 0 rfl).symm,?_⟩;refine E_ ?_;refine Bc au 0 rfl zZ rfl λH5 ae=>?_;replace ae:D_ B H H5 (sP s t i a4 (os.length+1) Q (os++[(i:Int)]) ps++[pB 186 C Ar]):=ae;refine E_ ?_;refine lT ((ae.blk 0 rfl).cellE rfl) ?_;(conv=>whnf);rw[m_ (x:=(i:Int)+1) zO];refine E_ ?_;refine Bc ae 0 rfl zZ rfl λH6 N=>?_;replace N:D_ B H H6 (sP s t (i+1) a4 (os.length+1) Q (os++[(i:Int)]) ps++[pB 186 C Ar]):=N;have aj:Cr t ⟨i,f,fs⟩=Cr t ⟨i+1,JJ i,AU f::fs⟩:=E5 O (Vl P zO);refine Ab.mk (IH (i+1) zO B H6 s (os++[(i:Int)]) (ps++[pB 186 C Ar]) (JJ i) (AU f::fs) (Ka hE M N) M zO (by simp;omega) (by simp;omega) rfl rfl rfl rfl ⟨a4,_,Q,N.rebase⟩) ?_ ?_;rotate_left
 {intro x H7 h;exact h.from aj N.old λk m=>m};rintro _ H7 ⟨j,f',r,ci,hj,aw,ay,bn,bo,⟨B1,f1,rfl,s1,a7,⟨a2,n2,J,ah⟩,gv⟩⟩;obtain⟨g1,c1,rfl⟩:=gv.fn;have bp:n2=os.length+1:=by have:=ah.len 1 rfl;rw[this];simp
 subst bp;replace ah:D_ B1 H7 H7 (sP s t j a2 (os.length+1) J (os++[(i:Int)]) ps++[pB 186 C Ar]):=ah;have az:A_ B H H7:=N.old.trans a7;refine BO ah (.agg Ar.toArray) Ar CW rfl λq6 H8 b0=>?_;rw[yP]at b0;refine Bd (cs:=Ac r (.func (.func g1) #[] c1)) b0 _ rfl (W_ _ _ 1) (by simp[Ac,Ar]) rfl λH9 R cj ck=>?_;rw[zB,CA rfl]at R;replace R:D_ B1 H7 H9 (sP s t j a2 (os.length+1) J (os++[(i:Int)]) ps++[pB 186 C Ar,pB 186 q6 (Ac r (.func (.func g1) #[] c1))]):=R;refine Ah.run (Ab.of (Af (E8 (R.blk 0 rfl)) λH10 b4=>?_));have F:=R.call b4;have bq:A_ B H H10:=az.trans λk m=>F.old k (s1 k m);by_cases b6:j<t.size;{rw[b_ (show¬t.size<=j by omega)];have br:bt t j=41:=by{rcases aw with h | h;omega;exact h};(conv=>whnf);refine E_ ?_;refine lT ((F.blk 0 rfl).cellE rfl) ?_;(conv=>whnf);rw[m_ (x:=(j:Int)+1) zO];refine E_ ?_;refine Bc F 0 rfl zZ rfl λH11 I=>?_;replace I:D_ B1 H7 H11 (sP s t (j+1) a2 (os.length+1) J (os++[(i:Int)]) ps++[pB 186 C Ar,pB 186 q6 (Ac r (.func (.func g1) #[] c1))]):=I;have b7:=I.capT 1 rfl;rw[M_,g_]at b7;refine A7.of (Ap.heldZ (λk=>k=s) [14] (sq [0,1,2,3,4,5,6,7,8,9,10,11,12,13] (.f 14 .e)) rfl zX (E_ ?_));refine C_ ((I.blk 0 rfl).cellE rfl) rfl (E_ ?_);refine C_ ((I.blk 0 rfl).cellE rfl) rfl ?_;(conv=>whnf);rw[m_ (x:=((os.length+1:Nat):Int)-1) zO];rw[show((os.length+1:Nat):Int)-1=(os.length:Int) by omega];refine mQ AQ zO zO (E_ ?_);have b8:=I.popT 1 rfl;refine Bc b8 0 rfl zZ rfl λH13 K=>?_;rw[zG]at K;replace K:D_ B1 H7 H13 (sP s t (j+1) a2 os.length J os ps++[pB 186 C Ar,pB 186 q6 (Ac r (.func (.func g1) #[] c1))]):=K;refine K_ (cs:=Ac r (.func (.func g1) #[] c1)) (A9 (K.blk _ (W_ _ _ 1))) zA (Bd (cs:=Ac r (.func (.func g1) #[] c1)) K _ rfl (W_ _ _ 0) (by simp[Ac,Ar]) rfl λH14 L c7 c8=>?_);rw[zB,CA rfl]at L;refine K_ (cs:=Ac r (.func (.func g1) #[] c1)) (A9 (L.blk _ (W_ _ _ 0))) zA (⟨j+1,r,zO,zO,?_,B1,_,rfl,s1,az.trans λk m=>L.old k (s1 k m),⟨a2,_,J,L.lft.rebase⟩,gv.frame L.old λk m=>m⟩);rw[aj,ay,E5 (s:=⟨j,f',AU f::fs⟩) b6 (Tl br),bn]};{rw[a_ (zO:t.size<=j)];refine A7.held (F_ H10) [] (sq [0,1,2,3,4,5,6,7,8,9,10,11,12] (.f 13 .e)) (AG _ _) rfl zX (E_ ?_);refine C_ ((F.blk 0 rfl).cellE rfl) (F.blk 0 rfl).lt (E_ ?_);refine C_ ((F.blk 0 rfl).cellE rfl) (F.blk 0 rfl).lt ?_;(conv=>whnf);rw[m_ (x:=((os.length+1:Nat):Int)-1) zO];rw[show((os.length+1:Nat):Int)-1=(os.length:Int) by omega];refine xM (j:=os.length) (x:=(i:Int)) AQ F 1 rfl zZ rfl λb5 o5 cm bu bv bw=>?_;obtain⟨rfl,-⟩:=bw;refine C_ (v:=B_ i) bv.one bu (Ab.mk (CC (c:=21) (e:=i)) (λ_ _ h=>h.elim) ?_);rintro _ _ ⟨rfl,rfl⟩;refine⟨21,i,?_,rfl,bq⟩;rw[aj,ay,Tj (s:=⟨j,f',AU f::fs⟩) b6];show Sum.inl (21,f'.place)=_;rw[bo];rfl}}};{have d1:(((bt t i:Nat):Int) != 40)=zW:=bne_iff_ne.2 zO;(conv=>whnf);rw[d1];obtain⟨X,j,E,D,hX,co,cp,hj⟩:∃(X:BitVec 256) (j E D:Nat),(∀v,N1 t i v->v= .tuple #[AX X,B_ j,Bb E D])/\E<=10/\D<=t.size+10/\(Ck t i= .inl D/\E=10\/Ck t i= .inr (X,j)/\E=0/\D=0):=by{cases hr:Ck t i with|inl e=>exact⟨0,0,10,e,λv S=>by unfold N1 at S;rw[hr]at S;exact S,zO,by have:=O1 hr O;omega,.inl ⟨rfl,rfl⟩⟩|inr y=>exact⟨y.1,y.2,0,0,λv S=>by unfold N1 at S;rw[hr]at S;exact S,zO,zO,.inr ⟨rfl,rfl,rfl⟩⟩};have ai:D_ B H H2 (sP s t i a n cap os ps++[pB 186 C Ar]):=g;refine A7.of (Ap.cut [3,4,5] (λx:Nat×Nat=>match x with | (z,A)=>[J_ z,B_ j,J_ A]) (λx G=>match x with | (z,A)=>D_ B H G (sP s t i a n cap os ps++[pB 186 C Ar])/\L_ G z 65 (Ag X)/\L_ G A 24 (Ae E D)) ?_ ?_);{refine Ap.held3 (λk=>k=s) (rO [0,1,2,3,4,5,6,7] (.t 8 (rO [9,10,11,12] (.b 13 (.f 14 (.f 15 (.q 16 (.f 17 .e)))) 14 (.f 13 (.f 15 (.q 16 (.f 17 .e)))))) 13 (.b 8 (rO [9,10,11,12] (.f 14 (.f 15 (.q 16 (.f 17 .e))))) 14 (.f 8 (rO [9,10,11,12] (.f 15 (.q 16 (.f 17 .e)))))) 14 (.b 8 (rO [9,10,11,12] (.f 13 (.f 15 (.q 16 (.f 17 .e))))) 13 (.f 8 (rO [9,10,11,12] (.f 15 (.q 16 (.f 17 .e)))))))) rfl zX (E_ ?_);refine C_ ((g.blk 0 rfl).cellE rfl) rfl (E_ ?_);refine C_ ((g.blk 0 rfl).cellE rfl) rfl ?_;(conv=>whnf);refine⟨?_,?_,?_⟩;{refine An.mk (EC (Ka hE M ai) zO O) ?_;rintro _ J1 ⟨bx,hR⟩;obtain rfl:=hX _ hR;have w:=ai.call bx;refine⟨λk m=>by rw[show k=s from m];exact(w.blk 0 rfl).trans (g.blk 0 rfl).symm,?_⟩;(conv=>whnf);refine⟨?_,?_⟩;{refine Aq (AX 0) (Ag 0) rfl rfl ?_;intro z J2 T U V W;have p:=w.box T U V W;rw[yP]at p;replace p:D_ B H J2 (sP s t i a n cap os ps++[pB 186 C Ar,pB 65 z (Ag 0)]):=p;refine⟨λk m=>by rw[show k=s from m];exact(p.blk 0 rfl).trans (g.blk 0 rfl).symm,?_⟩;(conv=>whnf);refine Aq (Bb 0 0) (Ae 0 0) rfl rfl ?_;intro A J3 Y Z a0 a8;have u:=p.box Y Z a0 a8;rw[yP]at u;replace u:D_ B H J3 (sP s t i a n cap os ps++[pB 186 C Ar,pB 65 z (Ag 0),pB 24 A (Ae 0 0)]):=u;refine⟨λk m=>by rw[show k=s from m];exact(u.blk 0 rfl).trans (g.blk 0 rfl).symm,?_⟩;(conv=>whnf);refine AB (cs:=Ag X) u _ rfl (W_ _ _ 1) (I_ _) rfl λJ4 l=>?_;rw[zB]at l;have e4:As (Ag 0) 0 (Ag X)=Ag X:=BC rfl;replace l:D_ B H J4 (sP s t i a n cap os ps++[pB 186 C Ar,pB 65 z (As (Ag 0) 0 (Ag X)),pB 24 A (Ae 0 0)]):=l;rw[e4]at l;refine⟨λk m=>by rw[show k=s from m];exact(l.blk 0 rfl).trans (g.blk 0 rfl).symm,?_⟩;refine AB (cs:=Ae E D) l _ rfl (W_ _ _ 2) (I_ _) rfl λJ5 d=>?_;rw[zB]at d;have e5:As (Ae 0 0) 0 (Ae E D)=Ae E D:=BC rfl;replace d:D_ B H J5 (sP s t i a n cap os ps++[pB 186 C Ar,pB 65 z (Ag X),pB 24 A (As (Ae 0 0) 0 (Ae E D))]):=d;rw[e5]at d;refine⟨λk m=>by rw[show k=s from m];exact(d.blk 0 rfl).trans (g.blk 0 rfl).symm,?_⟩;(conv=>whnf);exact⟨rfl,(z,A),rfl,d.subl ((sQ _).2 (List.Sublist.cons_cons _ (sR _))),d.blk _ (W_ _ _ 1),d.blk _ (W_ _ _ 2)⟩};{refine Aq (Bb 0 0) (Ae 0 0) rfl rfl ?_;intro A J2 T U V W;have p:=w.box T U V W;rw[yP]at p;replace p:D_ B H J2 (sP s t i a n cap os ps++[pB 186 C Ar,pB 24 A (Ae 0 0)]):=p;refine⟨λk m=>by rw[show k=s from m];exact(p.blk 0 rfl).trans (g.blk 0 rfl).symm,?_⟩;(conv=>whnf);refine Aq (AX 0) (Ag 0) rfl rfl ?_;intro z J3 Y Z a0 a8;have u:=p.box Y Z a0 a8;rw[yP]at u;replace u:D_ B H J3 (sP s t i a n cap os ps++[pB 186 C Ar,pB 24 A (Ae 0 0),pB 65 z (Ag 0)]):=u;refine⟨λk m=>by rw[show k=s from m];exact(u.blk 0 rfl).trans (g.blk 0 rfl).symm,?_⟩;(conv=>whnf);refine AB (cs:=Ag X) u _ rfl (W_ _ _ 2) (I_ _) rfl λJ4 l=>?_;rw[zB]at l;have e4:As (Ag 0) 0 (Ag X)=Ag X:=BC rfl;replace l:D_ B H J4 (sP s t i a n cap os ps++[pB 186 C Ar,pB 24 A (Ae 0 0),pB 65 z (As (Ag 0) 0 (Ag X))]):=l;rw[e4]at l;refine⟨λk m=>by rw[show k=s from m];exact(l.blk 0 rfl).trans (g.blk 0 rfl).symm,?_⟩;refine AB (cs:=Ae E D) l _ rfl (W_ _ _ 1) (I_ _) rfl λJ5 d=>?_;rw[zB]at d;have e5:As (Ae 0 0) 0 (Ae E D)=Ae E D:=BC rfl;replace d:D_ B H J5 (sP s t i a n cap os ps++[pB 186 C Ar,pB 24 A (As (Ae 0 0) 0 (Ae E D)),pB 65 z (Ag X)]):=d;rw[e5]at d;refine⟨λk m=>by rw[show k=s from m];exact(d.blk 0 rfl).trans (g.blk 0 rfl).symm,?_⟩;(conv=>whnf);exact⟨rfl,(z,A),rfl,d.subl ((sQ _).2 (List.Sublist.cons_cons _ (sR _))),d.blk _ (W_ _ _ 2),d.blk _ (W_ _ _ 1)⟩}};{refine Aq (AX 0) (Ag 0) rfl rfl ?_;intro z J1 bz c2 c3 c4;have w:=ai.box bz c2 c3 c4;rw[yP]at w;replace w:D_ B H J1 (sP s t i a n cap os ps++[pB 186 C Ar,pB 65 z (Ag 0)]):=w;refine⟨λk m=>by rw[show k=s from m];exact(w.blk 0 rfl).trans (g.blk 0 rfl).symm,?_⟩;(conv=>whnf);refine⟨?_,?_⟩;{refine An.mk (EC (Ka hE M w) zO O) ?_;rintro _ J2 ⟨ak,hR⟩;obtain rfl:=hX _ hR;have p:=w.call ak;refine⟨λk m=>by rw[show k=s from m];exact(p.blk 0 rfl).trans (g.blk 0 rfl).symm,?_⟩;(conv=>whnf);refine Aq (Bb 0 0) (Ae 0 0) rfl rfl ?_;intro A J3 Y Z a0 a8;have u:=p.box Y Z a0 a8;rw[yP]at u;replace u:D_ B H J3 (sP s t i a n cap os ps++[pB 186 C Ar,pB 65 z (Ag 0),pB 24 A (Ae 0 0)]):=u;refine⟨λk m=>by rw[show k=s from m];exact(u.blk 0 rfl).trans (g.blk 0 rfl).symm,?_⟩;(conv=>whnf);refine AB (cs:=Ag X) u _ rfl (W_ _ _ 1) (I_ _) rfl λJ4 l=>?_;rw[zB]at l;have e4:As (Ag 0) 0 (Ag X)=Ag X:=BC rfl;replace l:D_ B H J4 (sP s t i a n cap os ps++[pB 186 C Ar,pB 65 z (As (Ag 0) 0 (Ag X)),pB 24 A (Ae 0 0)]):=l;rw[e4]at l;refine⟨λk m=>by rw[show k=s from m];exact(l.blk 0 rfl).trans (g.blk 0 rfl).symm,?_⟩;refine AB (cs:=Ae E D) l _ rfl (W_ _ _ 2) (I_ _) rfl λJ5 d=>?_;rw[zB]at d;have e5:As (Ae 0 0) 0 (Ae E D)=Ae E D:=BC rfl;replace d:D_ B H J5 (sP s t i a n cap os ps++[pB 186 C Ar,pB 65 z (Ag X),pB 24 A (As (Ae 0 0) 0 (Ae E D))]):=d;rw[e5]at d;refine⟨λk m=>by rw[show k=s from m];exact(d.blk 0 rfl).trans (g.blk 0 rfl).symm,?_⟩;(conv=>whnf);exact⟨rfl,(z,A),rfl,d.subl ((sQ _).2 (List.Sublist.cons_cons _ (sR _))),d.blk _ (W_ _ _ 1),d.blk _ (W_ _ _ 2)⟩};{refine Aq (Bb 0 0) (Ae 0 0) rfl rfl ?_;intro A J2 T U V W;have p:=w.box T U V W;rw[yP]at p;replace p:D_ B H J2 (sP s t i a n cap os ps++[pB 186 C Ar,pB 65 z (Ag 0),pB 24 A (Ae 0 0)]):=p;refine⟨λk m=>by rw[show k=s from m];exact(p.blk 0 rfl).trans (g.blk 0 rfl).symm,?_⟩;(conv=>whnf);refine An.mk (EC (Ka hE M p) zO O) ?_;rintro _ J3 ⟨am,hR⟩;obtain rfl:=hX _ hR;have u:=p.call am;refine⟨λk m=>by rw[show k=s from m];exact(u.blk 0 rfl).trans (g.blk 0 rfl).symm,?_⟩;(conv=>whnf);refine AB (cs:=Ag X) u _ rfl (W_ _ _ 1) (I_ _) rfl λJ4 l=>?_;rw[zB]at l;have e4:As (Ag 0) 0 (Ag X)=Ag X:=BC rfl;replace l:D_ B H J4 (sP s t i a n cap os ps++[pB 186 C Ar,pB 65 z (As (Ag 0) 0 (Ag X)),pB 24 A (Ae 0 0)]):=l;rw[e4]at l;refine⟨λk m=>by rw[show k=s from m];exact(l.blk 0 rfl).trans (g.blk 0 rfl).symm,?_⟩;refine AB (cs:=Ae E D) l _ rfl (W_ _ _ 2) (I_ _) rfl λJ5 d=>?_;rw[zB]at d;have e5:As (Ae 0 0) 0 (Ae E D)=Ae E D:=BC rfl;replace d:D_ B H J5 (sP s t i a n cap os ps++[pB 186 C Ar,pB 65 z (Ag X),pB 24 A (As (Ae 0 0) 0 (Ae E D))]):=d;rw[e5]at d;refine⟨λk m=>by rw[show k=s from m];exact(d.blk 0 rfl).trans (g.blk 0 rfl).symm,?_⟩;(conv=>whnf);exact⟨rfl,(z,A),rfl,d.subl ((sQ _).2 (List.Sublist.cons_cons _ (sR _))),d.blk _ (W_ _ _ 1),d.blk _ (W_ _ _ 2)⟩}};{refine BO ai (Bb 0 0) (Ae 0 0) rfl rfl λA J1 w=>?_;rw[yP]at w;replace w:D_ B H J1 (sP s t i a n cap os ps++[pB 186 C Ar,pB 24 A (Ae 0 0)]):=w;refine⟨λk m=>by rw[show k=s from m];exact(w.blk 0 rfl).trans (g.blk 0 rfl).symm,?_⟩;(conv=>whnf);refine⟨?_,?_⟩;{refine An.mk (EC (Ka hE M w) zO O) ?_;rintro _ J2 ⟨ak,hR⟩;obtain rfl:=hX _ hR;have p:=w.call ak;refine⟨λk m=>by rw[show k=s from m];exact(p.blk 0 rfl).trans (g.blk 0 rfl).symm,?_⟩;(conv=>whnf);refine BO p (AX 0) (Ag 0) rfl rfl λz J3 u=>?_;rw[yP]at u;replace u:D_ B H J3 (sP s t i a n cap os ps++[pB 186 C Ar,pB 24 A (Ae 0 0),pB 65 z (Ag 0)]):=u;refine⟨λk m=>by rw[show k=s from m];exact(u.blk 0 rfl).trans (g.blk 0 rfl).symm,?_⟩;(conv=>whnf);refine AB (cs:=Ag X) u _ rfl (W_ _ _ 2) (I_ _) rfl λJ4 l=>?_;rw[zB]at l;have e4:As (Ag 0) 0 (Ag X)=Ag X:=BC rfl;replace l:D_ B H J4 (sP s t i a n cap os ps++[pB 186 C Ar,pB 24 A (Ae 0 0),pB 65 z (As (Ag 0) 0 (Ag X))]):=l;rw[e4]at l;refine⟨λk m=>by rw[show k=s from m];exact(l.blk 0 rfl).trans (g.blk 0 rfl).symm,?_⟩;refine AB (cs:=Ae E D) l _ rfl (W_ _ _ 1) (I_ _) rfl λJ5 d=>?_;rw[zB]at d;have e5:As (Ae 0 0) 0 (Ae E D)=Ae E D:=BC rfl;replace d:D_ B H J5 (sP s t i a n cap os ps++[pB 186 C Ar,pB 24 A (As (Ae 0 0) 0 (Ae E D)),pB 65 z (Ag X)]):=d;rw[e5]at d;refine⟨λk m=>by rw[show k=s from m];exact(d.blk 0 rfl).trans (g.blk 0 rfl).symm,?_⟩;(conv=>whnf);exact⟨rfl,(z,A),rfl,d.subl ((sQ _).2 (List.Sublist.cons_cons _ (sR _))),d.blk _ (W_ _ _ 2),d.blk _ (W_ _ _ 1)⟩};{refine BO w (AX 0) (Ag 0) rfl rfl λz J2 p=>?_;rw[yP]at p;replace p:D_ B H J2 (sP s t i a n cap os ps++[pB 186 C Ar,pB 24 A (Ae 0 0),pB 65 z (Ag 0)]):=p;refine⟨λk m=>by rw[show k=s from m];exact(p.blk 0 rfl).trans (g.blk 0 rfl).symm,?_⟩;(conv=>whnf);refine An.mk (EC (Ka hE M p) zO O) ?_;rintro _ J3 ⟨am,hR⟩;obtain rfl:=hX _ hR;have u:=p.call am;refine⟨λk m=>by rw[show k=s from m];exact(u.blk 0 rfl).trans (g.blk 0 rfl).symm,?_⟩;(conv=>whnf);refine AB (cs:=Ag X) u _ rfl (W_ _ _ 2) (I_ _) rfl λJ4 l=>?_;rw[zB]at l;have e4:As (Ag 0) 0 (Ag X)=Ag X:=BC rfl;replace l:D_ B H J4 (sP s t i a n cap os ps++[pB 186 C Ar,pB 24 A (Ae 0 0),pB 65 z (As (Ag 0) 0 (Ag X))]):=l;rw[e4]at l;refine⟨λk m=>by rw[show k=s from m];exact(l.blk 0 rfl).trans (g.blk 0 rfl).symm,?_⟩;refine AB (cs:=Ae E D) l _ rfl (W_ _ _ 1) (I_ _) rfl λJ5 d=>?_;rw[zB]at d;have e5:As (Ae 0 0) 0 (Ae E D)=Ae E D:=BC rfl;replace d:D_ B H J5 (sP s t i a n cap os ps++[pB 186 C Ar,pB 24 A (As (Ae 0 0) 0 (Ae E D)),pB 65 z (Ag X)]):=d;rw[e5]at d;refine⟨λk m=>by rw[show k=s from m];exact(d.blk 0 rfl).trans (g.blk 0 rfl).symm,?_⟩;(conv=>whnf);exact⟨rfl,(z,A),rfl,d.subl ((sQ _).2 (List.Sublist.cons_cons _ (sR _))),d.blk _ (W_ _ _ 2),d.blk _ (W_ _ _ 1)⟩}}};{rintro⟨z,A⟩ G c9 ⟨ao,ad,b9⟩;refine Ah.run ?_;refine K_ (cs:=Ae E D) (b9.cells (λj v S=>by rw[N_];exact S)) zA ?_;refine Ad underlying24 rfl _ rfl (Ae 0 0) rfl (Ht zO zO zQ zQ ?_);rcases hj with⟨hr,rfl⟩ | ⟨hr,rfl,rfl⟩;{rw[j_];refine K_ (cs:=Ae 10 D) (b9.cells (λj v S=>by rw[N_];exact S)) zA ?_;(conv=>whnf);exact⟨10,D,EN O (Vj ap P hr),rfl,ao.old⟩};{have bd:=O2 hr;rw[a_ ⟨rfl,rfl⟩];refine E_ ?_;refine M1 ao 0 rfl zZ rfl λG2 a9 c5 cq=>?_;replace a9:D_ B H G2 (sP s t j a n cap os ps++[pB 186 C Ar]):=a9;have be:=ad.agr c5 (ad.ne (ao.blk 0 rfl) zQ);refine K_ (cs:=Ag X) (E0 be) zA (Ad underlying67 rfl _ rfl (Ag X) rfl (Ab.of (An.mk (Rg (r:=.cls X) a9 rfl) ?_)));rintro _ G3 ⟨B1,f1,rfl,s1,a3,c6,gs⟩;obtain⟨g1,c1,rfl⟩:=gs.fn;refine Bd (cs:=Ac (.cls X) (.func (.func g1) #[] c1)) c6 _ rfl (W_ _ _ 0) (by simp[Ac,Ar]) rfl λG4 ab cr ct=>?_;rw[zB,CA rfl]at ab;refine lN (cs:=Ac (.cls X) (.func (.func g1) #[] c1)) (A9 (ab.blk _ (W_ _ _ 0))) ?_;exact⟨j,.cls X,bd.1,bd.2,E5 O (XT ap P hr),B1,_,rfl,s1,(a9.old.trans (a3.mono λk m=>a9.up m)).trans λk m=>ab.old k (s1 k m),⟨a,n,cap,ab.lft.rebase⟩,gs.frame ab.old λk m=>m⟩}}}
def Lt{σ:Type}(sub:ReM->σ->σ×Except Int O_)(r:ReM)(s:σ):σ×Except Int O_:=if 2000<r.nodes then(s,.error 24)else Bm (Bs sub r 0 s) λA s1=>if 65536<A.u then(s1,.error 40)else(s1,.ok ⟨A.u,A.p,A.q,A.es⟩)
def QC{σ:Type}{P:σ->List Pc}{sub:ReM->σ->σ×Except Int O_}{E:Nat}{f:FuncId}{first cap:Array v_}(hE:Ue sub E)(J:E<=33554432)(r:ReM)(S:r.nodes<=1000000000)(K:∀(I:ReM),NQ I=zW->I.nodes<=r.nodes->∀(s:σ) {ps':List Pc} {H':Aa},D_ B H0 H' (ps'++P s)->Am prog f (first.toList++[Al I]++cap.toList).toArray H' (Ug B H0 E ps' P (sub I s))){s:σ} (st:D_ B H0 H (ps++P s)):Am prog 105 #[Al r,.func (.func f) first cap] H (Ug B H0 ((E+4)*2000) ps P (Lt sub r s)):=by
 have m:=fun(bb:Nat) (H:Aa) (ps:List Pc) (n c:Nat) (a:Option Addr) (es:List U')=>Af4 (N:=r.nodes) hE J (f:=f) (first:=first) (cap:=cap) (B:=B) (H0:=H0) (P:=P) (λI h1 h2 s ps' H' T=>K I h1 h2 s T) r (I_ _) (bb:=bb) (H:=H) (ps:=ps) (n:=n) (c:=c) (a:=a) (es:=es) (s:=s);rw[Dk]at m ⊢;refine Am.of_vc func105 rfl (call105 _) (Aq _ [B_ 0,B_ 0,B_ 0,.slice zV 0 0] EZ rfl ?_);intro y H1 hy U V W;have st1:D_ B H0 H1 (pB 225 y [B_ 0,B_ 0,B_ 0,.slice zV 0 0]::(ps++P s)):=(st.box hy U V W).perm (wP _ _);refine Mm underlying35 (Fb.mk (KX r) #[Fa r] (Kr r) (RF r S H1) ?_);rintro _ H2 ⟨rfl,X⟩;have L:=st1.call X;by_cases z:2000<r.nodes;{have Y:zT ((2000:Int)<(r.nodes:Int))=zW:=Y';(conv=>whnf);rw[Y];refine Ad underlying225 rfl _ EZ [B_ 0,B_ 0,B_ 0,.slice zV 0 0] rfl (AB (cs:=[B_ 0,B_ 0,B_ 0,.slice zV 0 0]) L 0 rfl rfl (I_ _) rfl λH3 t=>?_);refine K_ (cs:=[B_ 0,B_ 0,B_ 0,.slice zV 0 0]) ((t.blk 0 rfl).cells λj v g=>by rw[N_];exact g) zA ?_;(conv=>whnf);have e1:Lt sub r s=(s,.error 24):=by{unfold Lt;rw[H_ z]};rw[e1];exact⟨_,rfl,rfl,rfl,t.sub (xK _ _)⟩};have Y:zT ((2000:Int)<(r.nodes:Int))=zU:=j_;(conv=>whnf);rw[Y];refine Ad underlying266 rfl _ kY (vP 0 0 (.slice zV 0 0) (.func (.func f) first cap)) zX (BF (vP 0 0 (.slice zV 0 0) (.func (.func f) first cap)) rfl ?_);intro bb H3 Z a0 a8 a9;have C:D_ B H0 H3 (pB uN bb (vP 0 0 (.slice zV 0 0) (.func (.func f) first cap))::(pB 225 y [B_ 0,B_ 0,B_ 0,.slice zV 0 0]::(ps++P s))):=(L.box Z a0 a8 a9).perm (wP _ _);have D:=(C.nils yB 277).perm (wP _ _);have t:D_ B H0 H3 (zM bb 0 0 (.func (.func f) first cap) zV 0 [] ((pB 225 y [B_ 0,B_ 0,B_ 0,.slice zV 0 0]::ps)++P s)):=D.perm (List.Perm.swap _ _ _);clear C D;have hp:=m _ _ _ 0 _ _ _ t zO (by simp only[i_,N_];exact V' (Nat.mul_le_mul (Nat.add_le_add_right J 4) (zO:r.nodes<=2000)) zQ);obtain⟨M,x4,F⟩:∃R ab,Bs sub r 0 s=(R,ab):=⟨_,_,rfl⟩;rw[F]at hp;refine An.mk hp ?_;rintro v4 H4 O;have ad:Lt sub r s=Bm (M,x4) λA R=>if 65536<A.u then(R,.error 40)else(R,.ok ⟨A.u,A.p,A.q,A.es⟩):=by unfold Lt;rw[G_ z,F]
 rw[ad];cases x4 with|error e4=>{obtain⟨ae,p4,q4,n4,a4,w,ah,rfl,ao,ap,aq,au,aw,l⟩:=O;replace l:D_ B H0 H4 (zM bb e4 n4 (.func (.func f) first cap) a4 w ah ((pB 225 y [B_ 0,B_ 0,B_ 0,.slice zV 0 0]::ps)++P M)):=l;refine fa ?_;refine fa ?_;refine Bc l 0 rfl (zQ:1<6) rfl λH5 G=>(fa ?_);refine fa ?_;refine Bc G 0 rfl (zQ:2<6) rfl λH6 b=>(fa ?_);refine lT ((b.blk 0 rfl).cellE rfl) ?_;have Q:(e4 != 0)=zW:=bne_iff_ne.2 ae;(conv=>whnf);rw[Q];have ai:bb≠y:=(b.blk 0 rfl).ne (b.blk 2 rfl) zQ;refine Ap.held (λk=>k=bb) 7 (sq [0,1,2,3,4] (.f 5 (sq [6] .e))) rfl zX (Ad underlying225 rfl _ EZ [B_ 0,B_ 0,B_ 0,.slice zV 0 0] rfl (fa ?_));refine C_ ((b.blk 0 rfl).cellE rfl) rfl (Bd (cs:=[B_ 0,B_ 0,B_ 0,.slice zV 0 0]) b 2 rfl rfl (I_ _) rfl λH7 d ja js=>?_);refine⟨ja.mono λk hk=>by rw[show k=bb from hk];exact ai,?_⟩;refine K_ (cs:=[B_ 0,B_ 0,B_ 0,.slice zV 0 0]) ((d.blk 2 rfl).cells λj v g=>by rw[N_];exact g) zA ?_;(conv=>whnf);rw[C9 (x:=(M,(.error e4:Except Int BR))) rfl];exact⟨_,rfl,rfl,rfl,d.sub (.cons _ (.cons _ (xK _ _)))⟩}|ok A=>{obtain⟨a4,w,rfl,l⟩:=O;have aj:=CG hE _ _ _ _ _ F;replace l:D_ B H0 H4 (zM bb 0 A.u (.func (.func f) first cap) a4 w A.es ((pB 225 y [B_ 0,B_ 0,B_ 0,.slice zV 0 0]::ps)++P M)):=by{have h:=l;rwa [List.nil_append,N_]at h};refine fa ?_;refine fa ?_;refine Bc l 0 rfl (zQ:1<6) rfl λH5 G=>(fa ?_);refine fa ?_;refine Bc G 0 rfl (zQ:2<6) rfl λH6 b=>(fa ?_);refine C_ ((b.blk 0 rfl).cellE rfl) zA (fa ?_);refine fa ?_;refine lT ((b.blk 0 rfl).cellE rfl) ?_;rw[Cm (x:=(M,(.ok A:Except Int BR))) rfl];by_cases hu:65536<A.u;{have Q:zT ((65536:Int)<(A.u:Int))=zW:=Y';(conv=>whnf);rw[Q];refine Ad underlying225 rfl _ EZ [B_ 0,B_ 0,B_ 0,.slice zV 0 0] rfl (AB (cs:=[B_ 0,B_ 0,B_ 0,.slice zV 0 0]) b 2 rfl rfl (I_ _) rfl λH7 d=>?_);refine K_ (cs:=[B_ 0,B_ 0,B_ 0,.slice zV 0 0]) ((d.blk 2 rfl).cells λj v g=>by rw[N_];exact g) zA ?_;(conv=>whnf);rw[H_ hu];exact⟨_,rfl,rfl,rfl,d.sub (.cons _ (.cons _ (xK _ _)))⟩};have Q:zT ((65536:Int)<(A.u:Int))=zU:=j_;(conv=>whnf);rw[Q];refine fa ?_;have ak:AO H6 bb 0 (yG ⟨A.u,A.p,A.q,A.es⟩ (.slice a4 A.es.length w)):=(b.blk 0 rfl).cells λj v g=>by{rw[N_];match j,g with|0,g=>exact g|1,g=>exact g|2,g=>exact g|3,g=>exact g};refine K_ (cs:=yG ⟨A.u,A.p,A.q,A.es⟩ (.slice a4 A.es.length w)) ak zA (AB (cs:=yG ⟨A.u,A.p,A.q,A.es⟩ (.slice a4 A.es.length w)) b 2 rfl rfl (I_ _) rfl λH7 d=>?_);rw[AA (show(yG ⟨A.u,A.p,A.q,A.es⟩ (.slice a4 A.es.length w)).length=4 from rfl)]at d;refine K_ (cs:=yG ⟨A.u,A.p,A.q,A.es⟩ (.slice a4 A.es.length w)) ((d.blk 2 rfl).cells λj v g=>by rw[N_];exact g) zA ?_;(conv=>whnf);rw[G_ hu];have am:A.es.length<=(E+4)*2000:=V' aj.2.2.2.2.2 (pO _ zO);exact⟨am,⟨CF zO,CF zO,CF zO⟩,a4,w,rfl,((d.sub (xK _ _)).perm (List.Perm.swap _ _ _) |>.sub (xK _ _)).perm (wP _ _).symm⟩}
section
attribute [local irreducible] Bh By AJ DH
def PA.hops_len(d:PA)(q k:Nat):(d.hopsTo q k).length<=256:=by have c:∀l:List Nat,(l.filterMap λt=>if(d.use t&&(d.set q t != 0#256))=zW then zY (Du (d.place q) (d.place t) (d.set q t))else zV).length=(l.filter λt=>d.use t&&(d.set q t != 0#256)).length:=by{intro l;induction l with|nil=>rfl|cons t l e=>by_cases h:(d.use t&&(d.set q t != 0#256))=zW;{rw[nY,H_ h,sN,H_ h,U_,U_,e]};rw[nY,G_ h,sN,G_ h,e]};unfold PA.hopsTo;rw[c];have:=AfT (a:=(Am6 k).filter λt=>d.use t&&(d.set q t != 0#256)) (b:=(Am6 256).map (d.st q)) (List.nodup_range.filter _) λt f=>by{have h:=(yS.1 f).2;rw[o_,bne_iff_ne]at h;refine Classical.byContradiction λg=>h.2 (rC λi j=>?_);rw[BitVec.getLsbD_zero];cases m:(d.set q t).getLsbD i with|false=>rfl|true=>exact absurd (yT.2 ⟨i,xO.2 j,(PA.set_bit.1 m).2⟩) g};rwa [d_,qB]at this
def PA.edges_place(d:PA):∀k,(d.edgesTo k).length<=257*d.place k:=λk=>by
 induction k with
 | zero=>simp[PA.edgesTo]
 | succ k a=>
   have e:d.edgesTo (k+1)=d.edgesTo k++(if d.use k=zW then d.hopsTo k d.n++d.endE k else []):=by
    unfold PA.edgesTo;rw[wS,tF];simp
   rw[e,M_,PA.place_succ];have b:=PA.hops_len d k d.n;have c:(d.endE k).length<=1:=by unfold PA.endE;split<;>simp
   split
   ·rw[M_];omega
   ·simp;omega
def UR(d:PA):(Bo d).edges.length+1<=258*(Bo d).st.toNat:=by unfold Bo;split;{have:=PA.edges_place d d.n;show(d.edgesTo d.n).length+1<=258*((d.count:Int)+1).toNat;have:((d.count:Int)+1).toNat=d.count+1:=zO;rw[this];have:d.place d.n=d.count:=rfl;omega};decide
def DR{σ:Type}{sub:ReM->σ->σ×Except Int O_}{E:Nat}(f:Ue sub E)(hd:∀r s d a,sub r s=(d,.ok a)->a.edges.length+1<=258*a.st.toNat):∀(r:ReM) (n:Nat) (s d:σ) (A:BR),Bs sub r n s=(d,.ok A)->A.es.length+1<=258*A.u
 | .eps,n,s,d,A,h=>by cases h;simp
 | .cls t,n,s,d,A,h=>by cases h;simp
 | .cat a b,n,s,d,A,h=>by
   have⟨g,A1,e,c⟩:=AZ h;have⟨p,A2,j,k⟩:=AZ c;cases k;have m:=DR f hd a _ _ _ _ e;have q:=DR f hd b _ _ _ _ j;simp only[M_,g_,wQ];omega
 | .alt a b,n,s,d,A,h=>by
   have⟨g,A1,e,c⟩:=AZ h;have⟨p,A2,j,k⟩:=AZ c;cases k;have m:=DR f hd a _ _ _ _ e;have q:=DR f hd b _ _ _ _ j;simp only[M_,U_,i_,wQ];omega
 | .star a,n,s,d,A,h=>by
   have⟨g,A1,e,c⟩:=AZ h;cases c;have m:=DR f hd a _ _ _ _ e;simp only[M_,U_,i_,wQ];omega
 | .and_ a b,n,s,d,A,h=>by
   have⟨g,N,e,c⟩:=AZ (show DV _ n=_ from h);have l:=hd _ _ _ _ e;split at c
   ·cases c;simp only[d_];exact l
   ·cases c
 | .minus a b,n,s,d,A,h=>by
   have⟨g,N,e,c⟩:=AZ (show DV _ n=_ from h);have l:=hd _ _ _ _ e;split at c
   ·cases c;simp only[d_];exact l
   ·cases c
def Yi(b:Int):∀r s c a,MI b r s=(c,.ok a)->a.edges.length+1<=258*a.st.toNat:=λr s c a h=>by
 have e:∀{ends:Bool->Bool->Bool} {f g:Nat->Nat×Except Int PA} {s c:Nat} {N:O_},D9 b ends f g s=(c,.ok N)->N.edges.length+1<=258*N.st.toNat:=λh=>by
  obtain⟨j,k,l,m,d,n,p,q,rfl,t⟩:=OD h;exact UR d
 cases r with
 | and_ x y=>exact e (show D9 b Sd (λs=>ED b (Bi b x 0 s)) (λs=>ED b (Bi b y 0 s)) _=_ from h)
 | minus x y=>exact e (show D9 b Tb (λs=>ED b (Bi b x 0 s)) (λs=>ED b (Bi b y 0 s)) _=_ from h)
 | _=>cases h
def Vh{n s a:Nat}{A:BR}(h:Bi b r n s=(a,.ok A)):A.es.length+1<=258*A.u:=by rw[EM]at h;exact DR (OK b) (Yi b) r n s a A h
def AdC{v:v_}{a:O_}(y:∀k,S k->k<H.size)(h:sZ S H v a)(g:Eo prog H):Am prog 108 #[v,B_ b] H λr H'=>A_ (F_ H) H H'/\match F5 b a with | .error e=>r= .tuple #[.pointer zV,B_ e]| .ok d=>∃v A,r= .tuple #[v,B_ 0]/\AS (λk=>H.size<=k/\k<H'.size) H' v (zY A)/\Cc (zY A)/\J6 (zY A) d:=by
 have z:F5 b a=match Gu a b with
   | .error e=>.error e
   | .ok F=>.ok (uM (B0 a) (λX=>zT (a.fin∈X)) F):=rfl
 rw[z];by_cases p:b<1\/4096<b;{rw[Zd p];exact(L1 h p).mono λr H' ⟨n,c⟩=>⟨c,n⟩};obtain⟨m,rfl⟩:=uF (zO:0<=b);rw[VY zO zO];refine(Pd y h g (budget:=m) zO zO).mono λr H' ⟨n,c⟩=>⟨n,?_⟩;have j:=detA a (most:=m) zO;cases hd:DZ m (B0 a) (BH (CR a)) (K5 a)with|none=>rw[hd]at c j;rw[<-j];exact c|some q=>have⟨F,rows⟩:=q;rw[hd]at c j;rw[<-j];obtain⟨B,rfl,t⟩:=c;have⟨u,w,C⟩:=AkU zO zO hd;rw[u,H_ rfl]at t;have⟨g1,g2,D⟩:=Np (step:=B0 a) (start:=K5 a) (most:=m) (F:=F) zO (by{have:JX a m=zY F:=j.symm;exact this});have x:=SC (K':=List Int) (f:=id) (step':=B0 a) (fin':=λX=>zT (a.fin∈X)) (fin:=λX=>zT (a.fin∈X)) g1 (λ_ _ _ _ e=>e) (λ_ _ _ _=>rfl) (λ_ _=>rfl) (s1:=Ao (zY _)) (f1:=AL (zY _)) (by rw[List.map_id];exact w.st) (by rw[List.map_id];exact w.fi);exact⟨B,_,rfl,t,⟨Bg (CR a),rows.map Bw,F.map λl=>zT (a.fin∈l),by unfold DE;rw[d_,u];rfl⟩,⟨C,x.1,x.2⟩⟩
def AdD{K:Type} [DecidableEq K]{most:Nat}{step:K->Nat->K}{start:K}{P:K->Prop}(a:1<=most)(h0:P start)(hs:∀x b,P x->P (step x b)){F:List K}(h:DH most step start=zY F):∀x∈F,P x:=by unfold DH at h;cases hd:DZ most step (Am6 256) start with|none=>rw[hd]at h;cases h|some z=>have⟨G,rows⟩:=z;rw[hd]at h;simp only[wB,AqI.injEq]at h;subst h;exact(Dn (P:=P) a h0 hs _ most G rows hd).2.2.2
def lF(x:Nat×Nat):Int×Int:=((x.1:Int),(x.2:Int))
variable{d h:PA}
def Af8{b:Option AM}{g:PA}(p:J6 a g)(q:J6 b h)(k:g.Ok)(l:h.Ok)(m:Nat):(sE g h m).map (List.map lF)=jS a b m:=by refine Zf (most:=m) (step:=JK g h) (step':=BV a b) (start:=(0,0)) (f:=lF) (I:=λx=>x.1<g.n/\x.2<h.n) (λy z _ _ e=>?_) ⟨k.pos,l.pos⟩ λx c j d=>?_;{have r:(y.1:Int)=(z.1:Int):=congrArg Prod.fst e;have e2:(y.2:Int)=(z.2:Int):=congrArg Prod.snd e;exact Prod.ext zO zO};unfold JK BV;rw[H_ d,H_ d];exact⟨⟨k.cl _ _ j.1 d,l.cl _ _ j.2 d⟩,Prod.ext (p.st _ _ j.1 d).symm (q.st _ _ j.2 d).symm⟩
def AmC{b:Option AM}{g j:PA}{ends:Bool->Bool->Bool}{m:Int}{H':Aa}{r:v_}(u:J6 a g)(w:J6 b j)(B:g.Ok)(C:j.Ok)(h:Ma a b ends m H H' r):
  match wI m ends g j with
   | .error e=>r= .tuple #[.pointer zV,B_ e]
   | .ok d=>∃v A,r= .tuple #[v,B_ 0]/\AS (λk=>H.size<=k/\k<H'.size) H' v (zY A)/\Cc (zY A)/\J6 (zY A) d:=by
 unfold Ma at h;unfold wI;by_cases E:m<1\/4096<m
 ·rw[H_ E]at h ⊢;exact h
 ·rw[G_ E]at h ⊢;rw[<-Af8 u w B C]at h;cases q:sE g j m.toNat with
  | none=>
    rw[q]at h;exact h
  | some F=>
    rw[q]at h;obtain⟨v,A,rfl,J,D,G,K⟩:=h;have⟨g1,g2,L⟩:=Np (step:=JK g j) (start:=(0,0)) (most:=m.toNat) (F:=F) zO q;have t:∀x∈F,x.1<g.n/\x.2<j.n:=by
     have:=AdD (step:=JK g j) (start:=(0,0)) (most:=m.toNat) (P:=λx=>x.1<g.n/\x.2<j.n) zO ⟨B.pos,C.pos⟩ (λx c l=>by
      unfold JK;split
      ·rename_i p;exact⟨B.cl _ _ l.1 p,C.cl _ _ l.2 p⟩
      ·exact l) q
     exact this
    have I:=SC (K':=Int×Int) (f:=lF) (step':=BV a b) (fin':=λx:Int×Int=>ends (AL a x.1) (AL b x.2)) (fin:=mZ ends g j) g1 (λy _ z _ e=>by
      have M:(y.1:Int)=(z.1:Int):=congrArg Prod.fst e;have e2:(y.2:Int)=(z.2:Int):=congrArg Prod.snd e;exact Prod.ext zO zO) (λx l c p=>by
      unfold JK BV;rw[H_ p,H_ p];exact Prod.ext (u.st _ _ (t x l).1 p) (w.st _ _ (t x l).2 p)) (λx l=>by
      show ends (AL a (x.1:Int)) (AL b (x.2:Int))=ends (g.fi x.1) (j.fi x.2);rw[u.fi _ (t x l).1,w.fi _ (t x l).2]) G.st G.fi
    exact⟨v,A,rfl,J,D,by rw[K,d_];rfl,I.1,I.2⟩
end
section
attribute [local irreducible] Bh By AJ
end
variable{d h:PA}
section
attribute [local irreducible] Bh By AJ DH
def EY(d:PA)(reps:List Nat)(q j t:Nat):List Nat:=((Am6 q).flatMap λp=>(reps.filter λr=>d.st p r==t).map λ_=>p)++((reps.take j).filter λr=>d.st q r==t).map λ_=>q
def yM(l:List Nat):List Int:=l.map fun(p:Nat)=>(p:Int)
def JC(d:PA)(reps:List Nat)(q j:Nat):List (List Int):=(Am6 d.n).map λt=>yM (EY d reps q j t)
section
variable{d:PA}{reps:List Nat}{q j t:Nat}
def Um{r:Nat}(h:reps[j]?=zY r):EY d reps q (j+1) t=EY d reps q j t++if d.st q r=t then [q]else []:=by unfold EY;rw[Aj h,uH,xV,yP];congr 2;by_cases e:d.st q r=t<;>simp[e]
def Un(h:reps.length<=j):EY d reps q j t=EY d reps (q+1) 0 t:=by unfold EY;rw[tU h,wS,tF];simp
def Pp(a:reps.length<=256):(EY d reps q j t).length<=q*256+256:=by have b:∀p,((reps.filter λr=>d.st p r==t).map λ_=>p).length<=256:=λp=>by{rw[d_];exact V' (r' _ _) a};have c:∀q,((Am6 q).flatMap λp=>(reps.filter λr=>d.st p r==t).map λ_=>p).length<=q*256:=λq=>by{induction q with|zero=>simp|succ q e=>rw[wS,tF,M_];have:=b q;simp only[vG,dX,xZ];omega};unfold EY;rw[M_,d_];have f:=c q;have g:=r' (λr=>d.st q r==t) (reps.take j);have h:=List.length_take_le' j reps;omega
def SS{p:Nat}:p∈EY d reps q 0 t↔p<q/\∃r∈reps,d.st p r=t:=by unfold EY;simp only[List.take_zero,List.filter_nil,List.map_nil,xZ,List.mem_flatMap,xO,yT,yS,beq_iff_eq];constructor;{rintro⟨c,a,r,⟨b,h⟩,rfl⟩;exact⟨a,r,b,h⟩};rintro⟨a,r,b,h⟩;exact⟨p,a,r,⟨b,h⟩,rfl⟩
def IN:(JC d reps q j).length=d.n:=by simp[JC]
def Lc(h:t<d.n):(JC d reps q j)[t]?=zY (yM (EY d reps q j t)):=by unfold JC;rw[I',tD h];rfl
def bJ{r:Nat}(h:reps[j]?=zY r)(b:d.st q r<d.n):(JC d reps q j).set (d.st q r) (yM (EY d reps q j (d.st q r))++[(q:Int)])=JC d reps q (j+1):=by apply wR;intro i;by_cases a:i<d.n;{rw[vD,Lc a,Lc a,IN,Um h];by_cases e:d.st q r=i;{subst e;rw[H_ rfl,H_ a,H_ rfl];unfold yM;rw[xV];rfl};rw[G_ e,G_ e,xZ]};rw[yR (by rw[wM,IN];omega),yR (by rw[IN];omega)]
def Yn(h:reps.length<=j):JC d reps q j=JC d reps (q+1) 0:=by unfold JC;refine sO λt _=>?_;rw[Un h]
def Yo:JC d reps 0 0=AlY d.n []:=by unfold JC;rw[nX];refine⟨zZ,λb a=>?_⟩;obtain⟨i,-,rfl⟩:=yT.1 a;rfl
def JA(d:PA)(k:Nat):List Bool:=(Am6 d.n).map λi=>zT (i<k)&&d.fi i
def Ij(d:PA)(k:Nat):List Int:=yM ((Am6 k).filter d.fi)
def F6{k:Nat}:(JA d k).length=d.n:=by simp[JA]
def X2:JA d 0=AlY d.n zU:=by unfold JA;rw[nX];refine⟨zZ,λb a=>?_⟩;obtain⟨i,-,rfl⟩:=yT.1 a;simp
def GO{k i:Nat}(h:i<d.n):(JA d k)[i]?=zY (zT (i<k)&&d.fi i):=by unfold JA;rw[I',tD h];rfl
def Zr{k:Nat}(h:k<d.n)(c:d.fi k=zW):(JA d k).set k zW=JA d (k+1):=by apply wR;intro i;by_cases a:i<d.n;{rw[vD,GO a,GO a,F6];by_cases e:k=i;{subst e;rw[H_ rfl,H_ a,c];simp};rw[G_ e];by_cases b:i<k;{simp[b,(zO:i<k+1)]};simp[b,show¬i<k+1 by omega]};rw[yR (by rw[wM,F6];omega),yR (by rw[F6];omega)]
def X1{k:Nat}(b:d.fi k=zU):JA d k=JA d (k+1):=by unfold JA;refine sO λi _=>?_;by_cases e:i=k;{subst e;simp[b]};by_cases a:i<k;{simp[a,(zO:i<k+1)]};simp[a,show¬i<k+1 by omega]
def Qo{k:Nat}(a:d.fi k=zW):Ij d (k+1)=Ij d k++[(k:Int)]:=by unfold Ij yM;rw[wS,uH,xV];simp[a]
def Qp{k:Nat}(a:d.fi k=zU):Ij d (k+1)=Ij d k:=by unfold Ij yM;rw[wS,uH,xV];simp[a]
def bP(k:Nat):(Ij d k).length<=k:=by unfold Ij yM;rw[d_];have:=r' d.fi (Am6 k);rwa [qB]at this
def AhM(d:PA)(p t:Nat):Prop:=∃b,b<256/\d.st p b=t
structure UsI(d:PA)(Ex:Nat->Prop)(outs:List Bool)(todo:List Int):Prop where
 len:outs.length=d.n
 td:∀x∈todo,∃q:Nat,x=(q:Int)/\outs[q]?=zY zW
 live:∀q:Nat,outs[q]?=zY zW->d.Live q
 fin:∀q:Nat,q<d.n->d.fi q=zW->outs[q]?=zY zW
 cl:∀q:Nat,outs[q]?=zY zW->(q:Int)∈todo\/Ex q\/∀p:Nat,p<d.n->AhM d p q->outs[p]?=zY zW
 room:todo.length+outs.count zU<=d.n
def UsI.start(d:PA):UsI d (λ_=>False) (JA d d.n) (Ij d d.n):=by refine⟨F6,λx g=>?_,λq a=>?_,λq a j=>?_,λq a=>?_,?_⟩;{unfold Ij yM at g;obtain⟨p,k,rfl⟩:=yT.1 g;have⟨c,m⟩:=yS.1 k;have c:=xO.1 c;exact⟨p,rfl,by rw[GO c];simp[c,m]⟩};{have b:=(P_.1 a).1;rw[F6]at b;rw[GO b]at a;simp[b]at a;exact .fin b a};{rw[GO a];simp[a,j]};{have b:=(P_.1 a).1;rw[F6]at b;rw[GO b]at a;simp[b]at a;refine .inl ?_;unfold Ij yM;exact yT.2 ⟨q,yS.2 ⟨xO.2 b,a⟩,rfl⟩};have f:∀l:List Nat,(l.filter d.fi).length+(l.map λi=>d.fi i).count zU=l.length:=by{intro l;induction l with|nil=>rfl|cons i l t=>cases h:d.fi i<;>simp[h]<;>omega};have e:JA d d.n=(Am6 d.n).map λi=>d.fi i:=by{unfold JA;refine sO λi r=>?_;simp[xO.1 r]};have:=f (Am6 d.n);rw[qB]at this;rw[e];unfold Ij yM;rw[d_];omega
section
variable{a:List Bool}
def UsI.pop{q:Nat}{todo:List Int}(h:UsI d (λ_=>False) a ((q:Int)::todo)):UsI d (·=q) a todo:=by refine⟨h.len,λx c=>h.td x (yD _ c),h.live,h.fin,λp e=>?_,by have:=h.room;simp only[U_]at this;omega⟩;rcases h.cl p e with b | b | b;{rcases J'.1 b with b | b;{exact .inr (.inl zO)};exact .inl b};{exact b.elim};exact .inr (.inr b)
def GN{p:Nat}(c:a[p]?=zY zU):(a.set p zW).count zU+1=a.count zU:=by induction a generalizing p with|nil=>cases c|cons b l d=>{cases p with|zero=>cases c;simp|succ p=>have:=d (p:=p) c;cases b<;>simp<;>omega}
def IG{p q:Nat}(h:a[q]?=zY zW):(a.set p zW)[q]?=zY zW:=by rw[vD];split;{rename_i e;subst e;rw[H_ (P_.1 h).1]};exact h
end
def UsI.push{Ex:Nat->Prop}{a:List Bool}{p q:Nat}{todo:List Int}(h:UsI d Ex a todo)(t:a[p]?=zY zU)(u:a[q]?=zY zW)(k:AhM d p q):UsI d Ex (a.set p zW) (todo++[(p:Int)]):=by
 have g:=(P_.1 t).1;have l:p<d.n:=by rw[<-h.len];exact g
 have f:(a.set p zW)[p]?=zY zW:=by rw[vD,H_ rfl,H_ g]
 refine⟨by rw[wM];exact h.len,λx c=>?_,λx c=>?_,λx c w=>IG (h.fin x c w),λx c=>?_,?_⟩;{rcases n_.1 c with c | c;{have⟨y,e,m⟩:=h.td x c;exact⟨y,e,IG m⟩};exact⟨p,Q_.1 c,f⟩};{rw[vD]at c;split at c;{rename_i e;subst e;have⟨b,z,e⟩:=k;exact .step l z (by rw[e];exact h.live q u)};exact h.live x c};{by_cases e:p=x;{subst e;exact .inl (List.mem_append_right _ (Q_.2 rfl))};rw[vD,G_ e]at c;rcases h.cl x c with j | j | j;{exact .inl (List.mem_append_left _ j)};{exact .inr (.inl j)};exact .inr (.inr λy m r=>IG (j y m r))};have:=h.room;have:=GN t;rw[M_,g_];omega
def UsI.shut{a:List Bool}{q:Nat}{todo:List Int}(h:UsI d (·=q) a todo)(hs:∀p:Nat,p<d.n->AhM d p q->a[p]?=zY zW):UsI d (λ_=>False) a todo:=by refine⟨h.len,h.td,h.live,h.fin,λx c=>?_,h.room⟩;rcases h.cl x c with b | b | b;{exact .inl b};{subst b;exact .inr (.inr hs)};exact .inr (.inr b)
noncomputable def TY(d:PA):List Bool:=(Am6 d.n).map d.use
def Ll:(TY d).length=d.n:=by simp[TY]
def IT{q:Nat}(h:q<d.n):(TY d)[q]?=zY (d.use q):=by unfold TY;rw[I',tD h];rfl
def UsI.done{a:List Bool}(h:UsI d (λ_=>False) a []):a=TY d:=by have f:∀q:Nat,d.Live q->a[q]?=zY zW:=by{intro q e;induction e with|fin g j=>exact h.fin _ g j|@step q b g j h3 ih=>{rcases h.cl _ ih with c | c | c;{cases c};{exact c.elim};exact c _ g ⟨b,j,rfl⟩}};apply wR;intro q;by_cases e:q<d.n;{rw[IT e];have⟨b,m⟩:=Ai (l:=a) (k:=q) (by rw[h.len];exact e);rw[m];congr 1;cases b with|true=>exact(PA.use_iff.2 (h.live q m)).symm|false=>{cases p:d.use q with|false=>rfl|true=>have:=f q (PA.use_iff.1 p);rw[m]at this;cases this}};rw[yR (by rw[h.len];omega),yR (by rw[Ll];omega)]
end
def cQ{o:Option AM}(r:Cc o)(hd:J6 o d){b:Nat}(m:q<d.n)(f:b<256):∃(k c:Nat) (s:BitVec 256),(Au o)[k]?=zY s/\(Bv (Au o))[k]?=zY c/\s.getLsbD b=zW/\d.st q c=d.st q b:=by have⟨w,g⟩:=r.ok;obtain⟨k,s,e,a,-⟩:=g.part b f;obtain⟨l,t,-,h,-⟩:=g.least _ s e;have j:=(g.keeps _ s l b e t f a).2 (q:Int) zO (by rw[hd.n];omega);refine⟨k,(AI s 0).1,s,e,by unfold Bv;rw[I',e];rfl,a,?_⟩;have p:=hd.st q (AI s 0).1 m (Ch s 0);have u:=hd.st q b m f;rw[h]at p ⊢;rw[p,u]at j;omega
def VP{cells:List (BitVec 256)}:∀b∈Bv cells,b<256:=λb a=>by
 unfold Bv at a;obtain⟨c,-,rfl⟩:=yT.1 a;exact Ch c 0
def Sp(cells:List (BitVec 256)):(Bv cells).length=cells.length:=by unfold Bv;rw[d_]
def AeE{o:Option AM}{ra:Option Addr}{rc:Nat}(hS:∀k,S k->k<H.size)(Y:AS S H va o)(hm:Cc o)(hd:J6 o d)(bw:d.Ok)(hr:c_ (Dc .u8) S H ra rc (yM (Bv (Au o)))):
  Am prog 167 #[va,.slice ra (Bv (Au o)).length rc] H λr H'=>A_ (F_ H) H H'/\h_ Cu none_ H' H.size 4 r (TY d):=by
 have hs:=hm.steps;have h1:=hs.n1;have h2:=hs.n2;have Z:(Bv (Au o)).length<=256:=by rw[Sp];exact F1 Y
 have K:=VP (cells:=Au o);have V:=fun{q b:Nat} (hq:q<d.n) (hb:b<256)=>cQ hm hd hq hb;generalize Bv (Au o)=reps at hr Z K V ⊢;have aj:=hd.n;rw[aj]at h1 h2;have ak:∀{G:Aa} {ps:List Pc},St H G ps->AS S G va o:=λst=>Y.frame (st.old.mono hS);refine Am.of_vc func167 rfl (call167 _) (Af (OI Y) λH2 bx=>?_);have am:=(St.nil H).call bx;rw[aj];refine EV CS rfl zO zO zO zO ?_;intro nb H3 bz c2 ao c3;rw[zG]at ao ⊢;have a0:=am.tabNew tI 3 bz c2 ao c3;rw[<-Yo (reps:=reps)]at a0;(conv=>whnf);refine AD.mk [22] (λq:Nat=>[B_ q]) (λq G=>q<=d.n/\∃vs,St H G [pT tI 3 181 nb vs (JC d reps q 0)]) (λq _=>d.n-q) ?_ ?_
 ·(conv=>whnf);exact⟨0,rfl,V_ _,_,a0⟩
 ·clear a0 am;rintro q H6 c4 ⟨hq,vs,U⟩;refine Av.m2 (λhz=>?_) (λhz=>?_)
  ·have ap:q<d.n:=zO
   (conv=>whnf);refine AD.mk [27] (λj:Nat=>[B_ j]) (λj G=>j<=reps.length/\∃vs,St H G [pT tI 3 181 nb vs (JC d reps q j)]) (λj _=>reps.length-j) ?_ ?_
   ·(conv=>whnf);exact⟨0,rfl,V_ _,_,U⟩
   ·clear U;rintro j H7 c5 ⟨hj,aq,z⟩;refine Av.m2 (λab=>?_) (λab=>?_)
    ·have⟨c,hc⟩:=Ai (l:=reps) (k:=j) zO;have ad:=K c (Y_ hc);have au:=bw.cl q c ap ad;refine I2 (i:=j) (x:=(c:Int)) Ct (hr.frame (z.old.mono hS)) (by unfold yM;rw[d_]) (by unfold yM;rw[I',hc];rfl) rfl ?_;rintro b8 o8 c8 da c6 ⟨rfl,db⟩;refine C_ c6.one zA (Af (BW (λk hk=>z.up (hS k hk)) (ak z) ad) λH8 c7=>?_);have A:=z.call c7;rw[hd.st q c ap ad];have B:=Lc (reps:=reps) (q:=q) (j:=j) au;have aw:=Pp (d:=d) (q:=q) (j:=j) (t:=d.st q c) Z;obtain⟨wa,wc,L,-⟩:=A.row 0 rfl B;have ay:aq.length=d.n:=by rw[(A.tab 0 rfl).len,IN]
     refine ix CS zO zO (C_ (A.tcell 0 rfl L (by rw[N_,yW,zG])) zA (Az AQ [B_ q] rfl rfl zQ zQ ?_));intro cd H12 M az N O;have P:=A.skip M O;refine Zab P 0 AQ rfl L B N ⟨rfl,JB ⟨zO,zO⟩⟩ rfl (by unfold yM;rw[d_];omega) zQ λdc de H13 mid=>?_;refine ix CS zO zO (jY mid (by rw[N_,yW,zG]) λH14 F=>?_);(conv=>whnf);rw[S_ j zO];rw[bJ hc au]at F;exact⟨rfl,j+1,rfl,⟨zO,_,F⟩,zO⟩
    ·obtain rfl:j=reps.length:=zO
     rw[Yn (I_ _)]at z;(conv=>whnf);rw[S_ q zO];exact⟨rfl,q+1,rfl,⟨zO,aq,z⟩,zO⟩
  ·obtain rfl:q=d.n:=zO
   refine EV DT rfl zO zO zO zO ?_;intro fb H7 ce cg b0 ch;rw[zG]at b0 ⊢;have ci:Cu.reps none_ H7 (AlY d.n (Value.bool zU)) (AlY d.n zU):=by
    have:=Pr (S:=none_) (H:=H7) (AlY d.n zU);rwa [List.map_replicate]at this
   have z:=((U.new (T:=Cu) (n:=d.n) (xs:=AlY d.n zU) ce cg (by simpa using b0) ch ci zZ (by unfold maxLen;omega)).nils zF 3);rw[<-X2]at z;clear U;(conv=>whnf);refine AD.mk [12,50] (λx:Nat×Option Addr×Nat=>match x with | (k,a,c)=>[.slice a (Ij d k).length c,B_ k]) (λx G=>match x with | (k,a,c)=>k<=d.n/\St H G [pT tI 3 181 nb vs (JC d reps d.n 0),pS Cu 4 (k_ fb) d.n d.n (JA d k),pS zF 3 a (Ij d k).length c (Ij d k)]) (λx _=>d.n-x.1) ?_ ?_
   ·(conv=>whnf);exact⟨(0,zV,0),rfl,V_ _,z⟩
   ·clear z;rintro⟨k,a8,c8⟩ H8 cj ⟨hk,A⟩;refine Av.m2 (λhz=>?_) (λhz=>?_)
    ·have b4:k<d.n:=zO
     refine AC.run (Af (BS (ak A)) λH9 ck=>?_);have w:=A.call ck;rw[hd.fi k b4];cases hf:d.fi k with
     | true=>
       refine ix DT zO zO ?_;refine oT (j:=k) (x:=zW) w 1 rfl rfl zO (by rw[F6];omega) rfl (λH' _=>rfl) λH10 g=>?_;rw[Zr b4 hf]at g;refine Az AQ [B_ k] rfl rfl zQ zQ ?_;intro cd H12 M az N O;have P:=g.skip M O;have ay:=bP (d:=d) k;refine Ip (x:=(k:Int)) P 2 AQ rfl N ⟨rfl,JB ⟨zO,zO⟩⟩ rfl zO zQ λcm b5 H13 W _=>?_;(conv=>whnf);rw[S_ k zO];have el:(Ij d k).length+1=(Ij d (k+1)).length:=by rw[Qo hf];simp
       rw[el,<-Qo hf]at W;exact⟨rfl,(k+1,cm,b5),by rw[el];rfl,⟨zO,W⟩,by simp only;omega⟩
     | false=>
       (conv=>whnf);rw[S_ k zO];rw[X1 hf,<-Qp hf]at w;exact⟨rfl,(k+1,a8,c8),by rw[<-Qp hf];rfl,⟨zO,w⟩,by simp only;omega⟩
    ·obtain rfl:k=d.n:=zO
     have w:=A.toQ 2 rfl;clear A;(conv=>whnf);refine AD.mk [12] (λx:List Bool×List Int×Option Addr×Nat=>match x with | (_,todo,a,c)=>[.slice a todo.length c]) (λx G=>match x with | (m,todo,a,c)=>UsI d (λ_=>False) m todo/\St H G [pT tI 3 181 nb vs (JC d reps d.n 0),pS Cu 4 (k_ fb) d.n d.n m,pQ zF 3 a todo.length c todo]) (λx _=>x.2.1.length+2*x.1.count zU) ?_ ?_
     ·(conv=>whnf);exact⟨(JA d d.n,Ij d d.n,a8,c8),rfl,UsI.start d,w⟩
     ·clear w;rintro⟨m,todo,a9,c9⟩ H9 co ⟨hI,w⟩;refine Av.m2 (λhz=>?_) (λhz=>?_)
      ·cases todo with
       | nil=>simp at hz
       | cons x todo=>
       obtain⟨q,rfl,b6⟩:=hI.td x zZ;have cp:q<d.n:=by have:=(P_.1 b6).1;rwa [hI.len]at this
       obtain⟨-,cq⟩:=w.qview 2 rfl;refine zP (i:=0) (x:=(q:Int)) AQ cq rfl rfl ?_;rintro df dg b7 d6 b9 ⟨rfl,-⟩;refine C_ b9.one zA (pX w 2 AQ rfl λcr b7 g=>?_);have B:=Lc (reps:=reps) (q:=d.n) (j:=0) cp;have aw:=Pp (d:=d) (q:=d.n) (j:=0) (t:=q) Z;have⟨wa,wc,L,dh⟩:=g.row 0 rfl B;have ay:vs.length=d.n:=by rw[(g.tab 0 rfl).len,IN]
       refine ix CS zO zO (C_ (g.tcell 0 rfl L (by rw[N_,yW,zG])) zA ?_);obtain⟨row,Q⟩:∃row,row=EY d reps d.n 0 q:=⟨_,rfl⟩;have bd:(yM (EY d reps d.n 0 q)).length=row.length:=by unfold yM;rw[d_,Q]
       rw[bd];have di:row.length<=d.n*256+256:=by rw[Q];exact aw
       have hM:todo.length+2*m.count zU<((q:Int)::todo).length+2*m.count zU:=by simp only[U_];omega
       (conv=>whnf);refine AD.mk [12,77] (λx:Nat×List Bool×List Int×Option Addr×Nat=>match x with | (k,_,todo,a,c)=>[.slice a todo.length c,B_ k]) (λx G=>match x with | (k,outs',todo',a,c)=>k<=row.length/\UsI d (·=q) outs' todo'/\outs'[q]?=zY zW/\(∀R p:Nat,R<k->row[R]?=zY p->outs'[p]?=zY zW)/\todo'.length+2*outs'.count zU<=todo.length+2*m.count zU/\St H G [pT tI 3 181 nb vs (JC d reps d.n 0),pS Cu 4 (k_ fb) d.n d.n outs',pQ zF 3 a todo'.length c todo']) (λx _=>row.length-x.1) ?_ ?_
       ·(conv=>whnf);exact⟨(0,m,todo,cr,b7),rfl,V_ _,hI.pop,b6,λR p h=>absurd h zO,I_ _,g⟩
       ·clear w g;rintro⟨k,y,f,be,bf⟩ H11 bv ⟨hk,J,ae,D,bh,C⟩;have ct:f.length+2*y.count zU<((q:Int)::todo).length+2*m.count zU:=Nat.lt_of_le_of_lt bh hM;refine Av.m2 (λab=>?_) (λab=>?_)
        ·have⟨p,hp⟩:=Ai (l:=row) (k:=k) zO;have ah:p∈EY d reps d.n 0 q:=by rw[<-Q];exact Y_ hp
         have⟨cu,r,cw,cx⟩:=SS.1 ah;have⟨dj,dk,I,bj⟩:=C.row 0 rfl B;rw[L]at I;injection I with I
         injection I with e1 _ e2
         subst e1;subst e2;refine AC.run ?_;refine I2 (i:=k) (x:=(p:Int)) AQ bj bd.symm (by rw[<-Q];unfold yM;rw[I',hp];rfl) rfl ?_;rintro dl dm dp d7 bn ⟨rfl,-⟩;refine lT bn.one ?_;have⟨u,hu⟩:=Ai (l:=y) (k:=p) (by rw[J.len];exact cu);refine xM (j:=p) DT C 1 rfl hu rfl ?_;rintro dq dr b5 d8 bo rfl;refine lT bo.one ?_;cases u with
         | false=>
           refine ix DT zO zO ?_;refine oT (j:=p) (x:=zW) C 1 rfl rfl zO (by rw[J.len];omega) rfl (λH' _=>rfl) λH14 F=>?_;refine Az AQ [B_ p] rfl rfl zQ zQ ?_;intro dt H15 bp d9 bq br;have bu:=F.skip bp br;have cy:=J.room;refine pU (ys:=[(p:Int)]) (ds:=[B_ p]) bu 2 AQ rfl (bq.cells λj v hv=>by rw[N_];exact hv) (Ty.reps_one ⟨rfl,JB ⟨zO,zO⟩⟩) rfl (by simp[Value.oneCell']) (by simp only[g_,maxLen];omega) (by simp only[g_];omega) λcz d0 H16 X _=>?_;(conv=>whnf);rw[S_ k zO];have du:=GN hu;have d1:=J.push hu ae ⟨r,K r cw,cx⟩;have el:f.length+[(p:Int)].length=(f++[(p:Int)]).length:=zZ
           rw[el]at X;refine⟨rfl,(k+1,y.set p zW,f++[(p:Int)],cz,d0),by rw[el];rfl,⟨zO,d1,IG ae,λR p' d2 E=>?_,by rw[<-el];simp only[g_];omega,X⟩,by simp only;omega⟩;by_cases e:R=k
           ·subst e;rw[hp]at E;cases E;rw[vD,H_ rfl,H_ (P_.1 hu).1]
           ·exact IG (D R p' zO E)
         | true=>
           (conv=>whnf);rw[S_ k zO];refine⟨rfl,(k+1,y,f,be,bf),rfl,⟨zO,J,ae,λR p' d2 E=>?_,bh,C⟩,by simp only;omega⟩;by_cases e:R=k
           ·subst e;rw[hp]at E;cases E;exact hu
           ·exact D R p' zO E
        ·obtain rfl:k=row.length:=zO
         (conv=>whnf);refine⟨rfl,(y,f,be,bf),rfl,⟨J.shut λp hp d3=>?_,C⟩,ct⟩;have⟨b,hb,e⟩:=d3;obtain⟨R,c,s,-,d4,-,d5⟩:=V hp hb;have ah:p∈row:=by rw[Q];exact SS.2 ⟨hp,c,Y_ d4,d5.trans e⟩
         have⟨i,hi⟩:=xB ah;exact D i p (P_.1 hi).1 hi
      ·have:todo=[]:=by
        cases todo with
        | nil=>rfl
        | cons x t=>simp only[U_]at hz;omega
       subst this;have ai:=hI.done;subst ai;(conv=>whnf);have:=St.own w 1 rfl;rw[<-Ll (d:=d)]at this;exact⟨w.old,by rw[<-Ll (d:=d)];exact this⟩
noncomputable def KR(d:PA)(k:Nat):List Int:=(Am6 d.n).map λi=>if i<k/\d.use i=zW then(d.place i:Int)else 0
def IS(d:PA)(cells:List (BitVec 256))(reps:List Nat)(q k t:Nat):BitVec 256:=(Am6 k).foldl (λacc i=>if d.st q (reps.getD i 0)=t then acc ||| cells.getD i 0#256 else acc) 0#256
def OR(d:PA)(cells:List (BitVec 256))(reps:List Nat)(q k:Nat):List (BitVec 256):=(Am6 d.n).map λt=>IS d cells reps q k t
def KS:(KR d k).length=d.n:=by simp[KR]
def XP:KR d 0=AlY d.n 0:=by unfold KR;rw[nX];refine⟨zZ,λb a=>?_⟩;obtain⟨i,-,rfl⟩:=yT.1 a;simp
def Ot{i:Nat}(h:i<d.n):(KR d k)[i]?=zY (if i<k/\d.use i=zW then(d.place i:Int)else 0):=by unfold KR;rw[I',tD h];rfl
def cL(h:k<d.n)(c:d.use k=zW):(KR d k).set k (d.place k:Int)=KR d (k+1):=by apply wR;intro i;by_cases b:i<d.n;{rw[vD,Ot b,Ot b,KS];by_cases e:k=i;{subst e;rw[H_ rfl,H_ b,H_ ⟨zO,c⟩]};rw[G_ e];congr 1;by_cases a:i<k/\d.use i=zW;{rw[H_ a,H_ ⟨zO,a.2⟩]};rw[G_ a,G_ (λf=>a ⟨zO,f.2⟩)]};rw[yR (by rw[wM,KS];omega),yR (by rw[KS];omega)]
def XO(b:d.use k=zU):KR d k=KR d (k+1):=by unfold KR;refine sO λi _=>?_;by_cases e:i=k;{subst e;rw[G_ (by simp[b]),G_ (by simp[b])]};by_cases a:i<k/\d.use i=zW;{rw[H_ a,H_ ⟨zO,a.2⟩]};rw[G_ a,G_ (λc=>a ⟨zO,c.2⟩)]
def Oq{i:Nat}(h:i<d.n)(a:d.use i=zW):(KR d d.n)[i]?=zY (d.place i:Int):=by rw[Ot h,H_ ⟨h,a⟩]
section
variable{cells:List (BitVec 256)}{reps:List Nat}
def IR:(OR d cells reps q k).length=d.n:=by simp[OR]
def Yu:OR d cells reps q 0=AlY d.n 0#256:=by unfold OR;rw[nX];refine⟨zZ,λb a=>?_⟩;obtain⟨i,-,rfl⟩:=yT.1 a;rfl
def Lk{i:Nat}(h:i<d.n):(OR d cells reps q k)[i]?=zY (IS d cells reps q k i):=by unfold OR;rw[I',tD h];rfl
def Yv{t:Nat}{s:BitVec 256}(a:reps[k]?=zY c)(hs:cells[k]?=zY s):IS d cells reps q (k+1) t=if d.st q c=t then IS d cells reps q k t ||| s else IS d cells reps q k t:=by unfold IS;rw[wS,wE];simp only[List.foldl_cons,List.foldl_nil,yV,a,hs,Option.getD_some]
def bS{s:BitVec 256}(b:reps[k]?=zY c)(hs:cells[k]?=zY s)(f:d.st q c<d.n):(OR d cells reps q k).set (d.st q c) (IS d cells reps q k (d.st q c) ||| s)=OR d cells reps q (k+1):=by apply wR;intro i;by_cases a:i<d.n;{rw[vD,Lk a,Lk a,IR,Yv b hs];by_cases e:d.st q c=i;{subst e;rw[H_ rfl,H_ a,H_ rfl]};rw[G_ e,G_ e]};rw[yR (by rw[wM,IR];omega),yR (by rw[IR];omega)]
def bT{t:Nat}{b:Nat}:(IS d cells reps q k t).getLsbD b=zW↔∃i,i<k/\d.st q (reps.getD i 0)=t/\(cells.getD i 0#256).getLsbD b=zW:=by induction k with|zero=>simp[IS]|succ k g=>have e:IS d cells reps q (k+1) t=if d.st q (reps.getD k 0)=t then IS d cells reps q k t ||| cells.getD k 0#256 else IS d cells reps q k t:=by{unfold IS;rw[wS,wE];rfl};rw[e];by_cases h:d.st q (reps.getD k 0)=t;{rw[H_ h,BitVec.getLsbD_or,Bool.or_eq_true,g];constructor;{rintro(⟨i,c,a⟩ | c);{exact⟨i,zO,a⟩};exact⟨k,zO,h,c⟩};rintro⟨i,c,a,f⟩;by_cases e:i=k;{subst e;exact .inr f};exact .inl ⟨i,zO,a,f⟩};rw[G_ h,g];constructor;{rintro⟨i,c,a⟩;exact⟨i,zO,a⟩};rintro⟨i,c,a,f⟩;by_cases e:i=k;{subst e;exact absurd a h};exact⟨i,zO,a,f⟩
end
def bU{t:Nat}{o:Option AM}(u:Cc o)(hd:J6 o d)(p:q<d.n):IS d (Au o) (Bv (Au o)) q (Au o).length t=d.set q t:=by have⟨x,j⟩:=u.ok;have c:∀(i:Nat) (s:BitVec 256) (b:Nat),(Au o)[i]?=zY s->b<256->s.getLsbD b=zW->d.st q ((Bv (Au o)).getD i 0)=d.st q b:=by{intro i s b hs f a;obtain⟨l,w,-,k,-⟩:=j.least _ s hs;have m:=(j.keeps _ s l b hs w f a).2 (q:Int) zO (by rw[hd.n];omega);have e:(Bv (Au o)).getD i 0=(AI s 0).1:=by{unfold Bv;rw[yV,I',hs];rfl};have h:=hd.st q (AI s 0).1 p (Ch s 0);have g:=hd.st q b p f;rw[e];rw[k]at h ⊢;rw[h,g]at m;omega};refine rC λb f=>?_;rw[Bool.eq_iff_iff,bT,PA.set_bit];constructor;{rintro⟨i,h,g,r⟩;have⟨s,hs⟩:=Ai h;rw[yV,hs]at r;exact⟨f,by rw[<-c i s b hs f r];exact g⟩};rintro⟨-,g⟩;obtain⟨i,s,hs,a,-⟩:=j.part b f;exact⟨i,(P_.1 hs).1,by rw[c i s b hs f a];exact g,by rw[yV,hs];exact a⟩
def I0{t:Nat}:d.hopsTo q (t+1)=d.hopsTo q t++if(d.use t&&(d.set q t != 0#256))=zW then [Du (d.place q) (d.place t) (d.set q t)]else []:=by unfold PA.hopsTo;rw[wS,List.filterMap_append];congr 1;by_cases h:(d.use t&&(d.set q t != 0#256))=zW;{simp only[nY,dW,H_ h]};simp only[nY,dW,G_ h]
def Hn:d.edgesTo (q+1)=d.edgesTo q++if d.use q=zW then d.hopsTo q d.n++d.endE q else []:=by unfold PA.edgesTo;rw[wS,tF];simp
def XG{n:Nat}{i:Nat}{v:v_}(h:(AlY n (Value.int .i64 0))[i]?=zY v):v= .int .i64 0:=by rw[tR]at h;split at h;{exact(AqI.inj h).symm};cases h
noncomputable abbrev qK(y x pb:Nat)(ca:Option Addr)(cc:Nat)(a4:Option Addr)(c4:Nat)(ua:Option Addr)(uc:Nat)(o:Option AM)(d:PA)(ea:Option Addr)(ec:Nat)(es:List U')(rest:List Pc):List Pc:=pB 225 y [B_ 0,B_ 0,B_ 0,.slice zV 0 0]::pS Co 65 ca (Au o).length cc (Au o)::pS (Dc .u8) 5 a4 (yM (Bv (Au o))).length c4 (yM (Bv (Au o)))::pS Cu 4 ua d.n uc (TY d)::pS tI 3 (k_ pb) d.n d.n (KR d d.n)::pB 225 x [B_ ((d.count:Int)+1),B_ 0,B_ (d.count:Int),.slice ea es.length ec]::pS yB 277 ea es.length ec es::rest
def YX{e:x_}{b n cap j:Nat}{xs:List Int}{x:Int}(a:D_ B H0 H ps)(i:Nat)(c:ps[i]?=zY (pS tI e (k_ b) n cap xs))(d:xs[j]?=zY x):YtjbnocjgdmnkoaaGreatDoor.cell H b (0+((j:Nat):Int).toNat*1)=zY (.int .i64 x):=by obtain⟨g,f,rfl,-⟩:=a.cellsE i c d;rw[N_,zG];exact f.one
def ZM{o:Option AM}(hS:∀k,S k->k<H.size)(bu:AS S H va o)(hm:Cc o)(hd:J6 o d)(b9:d.Ok)(e6:d.n<=4096):
  Am prog 135 #[va] H λr H'=>A_ (F_ H) H H'/\∃Q R,r= .agg (yG (Bo d) (.slice Q (Bo d).edges.length R)).toArray/\h_ yB none_ H' H.size 277 (.slice Q (Bo d).edges.length R) (Bo d).edges:=by
 have hs:=hm.steps;have e7:=hd.n;have bv:=b9.pos;have e8:(Au o).length<=256:=F1 bu;have au:=Sp (Au o);have bw:=VP (cells:=Au o);have aw:∀{G:Aa} {ps:List Pc},St H G ps->AS S G va o:=λst=>bu.frame (st.old.mono hS);refine Am.of_vc func135 rfl (call135 _) (BO (St.nil H) _ [B_ 0,B_ 0,B_ 0,.slice zV 0 0] EZ rfl λy H1 st1=>(An.mk (Jb (λk A=>st1.up (hS k A)) (aw st1)) ?_));rintro _ H2 ⟨d7,-,d8⟩;obtain⟨ca,cc,rfl,bx⟩:=st1.got d7 d8;have bz:=bx.nils (Dc .u8) 5;clear bx st1;(conv=>whnf);refine AD.mk [4,27] (λx:Nat×Option Addr×Nat=>match x with | (k,a,c)=>[.slice a (yM ((Bv (Au o)).take k)).length c,B_ k]) (λx G=>match x with | (k,a,c)=>k<=(Au o).length/\St H G [pB 225 y [B_ 0,B_ 0,B_ 0,.slice zV 0 0],pS Co 65 ca (Au o).length cc (Au o),pS (Dc .u8) 5 a (yM ((Bv (Au o)).take k)).length c (yM ((Bv (Au o)).take k))]) (λx _=>(Au o).length-x.1) ?_ ?_
 ·(conv=>whnf);exact⟨(0,zV,0),rfl,V_ _,bz⟩
 ·clear bz;rintro⟨k,a4,c4⟩ H4 d9 ⟨A,N⟩;refine Av.m2 (λhz=>?_) (λhz=>?_)
  ·have⟨c,hc⟩:=Ai (l:=Au o) (k:=k) zO;have ab:(Bv (Au o))[k]?=zY (AI c 0).1:=by unfold Bv;rw[I',hc];rfl
   have e9:=Ch c 0;have eb:(yM ((Bv (Au o)).take k)).length=k:=by unfold yM;rw[d_,List.length_take,au];omega
   refine xM (j:=k) Cj N 1 rfl hc rfl ?_;rintro b8 o8 c8 da bd rfl;refine K_ (cs:=Ag c) bd zA (Aq (AX 0) (Ag 0) rfl rfl ?_);intro sx H5 be db dc bf;have U:=N.box be db dc bf;refine AB (cs:=Ag c) U 3 rfl rfl (I_ _) rfl λH6 F=>?_;rw[AA (show(Ag c).length=(Ag 0).length from rfl)]at F;refine K_ (cs:=Ag c) ((F.blk 3 rfl).cells λj v V=>by rw[N_];exact V) zA ?_;refine Af (Kk c 0 zQ H6) λH7 de=>?_;have O:=F.call de;refine Az Ct [.int .u8 ((AI c 0).1:Int)] rfl rfl zQ zQ ?_;intro q8 H8 df ed dg dh;have W:=O.skip df dh;refine Ip (x:=((AI c 0).1:Int)) W 2 Ct rfl dg ⟨rfl,⟨by show(0:Int)<=((AI c 0).1:Int);omega,by show((AI c 0).1:Int)<=(255:Int);omega⟩⟩ rfl zO zQ λa9 c9 H9 ad _=>?_;(conv=>whnf);rw[S_ k zO];have ae:yM ((Bv (Au o)).take k)++[((AI c 0).1:Int)]=yM ((Bv (Au o)).take (k+1)):=by
    rw[Aj ab];unfold yM;rw[xV];rfl
   have el:(yM ((Bv (Au o)).take k)).length+1=(yM ((Bv (Au o)).take (k+1))).length:=by rw[<-ae];simp
   rw[el,ae]at ad;have Y:=ad.pick [0,1,2] zQ;exact⟨rfl,(k+1,a9,c9),by rw[el];rfl,⟨zO,Y⟩,by simp only;omega⟩
  ·obtain rfl:k=(Au o).length:=zO
   rw[tU (by rw[au];exact I_ _)]at N ⊢;have c2:(yM (Bv (Au o))).length=(Bv (Au o)).length:=by unfold yM;rw[d_]
   have c3:=AeE (ra:=a4) (rc:=c4) (λk A=>A) ((aw N).mono λk A=>N.up (hS k A)) hm hd b9 (N.view 2 rfl);rw[<-c2]at c3;refine An.mk c3 ?_;rintro _ H5 ⟨bf,di⟩;obtain⟨ua,uc,rfl,U⟩:=N.got bf di;clear N;have dj:=IT (d:=d) (q:=0) bv;refine xM (j:=0) DT U 3 rfl dj rfl ?_;rintro b6 o6 c6 ee dk rfl;refine lT dk.one ?_;cases b0:d.use 0 with
   | false=>
     refine Ad underlying225 rfl _ EZ [B_ 2,B_ 0,B_ 1,.slice zV 0 0] zX (AB (cs:=[B_ 2,B_ 0,B_ 1,.slice zV 0 0]) U 0 rfl rfl (I_ _) rfl λH6 F=>?_);refine K_ (cs:=[B_ 2,B_ 0,B_ 1,.slice zV 0 0]) ((F.blk 0 rfl).cells λj v V=>by rw[N_];exact V) zA ?_;(conv=>whnf);have e:Bo d=⟨2,0,1,[]⟩:=by unfold Bo;rw[G_ (by rw[b0];decide)]
     rw[e];exact⟨F.old,zV,0,rfl,h_.nil⟩
   | true=>
   have eL:Bo d=⟨d.count+1,0,d.count,d.edgesTo d.n⟩:=by unfold Bo;rw[H_ b0]
   have ef:=PA.count_le (d:=d);rw[eL];have c5:=Ll (d:=d);rw[c5];rw[c5]at U;refine EV AQ rfl zO zO zO zO ?_;intro pb H6 dl dm c7 dp;rw[zG]at c7 ⊢;have dq:tI.reps none_ H6 (AlY d.n (Value.int .i64 0)) (AlY d.n 0):=by
    refine Ej zZ λi v x h1 h2=>?_;rw[XG h1];rw[tR]at h2;split at h2
    ·cases h2;exact⟨rfl,JB ⟨zO,zO⟩⟩
    ·cases h2
   have F:=U.new (T:=tI) (n:=d.n) (xs:=AlY d.n 0) dl dm (by simpa using c7) dp dq zZ (by unfold maxLen;omega);rw[<-XP]at F;clear U;(conv=>whnf);refine AD.mk [11,54] (λk:Nat=>[B_ (d.place k:Int),B_ k]) (λk G=>k<=d.n/\St H G [pB 225 y [B_ 0,B_ 0,B_ 0,.slice zV 0 0],pS Co 65 ca (Au o).length cc (Au o),pS (Dc .u8) 5 a4 (yM (Bv (Au o))).length c4 (yM (Bv (Au o))),pS Cu 4 ua d.n uc (TY d),pS tI 3 (k_ pb) d.n d.n (KR d k)]) (λk _=>d.n-k) ?_ ?_
   ·(conv=>whnf);exact⟨0,rfl,V_ _,F⟩
   ·clear F;rintro k H7 dr ⟨A,O⟩;refine Av.m2 (λhz=>?_) (λhz=>?_)
    ·have cd:k<d.n:=zO
     have eg:=PA.place_le (d:=d) k;refine AC.run (xM (j:=k) DT O 3 rfl (IT cd) rfl ?_);rintro b8 o8 c8 da bd rfl;refine lT bd.one ?_;have ay:=PA.place_succ (d:=d) k;cases Z:d.use k with
     | true=>
       rw[Z,H_ rfl]at ay;refine ix AQ zO zO ?_;refine oT (j:=k) (x:=(d.place k:Int)) O 4 rfl rfl zO (by rw[KS];omega) rfl (λH' _=>⟨rfl,JB ⟨zO,zO⟩⟩) λH8 W=>?_;rw[cL cd Z]at W;(conv=>whnf);rw[m_ (x:=(d.place k:Int)+1) zO];(conv=>whnf);rw[S_ k zO];exact⟨rfl,k+1,by rw[ay];rfl,⟨zO,W⟩,zO⟩
     | false=>
       rw[Z,G_ zQ]at ay;(conv=>whnf);rw[S_ k zO];rw[XO Z]at O;exact⟨rfl,k+1,by rw[ay];rfl,⟨zO,O⟩,zO⟩
    ·obtain rfl:k=d.n:=zO
     have dt:d.place d.n=d.count:=rfl;rw[dt];(conv=>whnf);rw[m_ (x:=(d.count:Int)+1) zO];refine Ad underlying225 rfl _ EZ [B_ ((d.count:Int)+1),B_ 0,B_ (d.count:Int),.slice zV 0 0] zX (BO O _ [B_ 0,B_ 0,B_ 0,.slice zV 0 0] EZ rfl λx H8 W=>?_);clear O;refine AB (cs:=[B_ ((d.count:Int)+1),B_ 0,B_ (d.count:Int),.slice zV 0 0]) W 5 rfl rfl (I_ _) rfl λH9 ad=>?_;have Y:=ad.nils yB 277;clear W ad;(conv=>whnf);refine AD.mk [73] (λq:Nat=>[B_ q]) (λq G=>q<=d.n/\∃Q R,St H G (qK y x pb ca cc a4 c4 ua uc o d Q R (d.edgesTo q) [])) (λq _=>d.n-q) ?_ ?_
     ·(conv=>whnf);exact⟨0,rfl,V_ _,zV,0,Y⟩
     ·clear Y;rintro q H11 d4 ⟨hq,Q,R,B⟩;refine Av.m2 (λdu=>?_) (λdu=>?_)
      ·have X:q<d.n:=zO
       have ce:=PA.place_le (d:=d) q;have eh:=PA.edges_place d q;refine AC.run (xM (j:=q) DT B 3 rfl (IT X) rfl ?_);rintro ei ej ek dz cg rfl;refine lT cg.one ?_;cases Z:d.use q with
       | false=>
         (conv=>whnf);rw[S_ q zO];have e1:d.edgesTo (q+1)=d.edgesTo q:=by rw[Hn,G_ (by rw[Z];decide),xZ]
         rw[<-e1]at B;exact⟨rfl,q+1,rfl,⟨zO,Q,R,B⟩,zO⟩
       | true=>
       refine AkC (T:=Co) (S:=none_) (H:=H11) (v:=0#256) Cj rfl zO rfl zO zO ?_;intro tb H12 dv ch b4 ci;rw[zG]at b4 ⊢;have w:=B.new (T:=Co) (n:=d.n) (xs:=AlY d.n 0#256) dv ch b4 ci (IB rfl d.n) zZ (by unfold maxLen;omega);rw[<-Yu (cells:=Au o) (reps:=Bv (Au o)) (q:=q)]at w;clear B;have en:(yM (Bv (Au o))).length=(Au o).length:=by rw[c2,au]
       (conv=>whnf);refine AD.mk [85] (λk:Nat=>[B_ k]) (λk G=>k<=(Au o).length/\St H G (qK y x pb ca cc a4 c4 ua uc o d Q R (d.edgesTo q) [pS Co 65 (k_ tb) d.n d.n (OR d (Au o) (Bv (Au o)) q k)])) (λk _=>(Au o).length-k) ?_ ?_
       ·(conv=>whnf);exact⟨0,rfl,V_ _,w⟩
       ·clear w;rintro k H13 d5 ⟨A,C⟩;refine Av.m2 (λdw=>?_) (λdw=>?_)
        ·have cj:k<(Au o).length:=zO
         have⟨s,ck⟩:=Ai cj;have⟨c,bh⟩:=Ai (l:=Bv (Au o)) (k:=k) (by rw[au];exact cj);have ab:=bw c (Y_ bh);have bj:=b9.cl q c X ab;refine xM (j:=k) (x:=(c:Int)) Ct C 2 rfl (by unfold yM;rw[I',bh];rfl) rfl ?_;rintro eo ep eu e3 cm ⟨rfl,-⟩;refine C_ cm.one zA (Af (BW (λk A=>C.up (hS k A)) (aw C) ab) λH14 co=>?_);have I:=C.call co;rw[hd.st q c X ab];refine Ap.heldZ (F_ H14) [12] (sq [0,1,2,3,4,5,6,7,8,9] (.f 10 (sq [11] (.f 12 .e)))) rfl zX (xM (j:=d.st q c) Cj I 7 rfl (Lk bj) rfl ?_);rintro ev ew ey cp cq rfl;refine K_ (cs:=Ag (IS d (Au o) (Bv (Au o)) q k (d.st q c))) cq cp (xM (j:=k) Cj I 1 rfl ck rfl ?_);rintro ez fb fd cr ct rfl;refine K_ (cs:=Ag s) ct cr (Af (Jv _ _ H14) λH15 b5=>?_);have cu:=I.call b5;refine⟨b5,?_⟩;refine ix Cj zO zO ?_;refine jX (j:=d.st q c) (x:=IS d (Au o) (Bv (Au o)) q k (d.st q c) ||| s) (cs:=Ag (IS d (Au o) (Bv (Au o)) q k (d.st q c) ||| s)) cu 7 rfl rfl (by rw[N_,zG];rfl) (by rw[IR];exact bj) rfl (λH' _=>rfl) λH16 b7=>?_;rw[bS bh ck bj]at b7;(conv=>whnf);rw[S_ k zO];exact⟨rfl,k+1,rfl,⟨zO,b7⟩,zO⟩
        ·obtain rfl:k=(Au o).length:=zO
         have cw:∀t,t<d.n->(OR d (Au o) (Bv (Au o)) q (Au o).length)[t]?=zY (d.set q t):=λt ht=>by
          rw[Lk ht,bU hm hd X]
         have hull:=IR (d:=d) (cells:=Au o) (reps:=Bv (Au o)) (q:=q) (k:=(Au o).length);obtain⟨us,cx⟩:∃us,us=OR d (Au o) (Bv (Au o)) q (Au o).length:=⟨_,rfl⟩;rw[<-cx]at cw hull C;have I:St H H13 (qK y x pb ca cc a4 c4 ua uc o d Q R (d.edgesTo q++d.hopsTo q 0) [pS Co 65 (k_ tb) d.n d.n us]):=by
          have e0:d.edgesTo q++d.hopsTo q 0=d.edgesTo q:=xZ _;rw[e0];exact C
         clear C;(conv=>whnf);refine AD.mk [109] (λt:Nat=>[B_ t]) (λt G=>t<=d.n/\∃Q R,St H G (qK y x pb ca cc a4 c4 ua uc o d Q R (d.edgesTo q++d.hopsTo q t) [pS Co 65 (k_ tb) d.n d.n us])) (λt _=>d.n-t) ?_ ?_
         ·(conv=>whnf);exact⟨0,rfl,V_ _,Q,R,I⟩
         ·clear I;rintro t H17 d6 ⟨ht,J,K,D⟩;refine Av.m2 (λdx=>?_) (λdx=>?_)
          ·have bn:t<d.n:=zO
           have dy:=PA.hops_len d q t;have fe:=PA.place_le (d:=d) t;refine AC.run (xM (j:=t) Cj D 7 rfl (cw t bn) rfl ?_);rintro fg fh fj e4 cy rfl;refine K_ (cs:=Ag (d.set q t)) cy zA (Aq (AX 0) (Ag 0) rfl rfl ?_);intro sx H18 be cz d0 ah;have m:=D.box be cz d0 ah;refine AB (cs:=Ag (d.set q t)) m 8 rfl rfl (I_ _) rfl λH19 g=>?_;rw[AA (show(Ag (d.set q t)).length=(Ag 0).length from rfl)]at g;clear D m;refine xM (j:=t) DT g 3 rfl (IT bn) rfl ?_;rintro fk fm fo e5 d1 rfl;refine lT d1.one ?_;cases bo:d.use t with
           | false=>
             have e1:d.hopsTo q (t+1)=d.hopsTo q t:=by rw[I0,bo];simp
             (conv=>whnf);rw[S_ t zO];rw[<-e1]at g;exact⟨rfl,t+1,rfl,⟨zO,J,K,g.pick [0,1,2,3,4,5,6,7] zQ⟩,zO⟩
           | true=>
           refine K_ (cs:=Ag (d.set q t)) ((g.blk 8 rfl).cells λj v V=>by rw[N_];exact V) zA ?_;refine Em De (AX 0) rfl (Ag 0) rfl (No (d.set q t) 0#256 ?_);by_cases az:d.set q t=0#256
           ·have dd:zT (d.set q t=0#256)=zW:=a_ az;rw[dd];have e1:d.hopsTo q (t+1)=d.hopsTo q t:=by rw[I0,az];simp
            (conv=>whnf);rw[S_ t zO];rw[<-e1]at g;exact⟨rfl,t+1,rfl,⟨zO,J,K,g.pick [0,1,2,3,4,5,6,7] zQ⟩,zO⟩
           ·have dd:zT (d.set q t=0#256)=zU:=b_ az;rw[dd];have e1:d.hopsTo q (t+1)=d.hopsTo q t++[Du (d.place q) (d.place t) (d.set q t)]:=by
             rw[I0,H_];rw[bo,Bool.true_and,bne_iff_ne];exact az
            obtain⟨M,L⟩:∃M,M=d.edgesTo q++d.hopsTo q t:=⟨_,rfl⟩;have d2:M.length<=1056768:=by rw[L,M_];have:=pO 257 (V' ce (zO:q<=4096));omega
            have a8:∀i,i<9->i≠6->∀b p,(qK y x pb ca cc a4 c4 ua uc o d J K (M) [pS Co 65 (k_ tb) d.n d.n us,pB 65 sx (Ag (d.set q t))]:List Pc)[i]?=zY p->p.foot b->b<H19.size/\¬R_ (.slice J M.length K) b:=λi _ h6 b p hp hb=>by
             rw[L]at hp ⊢;exact⟨(g.in_ i hp hb).2,λh=>g.apart2 (i:=i) (j:=6) hp rfl h6 b hb (.inl h)⟩
            rw[<-L]at g;have ai:=a8 5 zQ zQ x _ rfl rfl;have a0:=a8 4 zQ zQ pb _ rfl (.inl ⟨0,_,_,rfl⟩);have bp:=a8 8 zQ zQ sx _ rfl rfl;refine Ap.heldZ (λk2=>k2<H19.size/\¬R_ (.slice J M.length K) k2) [15] (sq [0,1,2,3,4,5,6,7,8,9,10,11] (.f 12 (.f 13 (sq [14] (.f 15 .e))))) rfl zX (fa ?_);refine C_ ((g.blk 5 rfl).cellE rfl) ai (ix AQ zO zO (C_ (v:=B_ (d.place q:Int)) (YX g 4 rfl (Oq X Z)) a0 (ix AQ zO zO (C_ (v:=B_ (d.place t:Int)) (YX g 4 rfl (Oq bn bo)) a0 ?_))));refine K_ (cs:=Ag (d.set q t)) ((g.blk 8 rfl).cells λj v V=>by rw[N_];exact V) bp ?_;refine Qa (d.place q) (d.place t) (d.set q t) (Az EO (zN (Du (d.place q) (d.place t) (d.set q t))) rfl rfl zQ zQ ?_);intro z H20 aj d3 ak E;have am:=g.skip aj E;refine⟨E.mono λk A=>by have:=A.1;omega,?_⟩;refine JP (ys:=[Du (d.place q) (d.place t) (d.set q t)]) am 6 EO rfl (ak.cells (o:=0) (cs:=zN (Du (d.place q) (d.place t) (d.set q t))) λj v V=>by rw[N_];exact V) (Ty.reps_one ⟨rfl,KC zO zO _ _⟩) rfl (λu Z=>xJ.1 (Jf _) u Z) (by unfold maxLen;simp;omega) (by simp;omega) λbq br H21 ao ap=>?_;refine⟨(E.mono λk A=>by have:=A.1;omega).trans (ap.mono λk A=>⟨by have:=A.1;omega,A.2⟩),?_⟩;refine fa ?_;refine Bc ao 5 rfl (zQ:3<4) rfl λH22 P=>?_;(conv=>whnf);rw[S_ t zO];have ae:M++[Du (d.place q) (d.place t) (d.set q t)]=d.edgesTo q++d.hopsTo q (t+1):=by rw[e1,L,yP]
            have el:M.length+[Du (d.place q) (d.place t) (d.set q t)].length=(d.edgesTo q++d.hopsTo q (t+1)).length:=by rw[<-ae];simp
            rw[el,ae]at P;have aq:=P.pick [0,1,2,3,4,5,6,7] zQ;exact⟨rfl,t+1,rfl,⟨zO,bq,br,aq⟩,zO⟩
          ·obtain rfl:t=d.n:=zO
           have dy:=PA.hops_len d q d.n;obtain⟨M,L⟩:∃M,M=d.edgesTo q++d.hopsTo q d.n:=⟨_,rfl⟩;have d2:M.length<=1056768:=by rw[L,M_];have:=pO 257 (V' ce (zO:q<=4096));omega
           rw[<-L]at D;refine Af (BS (aw D)) λH18 ah=>?_;have m:=D.call ah;clear D;rw[hd.fi q X];cases hf:d.fi q with
           | false=>
             have e1:d.edgesTo (q+1)=M:=by rw[Hn,H_ Z,L];unfold PA.endE;rw[G_ (by rw[hf];decide),xZ]
             (conv=>whnf);rw[S_ q zO];rw[<-e1]at m;exact⟨rfl,q+1,rfl,⟨zO,J,K,m.pick [0,1,2,3,4,5,6] zQ⟩,zO⟩
           | true=>
             have e1:d.edgesTo (q+1)=M++[Ba (d.place q) d.count]:=by rw[Hn,H_ Z,L];unfold PA.endE;rw[H_ hf,yP]
             have a8:∀i,i<9->i≠6->∀b p,(qK y x pb ca cc a4 c4 ua uc o d J K M [pS Co 65 (k_ tb) d.n d.n us]:List Pc)[i]?=zY p->p.foot b->b<H18.size/\¬R_ (.slice J M.length K) b:=λi _ h6 b p hp hb=>by
              exact⟨(m.in_ i hp hb).2,λh=>m.apart2 (i:=i) (j:=6) hp rfl h6 b hb (.inl h)⟩
             have ai:=a8 5 zQ zQ x _ rfl rfl;have a0:=a8 4 zQ zQ pb _ rfl (.inl ⟨0,_,_,rfl⟩);refine Ap.heldZ (λk2=>k2<H18.size/\¬R_ (.slice J M.length K) k2) [11] (sq [0,1,2,3,4,5,6,7] (.f 8 (.f 9 (sq [10] (.f 11 .e))))) rfl zX (fa ?_);refine C_ ((m.blk 5 rfl).cellE rfl) ai (ix AQ zO zO (C_ (v:=B_ (d.place q:Int)) (YX m 4 rfl (Oq X Z)) a0 (Qb (d.place q) d.count (Az EO (zN (Ba (d.place q) d.count)) rfl rfl zQ zQ ?_))));intro z H20 aj d3 ak E;have am:=m.skip aj E;refine⟨E.mono λk A=>by have:=A.1;omega,?_⟩;refine JP (ys:=[Ba (d.place q) d.count]) am 6 EO rfl (ak.cells (o:=0) (cs:=zN (Ba (d.place q) d.count)) λj v V=>by rw[N_];exact V) (Ty.reps_one ⟨rfl,KC zO zO _ _⟩) rfl (λu Z=>xJ.1 (Jf _) u Z) (by unfold maxLen;simp;omega) (by simp;omega) λbq br H21 ao ap=>?_;refine⟨(E.mono λk A=>by have:=A.1;omega).trans (ap.mono λk A=>⟨by have:=A.1;omega,A.2⟩),?_⟩;refine fa ?_;refine Bc ao 5 rfl (zQ:3<4) rfl λH22 P=>?_;(conv=>whnf);rw[S_ q zO];have el:M.length+[Ba (d.place q) d.count].length=(d.edgesTo (q+1)).length:=by rw[e1];simp
             rw[el,<-e1]at P;have aq:=P.pick [0,1,2,3,4,5,6] zQ;exact⟨rfl,q+1,rfl,⟨zO,bq,br,aq⟩,zO⟩
      ·obtain rfl:q=d.n:=zO
       have hb:=B.blk 5 rfl;refine K_ (cs:=yG ⟨d.count+1,0,d.count,d.edgesTo d.n⟩ (.slice Q (d.edgesTo d.n).length R)) (hb.cells λj v V=>by rw[N_];exact V) zA ?_;refine AB (cs:=yG ⟨d.count+1,0,d.count,d.edgesTo d.n⟩ (.slice Q (d.edgesTo d.n).length R)) B 0 rfl rfl (I_ _) rfl λH12 w=>?_;rw[AA (show(yG ⟨d.count+1,0,d.count,d.edgesTo d.n⟩ (.slice Q (d.edgesTo d.n).length R)).length=4 from rfl)]at w;refine K_ (cs:=yG ⟨d.count+1,0,d.count,d.edgesTo d.n⟩ (.slice Q (d.edgesTo d.n).length R)) ((w.blk 0 rfl).cells λj v V=>by rw[N_];exact V) zA ?_;(conv=>whnf);exact⟨w.old,Q,R,rfl,St.own w 6 rfl⟩
def pA(lo hi:Nat)(v:v_)(o:Option AM):Pc:=⟨λk=>lo<=k/\k<hi,λH=>AS (λk=>lo<=k/\k<hi) H v o,λh hp=>hp.frame h⟩
def D_.auto{H':Aa}{v:v_}{o:Option AM}(a:D_ B H0 H ps)(b:A_ (F_ H) H H')(c:AS (λk=>H.size<=k/\k<H'.size) H' v o):D_ B H0 H' (ps++[pA H.size H'.size v o]):=a.add b _ c λk d=>d
def D_.aView{v:v_}{o:Option AM}{lo:Nat}(a:D_ B H0 H ps)(i:Nat)(b:ps[i]?=zY (pA lo c v o)):AS (F_ H) H v o:=AS.mono (a.at_ i b) λk d=>(a.in_ i b d).2
abbrev mI:x_:=172
def Ph(mb:Nat)(b:Int)(m:Nat):Pc:=pB mI mb [B_ b,B_ m]
def xG(mb:Nat)(b:Int)(m:Nat):List Pc:=[Ph mb b m]
def C5{α:Type}(ps:List α)(a:α):(ps++[a]).Perm (a::ps):=wP a ps
def GV{α:Type}(ps:List α)(a b:α):(ps++[a]++[b]).Perm (a::b::ps):=((wP b (ps++[a])).trans ((wP a ps).cons b)).trans (List.Perm.swap a b ps)
def WM{mb:Nat}{o:Option AM}{lo g m:Nat}(hd:J6 o d)(l:St H0 H (ps++xG mb b m++[pA lo g va o])):Am prog 107 #[J_ mb,va,B_ 0] H λr H'=>r= .tuple #[va,B_ 0]/\A_ (λk=>k<H.size/\k≠mb) H H'/\St H0 H' (ps++xG mb b (max m d.n)++[pA lo g va o]):=by have a:St H0 H (pB mI mb [B_ b,B_ m]::pA lo g va o::ps):=l.perm (GV _ _ _);refine Am.of_vc func107 rfl (call107 _) (AC.run (Ap.heldZ (F_ H) [10] (sq [0,1,2,3,4,5] (.f 6 (sq [7,8,9] (.f 10 .e)))) rfl zX (fa ?_)));refine C_ ((a.blk 0 rfl).cellE rfl) (a.in_ 0 rfl rfl).2 (Af (OI (D_.aView a 1 rfl)) λH1 c=>?_);have st1:=a.call c;refine⟨c,?_⟩;rw[hd.n];refine mS ?_;rw[show(if(m:Int)<(d.n:Int)then(d.n:Int)else(m:Int))=((max m d.n:Nat):Int) by split<;>omega];refine fa ?_;refine M1 st1 0 rfl (zQ:1<2) rfl λH2 h p q=>?_;(conv=>whnf);exact⟨rfl,(c.mono λk j=>j.1).trans (p.mono λk j=>j.2),h.perm (GV _ _ _).symm⟩
def T9{mb:Nat}{e:Int}(a:e≠0):AT prog 107 #[J_ mb,.pointer zV,B_ e] H (.tuple #[.pointer zV,B_ e]):=by refine Am.of_vc func107 rfl (call107 _) ?_;have b:(e==0)=zU:=beq_eq_false_iff_ne.2 a;refine AC.run ?_;(conv=>whnf);rw[b];(conv=>whnf);exact⟨rfl,A_.refl _ _⟩
def Qu(H0:Aa)(ps:List Pc)(mb:Nat)(b:Int)(x:Nat×Except Int PA)(v:v_)(H':Aa):Prop:=match x.2 with
 | .ok d=>∃va A lo hi,v= .tuple #[va,B_ 0]/\Cc (zY A)/\J6 (zY A) d/\St H0 H' (ps++xG mb b x.1++[pA lo hi va (zY A)])
 | .error e=>v= .tuple #[.pointer zV,B_ e]/\St H0 H' (ps++xG mb b x.1)
def Xp(h:r.nodes<=2000)(s:Nat):BN b r s=Bm (Lt (MI b) r s) λN a=>match F5 b N with | .error e=>(a,.error e)| .ok d=>(max a d.n,.ok d):=by unfold BN ED Lt;rw[G_ zO,EM];cases Bs (MI b) r 0 s with|mk a c=>{cases c with|error e=>rfl|ok A=>show(if 65536<A.u then _ else _)=Bm (if 65536<A.u then _ else _) _;split;{rfl};rfl}
def aQ{s d:Nat}(h:Lt (MI b) r s=(d,.ok N)):N.edges.length<=33554432:=by unfold Lt at h;split at h;{cases h};have⟨e,A,c,a⟩:=AZ h;split at a;{cases a};rename_i f;cases a;rw[<-EM]at c;have:=Vh c;show A.es.length<=_;omega
def YR{s a:Nat}{e:Int}(h:Lt (MI b) r s=(a,.error e)):e≠0:=by unfold Lt at h;split at h;{cases h;decide};rcases AE h with h | ⟨c,A,-,h⟩;{exact Vg (OK b) _ _ _ _ _ h};split at h;{cases h;decide};cases h
def YQ{mb:Nat}(w:Eo prog H0)(Y:r.nodes<=2000){s:Nat}(y:Am prog 105 #[vb,.func (.func 106) #[J_ mb] #[]] H (Ug (F_ H0) H0 ((33554432+4)*2000) ps (xG mb b) (Lt (MI b) r s))):Am prog 66 #[J_ mb,vb] H (Qu H0 ps mb b (BN b r s)):=by refine Am.of_vc func66 rfl (call66 _) ?_;rw[Xp Y];obtain⟨g,Z,m⟩:∃g J,Lt (MI b) r s=(g,J):=⟨_,_,rfl⟩;rw[m]at y ⊢;refine An.mk y ?_;rintro v1 H1 z;cases Z with|error e=>obtain⟨l,rfl,B,K,st1⟩:=z;replace st1:St H0 H1 (ps++xG mb b g):=st1;have L:=YR m;refine Aq _ [B_ 0,B_ 0,B_ 0,.slice zV 0 0] EZ rfl ?_;intro x H2 M n p q;have t:St H0 H2 (pB 225 x [B_ 0,B_ 0,B_ 0,.slice zV 0 0]::(ps++xG mb b g)):=(st1.box M n p q).perm (C5 _ _);refine AB (cs:=l) t 0 (by rw[B];rfl) rfl (by rw[B];exact I_ _) K λH3 a=>?_;have d1:(e != 0)=zW:=bne_iff_ne.2 L;(conv=>whnf);rw[d1];(conv=>whnf);rw[C9 (x:=(g,(.error e:Except Int O_))) rfl];exact⟨rfl,a.sub (xK _ _)⟩|ok N=>{obtain⟨-,C,D,E,rfl,st1⟩:=z;have O:=aQ m;replace st1:St H0 H1 (ps++xG mb b g++[pS yB 277 D N.edges.length E N.edges]):=st1;have F:St H0 H1 (Ph mb b g::pS yB 277 D N.edges.length E N.edges::ps):=st1.perm (GV _ _ _);refine Aq _ [B_ 0,B_ 0,B_ 0,.slice zV 0 0] EZ rfl ?_;intro x H2 M n p q;have t:St H0 H2 (pB 225 x [B_ 0,B_ 0,B_ 0,.slice zV 0 0]::pB mI mb [B_ b,B_ g]::pS yB 277 D N.edges.length E N.edges::ps):=(F.box M n p q).perm (C5 _ _);refine AB (cs:=yG N (.slice D N.edges.length E)) t 0 rfl rfl (I_ _) rfl λH3 a=>?_;rw[AA (show(yG N (.slice D N.edges.length E)).length=4 from rfl)]at a;have P:=(a.in_ 0 rfl rfl).2;have Q:x≠mb:=(a.blk 0 rfl).ne (a.blk 1 rfl) zQ;refine Ap.heldZ (λk=>k<H3.size/\k≠mb) [] (sq [0,1,2,3,4] (.f 5 (.f 6 (sq [7,8] (.f 9 (sq [10,11,12,13] .e)))))) rfl zX (Jl C O (a.blk 0 rfl) ⟨P,Q⟩ (a.view 2 rfl) λv4 R=>(fa ?_));refine C_ ((a.blk 1 rfl).cellE rfl) zA (⟨A_.refl _ _,?_⟩);refine An.mk (AdC (S:=F_ H3) (λk h=>h) R (w.agr a.old)) ?_;rintro r5 H5 ⟨c,j⟩;refine⟨c.mono λk h=>h.1,?_⟩;have T:St H0 H5 (ps++xG mb b g):=((a.call c).sub (xK _ _) |>.perm (List.Perm.swap _ _ _) |>.sub (xK _ _)).perm (C5 _ _).symm;rw[Cm (x:=(g,(.ok N:Except Int O_))) rfl];cases u:F5 b N with|error e=>rw[u]at j;subst j;have L:=(NG u).2;refine Af (T9 L) λH6 G=>(⟨(c.mono λk h=>h.1).trans (G.mono λk h=>Ak c h.1),?_⟩);(conv=>whnf);exact⟨rfl,T.call G⟩|ok d=>rw[u]at j;obtain⟨va,A,rfl,U,hm,I⟩:=j;have V:St H0 H5 (ps++xG mb b g++[pA H3.size H5.size va (zY A)]):=by{have h1:St H0 H3 (ps++xG mb b g):=(a.sub (xK _ _) |>.perm (List.Perm.swap _ _ _) |>.sub (xK _ _)).perm (C5 _ _).symm;exact D_.auto h1 c U};refine An.mk (WM I V) ?_;rintro r7 H7 ⟨rfl,W,X⟩;refine⟨(c.mono λk h=>h.1).trans (W.mono λk h=>⟨Ak c h.1,h.2⟩),?_⟩;(conv=>whnf);exact⟨va,A,_,_,rfl,hm,I,X⟩}
def YO{mb:Nat}(c:Eo prog H0)(g:r.nodes<=2000){s:Nat}(d:∀(a:ReM),NQ a=zW->a.nodes<=r.nodes->∀(s:Nat) {ps':List Pc} {H':Aa},St H0 H' (ps'++xG mb b s)->Am prog 106 #[J_ mb,Al a] H' (Ug (F_ H0) H0 33554432 ps' (xG mb b) (MI b a s)))(h:St H0 H (ps++xG mb b s)):Am prog 66 #[J_ mb,Al r] H (Qu H0 ps mb b (BN b r s)):=YQ c g (QC (B:=F_ H0) (H0:=H0) (P:=xG mb b) (f:=106) (first:= #[J_ mb]) (cap:= #[]) (OK b) (I_ _) r zO (λa j k s ps' H' e=>d a j k s e) h)
def XA(a:d.n<=4096):(Bo d).Rng:=by have:=PA.count_le (d:=d);unfold Bo;split;{exact⟨⟨by show(-9223372036854775808:Int)<=(d.count:Int)+1;omega,by show(d.count:Int)+1<=(9223372036854775807:Int);omega⟩,⟨by show(-9223372036854775808:Int)<=0;decide,by show 0<=(9223372036854775807:Int);decide⟩,⟨by show(-9223372036854775808:Int)<=(d.count:Int);omega,by show(d.count:Int)<=(9223372036854775807:Int);omega⟩⟩};exact⟨⟨zQ,zQ⟩,⟨zQ,zQ⟩,⟨zQ,zQ⟩⟩
def sgB:ReM->Bool->Bool->Bool | .minus _ _=>Tb | _=>Sd
def Af3{mb:Nat}{N:Nat}(Q:∀(r:ReM),r.nodes<=N->∀(s:Nat) {ps:List Pc} {H:Aa},St H0 H (ps++xG mb b s)->Am prog 66 #[J_ mb,Al r] H (Qu H0 ps mb b (BN b r s)))(R:NQ r=zW) (hn:r.nodes<=N+1) {s:Nat} (st:St H0 H (ps++xG mb b s)):Am prog 106 #[J_ mb,Al r] H (Ug (F_ H0) H0 33554432 ps (xG mb b) (MI b r s)):=by
 revert hn st;obtain⟨r0,h0⟩:∃r0,r0=r:=⟨_,rfl⟩;cases r with|eps=>cases R|cls=>cases R|cat=>cases R|alt=>cases R|star=>cases R|_ r1 r2=>{
 intro ap st;refine Am.of_vc func106 rfl (call106 _) ?_;simp only[ReM.nodes]at ap;obtain⟨T,U⟩:∃T,T=sgB r0:=⟨_,rfl⟩;rw[show MI b _ s=D9 b T (λs=>BN b r1 s) (λs=>BN b r2 s) s by rw[U,h0];rfl];unfold D9;refine Aq _ [B_ 0,B_ 0,B_ 0,.slice zV 0 0] EZ rfl ?_;intro y H1 hy aq au aw;have st1:St H0 H1 ((pB 225 y [B_ 0,B_ 0,B_ 0,.slice zV 0 0]::ps)++xG mb b s):=(st.box hy aq au aw).perm (C5 _ _);refine AC.run ?_;(conv=>whnf);first | refine Bz underlying71 (by intro ms h;cases h) ?_ | (refine Bp underlying71 (by intro ms h;cases h) Rw zQ ?_;refine Bz underlying72 (by intro ms h;cases h) ?_)
 (conv=>whnf);first | refine Aq _ [.nilIface,.nilIface] Rw rfl ?_ | refine Aq _ [.nilIface,.nilIface] W8 rfl ?_
 intro x H2 hx ay az b0;have b4:St H0 H2 (pB _ x [.nilIface,.nilIface]::((pB 225 y [B_ 0,B_ 0,B_ 0,.slice zV 0 0]::ps)++xG mb b s)):=(st1.box hx ay az b0).perm (C5 _ _);refine AB (cs:=[Al r1,Al r2]) b4 0 rfl rfl (I_ _) (by simp[AV]) λH3 w=>?_;rw[AA (show([Al r1,Al r2]).length=([.nilIface,.nilIface]:List v_).length from rfl)]at w;refine Ap.lex rfl zX ?_;(conv=>whnf);first | refine fa ?_
 refine lT ((w.blk 0 rfl).cellE rfl) ?_;(conv=>whnf);first | refine fa ?_
 refine lT ((w.blk 0 rfl).cellE rfl) ?_;have V:St H0 H3 ((pB 225 y [B_ 0,B_ 0,B_ 0,.slice zV 0 0]::ps)++xG mb b s):=w.sub (xK _ _);have W:=Q r1 zO s V;obtain⟨D,x4,e⟩:∃s1 E,BN b r1 s=(s1,E):=⟨_,_,rfl⟩;rw[e]at W;refine An.mk W ?_;rintro v4 H4 X;cases x4 with|error e4=>obtain⟨rfl,F⟩:=X;have b5:=Cp b r1 _ _ _ e;have f:St H0 H4 (Ph mb b D::pB 225 y [B_ 0,B_ 0,B_ 0,.slice zV 0 0]::ps):=F.perm (C5 _ _);have b6:St H0 H4 (pB 225 y [B_ 0,B_ 0,B_ 0,.slice zV 0 0]::Ph mb b D::ps):=f.pickN 2 [1,0] zQ;have d4:(e4 != 0)=zW:=bne_iff_ne.2 b5;(conv=>whnf);rw[d4];refine Ad underlying225 rfl _ EZ [B_ 0,B_ 0,B_ 0,.slice zV 0 0] rfl (AB (cs:=[B_ 0,B_ 0,B_ 0,.slice zV 0 0]) b6 0 rfl rfl (I_ _) rfl λG4 Y=>?_);refine K_ (cs:=[B_ 0,B_ 0,B_ 0,.slice zV 0 0]) ((Y.blk 0 rfl).cells λj v G=>by rw[N_];exact G) zA ?_;(conv=>whnf);rw[C9 (x:=BN b r1 s) e];exact⟨_,rfl,rfl,rfl,(Y.sub (xK _ _)).perm (C5 _ _).symm⟩|ok d1=>{
 obtain⟨g,A1,p,q,rfl,Z,b7,F⟩:=X;have b8:=(Ls e).1;have f:St H0 H4 ((pA p q g (zY A1)::pB 225 y [B_ 0,B_ 0,B_ 0,.slice zV 0 0]::ps)++xG mb b D):=F.perm (C5 _ _);have a0:=Q r2 zO D f;obtain⟨C,x5,t⟩:∃s1 E,BN b r2 D=(s1,E):=⟨_,_,rfl⟩;rw[t]at a0;rw[Cm (x:=BN b r1 s) e];refine An.mk a0 ?_;rintro v5 H5 a8;cases x5 with|error e5=>obtain⟨rfl,I⟩:=a8;have b9:=Cp b r2 _ _ _ t;have a:St H0 H5 (Ph mb b C::pA p q g (zY A1)::pB 225 y [B_ 0,B_ 0,B_ 0,.slice zV 0 0]::ps):=I.perm (C5 _ _);have bd:St H0 H5 (pB 225 y [B_ 0,B_ 0,B_ 0,.slice zV 0 0]::Ph mb b C::ps):=a.pickN 3 [2,0] zQ;have d5:(e5 != 0)=zW:=bne_iff_ne.2 b9;(conv=>whnf);rw[d5];refine Ad underlying225 rfl _ EZ [B_ 0,B_ 0,B_ 0,.slice zV 0 0] rfl (AB (cs:=[B_ 0,B_ 0,B_ 0,.slice zV 0 0]) bd 0 rfl rfl (I_ _) rfl λG5 a9=>?_);refine K_ (cs:=[B_ 0,B_ 0,B_ 0,.slice zV 0 0]) ((a9.blk 0 rfl).cells λj v G=>by rw[N_];exact G) zA ?_;(conv=>whnf);rw[C9 (x:=BN b r2 D) t];exact⟨_,rfl,rfl,rfl,(a9.sub (xK _ _)).perm (C5 _ _).symm⟩|ok d2=>{
 obtain⟨J,A2,K,L,rfl,ab,be,I⟩:=a8;have bf:=(Ls t).1;rw[Cm (x:=BN b r2 D) t];have a:St H0 H5 (Ph mb b C::pA K L J (zY A2)::pA p q g (zY A1)::pB 225 y [B_ 0,B_ 0,B_ 0,.slice zV 0 0]::ps):=I.perm (GV _ _ _);refine fa ?_;refine C_ (v:=B_ b) (by rw[(D_.blk (l:=[B_ b,B_ C]) a 0 rfl).cell];rfl) zA ?_;have w1:=D_.aView a 2 rfl;have w2:=D_.aView a 1 rfl;(conv=>whnf);first | refine An.mk (AeJ (S:=F_ H5) (m:=b) (λk hk=>hk) w1 w2 Z ab) ?_ | refine An.mk (Ae6 (S:=F_ H5) (m:=b) (λk hk=>hk) w1 w2 Z ab) ?_
 rintro r6 H6 ⟨ad,bh⟩;have z:=AmC (ends:=T) b7 be b8 bf (by rw[U,h0];exact bh);cases B:wI b T d1 d2 with|error e7=>{rw[B]at z;obtain rfl:r6= .tuple #[.pointer zV,B_ e7]:=z;have ae:e7≠0:=by{rcases R3 B with h | h<;>omega};refine Af (T9 ae) λH7 bj=>?_;have c:=(a.call ad).call bj;have bn:St H0 H7 (pB 225 y [B_ 0,B_ 0,B_ 0,.slice zV 0 0]::Ph mb b C::ps):=c.pickN 4 [3,0] zQ;have d7:(e7 != 0)=zW:=bne_iff_ne.2 ae;(conv=>whnf);rw[d7];refine Ad underlying225 rfl _ EZ [B_ 0,B_ 0,B_ 0,.slice zV 0 0] rfl (AB (cs:=[B_ 0,B_ 0,B_ 0,.slice zV 0 0]) bn 0 rfl rfl (I_ _) rfl λG7 ah=>?_);refine K_ (cs:=[B_ 0,B_ 0,B_ 0,.slice zV 0 0]) ((ah.blk 0 rfl).cells λj v G=>by rw[N_];exact G) zA ?_;(conv=>whnf);exact⟨_,rfl,rfl,rfl,(ah.sub (xK _ _)).perm (C5 _ _).symm⟩}|ok d=>{rw[B]at z;obtain⟨ai,A3,rfl,aj,bo,ak⟩:∃v A,r6= .tuple #[v,B_ 0]/\AS (λk=>H5.size<=k/\k<H6.size) H6 v (zY A)/\Cc (zY A)/\J6 (zY A) d:=z;obtain⟨-,-,-,-,-,bp,-,M,-,-⟩:=Ou B;have bq:St H0 H6 ((pA K L J (zY A2)::pA p q g (zY A1)::pB 225 y [B_ 0,B_ 0,B_ 0,.slice zV 0 0]::ps)++xG mb b C++[pA H5.size H6.size ai (zY A3)]):=D_.auto (a.perm (C5 _ _).symm) ad aj;refine An.mk (WM ak bq) ?_;rintro r7 H7 ⟨rfl,-,br⟩;have c:=br.perm (GV _ _ _);refine An.mk (ZM (S:=F_ H7) (λk hk=>hk) (D_.aView c 1 rfl) bo ak bp M) ?_;rintro r8 H8 ⟨bu,O,P,rfl,am⟩;have⟨bx,bz,e8,bv⟩:=c.got bu am;injection e8 with e81 _ e83;subst e81;subst e83;have bw:St H0 H8 (pS yB 277 O (Bo d).edges.length P (Bo d).edges::Ph mb b (max C d.n)::pA H5.size H6.size ai (zY A3)::pA K L J (zY A2)::pA p q g (zY A1)::pB 225 y [B_ 0,B_ 0,B_ 0,.slice zV 0 0]::ps):=bv.perm (C5 _ _);have ao:St H0 H8 (pB 225 y [B_ 0,B_ 0,B_ 0,.slice zV 0 0]::Ph mb b (max C d.n)::pS yB 277 O (Bo d).edges.length P (Bo d).edges::ps):=bw.pickN 6 [5,1,0] zQ;refine AB (cs:=yG (Bo d) (.slice O (Bo d).edges.length P)) ao 0 rfl rfl (I_ _) rfl λH11 u=>?_;rw[AA (show(yG (Bo d) (.slice O (Bo d).edges.length P)).length=4 from rfl)]at u;refine K_ (cs:=yG (Bo d) (.slice O (Bo d).edges.length P)) ((u.blk 0 rfl).cells λj v G=>by rw[N_];exact G) zA ?_;(conv=>whnf);exact⟨PE M,XA M,O,P,rfl,(u.sub (xK _ _)).perm (GV _ _ _).symm⟩}}}}
end
section
attribute [local irreducible] Bh By AJ
def jK(b m:Int):List v_:=[B_ b,B_ m]
def jL:(prog.info? 172).bind (·.zero)=zY (.agg (jK 0 0).toArray):=zX
def YI(a:O_)(x:List Int){b:Nat}(d:256<=b):B0 a x b=[]:=by have h:∀q,sV a (λq=>q∈x) b q->False:=DN (Y:=λ_=>False) (λq ⟨e,_,_,c,_⟩=>by{rw[BitVec.getLsbD_of_ge _ _ d]at c;cases c}) λe _ _ _ h=>h;rw[List.eq_nil_iff_forall_not_mem];intro q f;exact h q ((EI (E9 (MY a _ b)) q).1 f)
def aZ{K:Type} [DecidableEq K]{most:Nat}{step:K->Nat->K}{start:K}{F:List K}(e:1<=most)(h:DH most step start=zY F):∀x∈F,∀b,b<256->step x b∈F:=by unfold DH at h;cases hd:DZ most step (Am6 256) start with|none=>rw[hd]at h;cases h|some z=>have⟨G,rows⟩:=z;rw[hd]at h;simp only[wB,AqI.injEq]at h;subst h;have c:=IE e G.length G rows (KA e hd) λj m=>m;intro x n b f;have⟨q,g⟩:=xB n;have⟨row,a⟩:=Ai (l:=rows) (k:=q) (by rw[c.rl];exact(P_.1 g).1);have d:=c.cols row (Y_ a);have⟨t,p⟩:=Ai (l:=row) (k:=b) (by rw[d];simpa using f);exact Y_ (c.ok q b row b t x a (tD f) p g)
def bO{l:List Nat}(g:l.length<=30000)(e:∀c∈l,c<256){most:Nat}(r:1<=most):(l.length+2<=most->∃F,JX (Cq (AH l)) most=zY F/\F.length=l.length+2)/\(most<l.length+2->JX (Cq (AH l)) most=zV):=by
 have u:∀x b,x∈Gk l.length->B0 (Cq (AH l)) x b∈Gk l.length:=λx b f=>by{by_cases C:b<256;{exact V9 g e f C};rw[YI _ _ zO];exact List.mem_cons_self};have w:K5 (Cq (AH l))∈Gk l.length:=by rw[Qm g];exact TX (V_ _)
 have j:∀F,JX (Cq (AH l)) most=zY F->F.length=l.length+2/\F.length<=most:=λF t=>by{have d:=Iu r t;have m:=aZ r t;have n:∀x∈Gk l.length,x∈F:=by{have y:∀i,i<=l.length->txL l.length i∈F:=λi=>by{induction i with|zero=>intro _;rw[<-Qm g];exact Y_ d.2.2.2|succ i D=>intro A;have⟨c,B⟩:=Ai (l:=l) (k:=i) zO;have p:=e c (Y_ B);have:=m _ (D zO) c p;rwa [LT g e zO p,H_ B]at this};intro x f;rcases J'.1 f with rfl | f;{have:=m _ (y l.length (I_ _)) 0 zQ;rwa [LT g e (I_ _) zQ,G_ (by rw[yR (I_ _)];simp)]at this};obtain⟨i,A,rfl⟩:=yT.1 f;exact y i (by have:=xO.1 A;omega)};have q:∀x∈F,x∈Gk l.length:=by{have a:=t;unfold JX DH at a;cases hd:DZ most (B0 (Cq (AH l))) (Am6 256) (K5 (Cq (AH l)))with|none=>rw[hd]at a;cases a|some z=>have⟨G,rows⟩:=z;rw[hd]at a;simp only[wB,AqI.injEq]at a;subst a;exact(Dn (P:=λx=>x∈Gk l.length) r w (λx b f=>u x b f) _ most G rows hd).2.2.2};have E:=Jn (bR g) n;have H:=Jn d.2.2.1 q;rw[Qq]at E H;exact⟨zO,d.2.1⟩};constructor;{intro h;cases hd:JX (Cq (AH l)) most with|some F=>exact⟨F,rfl,(j F hd).1⟩|none=>exfalso;unfold JX DH at hd;rw[Option.map_eq_none_iff]at hd;have⟨L,I,K,J⟩:=HZ (P:=λx=>x∈Gk l.length) r w u _ _ hd;have:=Jn I J;rw[Qq]at this;omega};intro h;cases hd:JX (Cq (AH l)) most with|none=>rfl|some F=>have:=j F hd;omega
def Yr{l:List Nat}(e:l.length<=30000)(a:∀c∈l,c<256)(j:1<=b)(k:b<=4096):if(l.length:Int)+2<=b then∃F,Gu (Cq (AH l)) b= .ok F/\F.length=l.length+2/\F[0]?=zY (K5 (Cq (AH l)))else Gu (Cq (AH l)) b= .error 40:=by obtain⟨m,rfl⟩:=uF (zO:0<=b);have⟨f,g⟩:=bO e a (most:=m) zO;rw[VY zO zO];split;{have⟨F,d,h⟩:=f zO;rw[d];exact⟨F,rfl,h,(Iu zO d).2.2.2⟩};rw[g zO]
end
section
attribute [local irreducible] Bh By AJ DH
def YP{mb:Nat}(a:Eo prog H0):∀(N:Nat) (r:ReM),r.nodes<=N->r.nodes<=2000->∀(s:Nat) {ps:List Pc} {H:Aa},St H0 H (ps++xG mb b s)->Am prog 66 #[J_ mb,Al r] H (Qu H0 ps mb b (BN b r s)):=by intro N;induction N with|zero=>intro r h;cases r<;>simp[ReM.nodes]at h|succ N e=>intro r q f s ps H g;refine YO a f (λj hs k t l H' c=>?_) g;exact Af3 (N:=j.nodes-1) (λm u n p H2 d=>e m zO zO n d) hs zO c
noncomputable def Cg(b:Int)(r:ReM):Except Int (PA×Nat):=if b<1\/4096<b then .error 2 else if 2000<r.nodes then .error 24 else match BN b r 0 with
 | (_,.error e)=>.error e
 | (m,.ok d)=>.ok (d,m)
def N3(x:Except Int (PA×Nat))(H H':Aa)(R:v_):Prop:=match x with
 | .error e=>R= .tuple #[.pointer zV,B_ 0,B_ e]
 | .ok (d,m)=>∃v A,R= .tuple #[v,B_ m,B_ 0]/\AS (λk=>H.size<=k/\k<H'.size) H' v (zY A)/\Cc (zY A)/\J6 (zY A) d
def LM{m:Nat}(h:Cg b r= .ok (d,m)):1<=b/\b<=4096/\r.nodes<=2000/\BN b r 0=(m,.ok d):=by unfold Cg at h;split at h;{cases h};rename_i e;split at h;{cases h};cases c:BN b r 0 with|mk s a=>{rw[c]at h;cases a with|error f=>simp only at h;cases h|ok d=>simp only at h;cases h;exact⟨zO,zO,zO,rfl⟩}
def PD(r:ReM)(t:r.nodes<=1000000000)(j:Eo prog H):Am prog 36 #[Al r,B_ b] H λR H'=>A_ (F_ H) H H'/\N3 (Cg b r) H H' R:=by have c:=fun(mb:Nat) (H2:Aa) (st:St H H2 ([]++xG mb b 0)) (hn:r.nodes<=2000)=>YP (mb:=mb) (b:=b) j r.nodes r (I_ _) hn 0 st;rw[Dk]at c ⊢;refine Am.of_vc func36 rfl (call36 _) ?_;unfold Cg;by_cases h:b<1;{have n:zT (b<1)=zW:=a_ h;(conv=>whnf);rw[n];(conv=>whnf);exact⟨A_.refl _ _,by rw[H_ (.inl h)]<;>rfl⟩};have n:zT (b<1)=zU:=b_ h;by_cases f:4096<b;{have u:zT (b>4096)=zW:=a_ f;(conv=>whnf);rw[n];(conv=>whnf);rw[u];(conv=>whnf);exact⟨A_.refl _ _,by rw[H_ (.inr f)]<;>rfl⟩};have u:zT (b>4096)=zU:=b_ f;(conv=>whnf);rw[n];(conv=>whnf);rw[u];refine Mm underlying35 (Fb.mk (KX r) #[Fa r] (Kr r) (RF r t H) ?_);rintro _ H1 ⟨rfl,w⟩;have st1:=(St.nil H).call w;by_cases g:2000<r.nodes;{have x:zT ((r.nodes:Int)>2000)=zW:=Y';(conv=>whnf);rw[x];(conv=>whnf);exact⟨st1.old,by rw[G_ zO,H_ g]<;>rfl⟩};have x:zT ((r.nodes:Int)>2000)=zU:=j_;rw[G_ zO,G_ g];(conv=>whnf);rw[x];refine Ad underlying172 rfl _ jL (jK b 0) rfl (BF (jK b 0) rfl ?_);intro mb H2 y z f B;have C:St H H2 ([]++xG mb b 0):=st1.box y z f B;have l:=c mb H2 C zO;obtain⟨F,J,m⟩:∃K D,BN b r 0=(K,D):=⟨_,_,rfl⟩;rw[m]at l ⊢;refine An.mk l ?_;rintro R H3 G;cases J with|error e=>obtain⟨rfl,a⟩:=G;have L:=Cp b r _ _ _ m;have M:(e != 0)=zW:=bne_iff_ne.2 L;(conv=>whnf);rw[M];(conv=>whnf);exact⟨a.old,rfl⟩|ok d=>obtain⟨va,A,lo,q,rfl,N,O,a⟩:=G;have E:L_ H3 mb 172 [B_ b,B_ F]:=a.at_ (p:=pB mI mb [B_ b,B_ F]) 0 rfl;refine Ap.lex rfl zX (E_ ?_);refine lT (E.cellE rfl) ?_;(conv=>whnf);refine⟨a.old,va,A,rfl,?_,N,O⟩;have P:AS (λk=>lo<=k/\k<q) H3 va (zY A):=a.at_ (p:=pA lo q va (zY A)) 1 rfl;exact P.mono λk I=>⟨a.ge (p:=pA lo q va (zY A)) 1 rfl I,(a.in_ (p:=pA lo q va (zY A)) 1 rfl I).2⟩
def La{x:Except Int (PA×Nat)}{H':Aa}{R:v_}(h:N3 x H H' R):∃x y z,R= .tuple #[x,y,z]:=by unfold N3 at h;split at h;{exact⟨_,_,_,h⟩};obtain⟨v,A,h,-⟩:=h;exact⟨_,_,_,h⟩
def X7(r:ReM)(f:r.nodes<=1000000000)(c:Eo prog H):Am prog 124 #[Al r,B_ b] H λR H'=>A_ (F_ H) H H'/\match Cg b r with | .error e=>R= .tuple #[.pointer zV,B_ e]| .ok (d,m)=>∃v A,R= .tuple #[v,B_ 0]/\AS (λk=>H.size<=k/\k<H'.size) H' v (zY A)/\Cc (zY A)/\J6 (zY A) d:=by refine Am.of_vc func124 rfl (call124 _) (An.mk (PD r f c) ?_);rintro R H1 ⟨g,a⟩;obtain⟨x,y,z,rfl⟩:=La a;(conv=>whnf);refine⟨g,?_⟩;unfold N3 at a;cases j:Cg b r with|error e=>rw[j]at a;cases a;rfl|ok q=>have⟨d,m⟩:=q;rw[j]at a;have⟨v,A,h,l⟩:=a;cases h;exact⟨_,A,rfl,l⟩
def ZI(r:ReM)(f:r.nodes<=1000000000)(c:Eo prog H):Am prog 18 #[Al r,B_ b] H λR H'=>A_ (F_ H) H H'/\match Cg b r with | .error e=>R= .tuple #[B_ 0,B_ e]| .ok (d,m)=>R= .tuple #[B_ m,B_ 0]:=by refine Am.of_vc func18 rfl (call18 _) (An.mk (PD r f c) ?_);rintro R H1 ⟨g,a⟩;obtain⟨x,y,z,rfl⟩:=La a;(conv=>whnf);refine⟨g,?_⟩;unfold N3 at a;cases j:Cg b r with|error e=>rw[j]at a;cases a;rfl|ok q=>have⟨d,m⟩:=q;rw[j]at a;have⟨v,A,h,k⟩:=a;cases h;rfl
end
section
attribute [local irreducible] Bh By AJ DH DZ
def AdE{a:O_}{e:Int}(c:1<=b)(d:b<=4096)(h:F5 b a= .error e):e=40:=by have h:=(NG h).1;unfold Gu at h;rw[G_ zO]at h;cases hd:JX a b.toNat with|none=>{rw[hd]at h;injection h with h;exact h.symm}|some F=>rw[hd]at h;cases h
def AjF{ends:Bool->Bool->Bool}{a c:PA}{e:Int}(d:1<=b)(f:b<=4096)(h:wI b ends a c= .error e):e=40:=by unfold wI at h;rw[G_ zO]at h;cases hd:sE a c b.toNat with|none=>{rw[hd]at h;injection h with h;exact h.symm}|some F=>rw[hd]at h;cases h
def bB(c:1<=b)(d:b<=4096){ends:Bool->Bool->Bool}{f g:Nat->Nat×Except Int PA}{s a:Nat}{e:Int}(j:∀s a e,f s=(a,.error e)->e=40)(k:∀s a e,g s=(a,.error e)->e=40)(h:D9 b ends f g s=(a,.error e)):e=40:=by rcases AE (show Bm _ _=_ from h)with h | ⟨m,n,-,h⟩;{exact j _ _ _ h};rcases AE h with h | ⟨p,q,-,h⟩;{exact k _ _ _ h};split at h;{rename_i l;cases h;exact AjF c d l};cases h
def WS(c:1<=b)(j:b<=4096){ends:Bool->Bool->Bool}{f g:Nat->Nat×Except Int PA}{n s a:Nat}{e:Int}(k:∀s a e,f s=(a,.error e)->e=40)(l:∀s a e,g s=(a,.error e)->e=40)(h:DV (D9 b ends f g s) n=(a,.error e)):e=40:=by rcases AE (show Bm _ _=_ from h)with h | ⟨m,N,p,h⟩;{exact bB c j k l h};obtain⟨m,r,t,u,d,-,-,q,rfl,-⟩:=OD p;obtain⟨F,-,-,-,-,w,-,x,-,-⟩:=Ou q;rw[H_ (SG zO)]at h;cases h
mutual
def GU{b:Int}(c:1<=b)(d:b<=4096):∀(r:ReM) (n s a:Nat) (e:Int),Bi b r n s=(a,.error e)->e=40
 | .eps,n,s,a,e,h=>by cases h
 | .cls t,n,s,a,e,h=>by cases h
 | .cat x y,n,s,a,e,h=>by
   simp only[Bi]at h;rcases AE h with h | ⟨f,A,-,h⟩
   ·exact GU c d x _ _ _ _ h
   ·rcases AE h with h | ⟨g,C,-,h⟩
    ·exact GU c d y _ _ _ _ h
    ·cases h
 | .alt x y,n,s,a,e,h=>by
   simp only[Bi]at h;rcases AE h with h | ⟨f,A,-,h⟩
   ·exact GU c d x _ _ _ _ h
   ·rcases AE h with h | ⟨g,C,-,h⟩
    ·exact GU c d y _ _ _ _ h
    ·cases h
 | .star x,n,s,a,e,h=>by
   simp only[Bi]at h;rcases AE h with h | ⟨f,A,-,h⟩
   ·exact GU c d x _ _ _ _ h
   ·cases h
 | .and_ x y,n,s,a,e,h=>by
   simp only[Bi]at h;exact WS c d (λs a e=>Fo c d x s a e) (λs a e=>Fo c d y s a e) h
 | .minus x y,n,s,a,e,h=>by
   simp only[Bi]at h;exact WS c d (λs a e=>Fo c d x s a e) (λs a e=>Fo c d y s a e) h
def Fo{b:Int}(c:1<=b)(f:b<=4096):∀(r:ReM) (s g:Nat) (e:Int),BN b r s=(g,.error e)->e=40:=λr s g e h=>by
 rcases AE (show Bm _ _=_ from h)with h | ⟨j,A,-,h⟩
 ·exact GU c f r _ _ _ _ h
 ·split at h
  ·cases h;rfl
  ·cases a:F5 b ⟨A.u,A.p,A.q,A.es⟩with
   | error e=>simp only[a]at h;cases h;exact AdE c f a
   | ok d=>simp only[a]at h;cases h
end
section
variable{b b':Int}
def Zh{a:O_}(k:1<=b)(l:b<=4096)(h:F5 b' a= .ok d)(g:(d.n:Int)<=b):F5 b a= .ok d:=by obtain⟨F,c,rfl,-,-,-,-,-⟩:=QQ h;obtain⟨m,rfl,f,j,hd⟩:=QP c;have g:(F.length:Int)<=b:=g;have e:Gu a b= .ok F:=by{unfold Gu;rw[G_ zO];have:JX a b.toNat=zY F:=L0 f hd zO;rw[this]};unfold F5;rw[e]
def Zg{a:O_}(k:1<=b)(l:b<=4096)(h:F5 b' a= .ok d)(g:b<(d.n:Int)):F5 b a= .error 40:=by obtain⟨F,c,rfl,-,-,-,-,-⟩:=QQ h;obtain⟨m,rfl,f,j,hd⟩:=QP c;have g:b<(F.length:Int):=g;have e:Gu a b= .error 40:=by{unfold Gu;rw[G_ zO];have:JX a b.toNat=zV:=Sy f zO hd zO;rw[this]};unfold F5;rw[e]
section
variable{ends:Bool->Bool->Bool}{a c:PA}
def AfA(g:1<=b)(j:b<=4096)(h:wI b' ends a c= .ok d)(f:(d.n:Int)<=b):wI b ends a c= .ok d:=by obtain⟨F,e,rfl,-,-,-,-,-,k,l⟩:=Ou h;have f:(F.length:Int)<=b:=f;unfold wI;rw[G_ zO];have:sE a c b.toNat=zY F:=L0 zO e zO;rw[this]
def Af9(g:1<=b)(j:b<=4096)(h:wI b' ends a c= .ok d)(f:b<(d.n:Int)):wI b ends a c= .error 40:=by obtain⟨F,e,rfl,-,-,-,-,-,k,l⟩:=Ou h;have f:b<(F.length:Int):=f;unfold wI;rw[G_ zO];have:sE a c b.toNat=zV:=Sy zO zO e zO;rw[this]
end
structure Lst{α:Type}(b:Int)(s:Nat)(x x':Nat×Except Int α):Prop where
 ge:∀s1 a,x=(s1,.ok a)->s<=s1
 low:∀s1 a,x=(s1,.ok a)->(s1:Int)<=b->x'=(s1,.ok a)
 few:∀s1 a,x=(s1,.ok a)->(s:Int)<=b->b<(s1:Int)->∃s2 e,x'=(s2,.error e)
def Lst.bind{α β:Type}{s:Nat}{x p:Nat×Except Int α}{f q:α->Nat->Nat×Except Int β}(h:Lst b s x p)(l:∀g a,x=(g,.ok a)->Lst b g (f a g) (q a g)):Lst b s (Bm x f) (Bm p q):=by refine⟨λg c k=>?_,λg c k m=>?_,λg c k t m=>?_⟩;{have⟨n,a,d,j⟩:=AZ k;exact V' (h.ge _ _ d) ((l _ _ d).ge _ _ j)};{have⟨n,a,d,j⟩:=AZ k;have:=(l _ _ d).ge _ _ j;rw[Cm (h.low _ _ d zO)];exact(l _ _ d).low _ _ j m};have⟨n,a,d,j⟩:=AZ k;by_cases r:(n:Int)<=b;{rw[Cm (h.low _ _ d r)];exact(l _ _ d).few _ _ j r m};have⟨u,e,w⟩:=h.few _ _ d t zO;exact⟨u,e,C9 w⟩
def Lst.pure{α:Type}{s:Nat}{a:α}:Lst b s ((s,.ok a):Nat×Except Int α) (s,.ok a):=⟨λd c h=>by cases h;exact I_ _,λd c h _=>h,λd c h e f=>by cases h;omega⟩
def Lst.fail{α:Type}{s s1:Nat}{e:Int}{a:Nat×Except Int α}:Lst b s ((s1,.error e):Nat×Except Int α) a:=⟨λ_ _ h=>(by cases h),λ_ _ h=>(by cases h),λ_ _ h=>(by cases h)⟩
def Lst.fin(f:1<=b)(g:b<=4096){s:Nat}{x j:Nat×Except Int BR}(h:Lst b s x j):Lst b s (ED b' x) (ED b j):=by refine h.bind λm A _=>?_;split;{exact Lst.fail};cases hd:F5 b' ⟨A.u,A.p,A.q,A.es⟩with|error e=>exact Lst.fail|ok d=>refine⟨λk c a=>by cases a;exact dY _ _,λk c a l=>?_,λk c a r l=>?_⟩;{cases a;rw[Zh f g hd zO]};cases a;have:b<(d.n:Int):=zO;rw[Zg f g hd this];exact⟨_,_,rfl⟩
def Lst.sign(j:1<=b)(k:b<=4096){ends:Bool->Bool->Bool}{f g l m:Nat->Nat×Except Int PA}(p:∀s,Lst b s (f s) (l s))(q:∀s,Lst b s (g s) (m s))(s:Nat):Lst b s (D9 b' ends f g s) (D9 b ends l m s):=by refine(p s).bind λr t _=>(q r).bind λh u _=>?_;cases hd:wI b' ends t u with|error e=>exact Lst.fail|ok d=>refine⟨λh c a=>by cases a;exact dY _ _,λh c a w=>?_,λh c a x w=>?_⟩;{cases a;rw[AfA j k hd zO]};cases a;have:b<(d.n:Int):=zO;rw[Af9 j k hd this];exact⟨_,_,rfl⟩
def Lst.spl{s n:Nat}{x c:Nat×Except Int O_}(h:Lst b s x c):Lst b s (DV x n) (DV c n):=by refine h.bind λd a _=>?_;split;{exact Lst.pure};exact Lst.fail
mutual
def Ft(a:1<=b)(c:b<=4096):∀(r:ReM) (n s:Nat),Lst b s (Bi b' r n s) (Bi b r n s)| .eps,n,s=>Lst.pure | .cls t,n,s=>Lst.pure | .cat x y,n,s=>by simp only[Bi];exact(Ft a c x _ _).bind λd A _=>(Ft a c y _ _).bind λe C _=>Lst.pure | .alt x y,n,s=>by simp only[Bi];exact(Ft a c x _ _).bind λd A _=>(Ft a c y _ _).bind λe C _=>Lst.pure | .star x,n,s=>by simp only[Bi];exact(Ft a c x _ _).bind λd A _=>Lst.pure | .and_ x y,n,s=>by simp only[Bi];exact(Lst.sign a c (λs=>DG a c x s) (λs=>DG a c y s) s).spl | .minus x y,n,s=>by simp only[Bi];exact(Lst.sign a c (λs=>DG a c x s) (λs=>DG a c y s) s).spl
def DG(a:1<=b)(c:b<=4096):∀(r:ReM) (s:Nat),Lst b s (BN b' r s) (BN b r s):=λr s=>(Ft a c r 0 s).fin a c
end
end
def LL(c:1<=b)(f:b<=4096)(g:r.nodes<=2000):Cg b r=match BN b r 0 with | (_,.error e)=>.error e | (m,.ok d)=>.ok (d,m):=by
 unfold Cg;exact(G_ zO).trans ((G_ zO).trans (by
  cases BN b r 0 with
  | mk s a=>cases a<;>rfl))
def KN{m:Nat}(h:Cg b r= .ok (d,m)):1<=m/\(m:Int)<=4096/\d.n<=m:=by have⟨g,j,t,a⟩:=LM h;have k:(m:Int)<=b:=by{by_cases l:(m:Int)<=b;{exact l};have⟨u,e,f⟩:=(DG (b':=b) g j r 0).few _ _ a zO zO;rw[a]at f;cases f};obtain⟨w,A,-,-,hd,p⟩:=Wh a;obtain⟨c,q,-⟩:=Ls a;have:=c.pos;exact⟨zO,zO,zO⟩
def PI{a:Int}{m:Nat}(h:Cg b r= .ok (d,m))(e:(m:Int)<=a)(c:a<=4096):Cg a r= .ok (d,m):=by have⟨j,k,f,g⟩:=LM h;have l:=KN h;rw[LL zO c f,(DG zO c r 0).low _ _ g e]
def XI{a:Int}{m:Nat}(h:Cg b r= .ok (d,m))(c:1<=a)(g:a<(m:Int)):Cg a r= .error 40:=by have⟨l,n,j,k⟩:=LM h;have p:=KN h;have⟨q,e,f⟩:=(DG c zO r 0).few _ _ k zO g;rw[LL c zO j,f,Fo c zO r _ _ _ f]
end
section
attribute [local irreducible] Bh By AJ
section
variable{pa pb:Nat}{b:Option AM}
def AeG(t:∀k,S k->k<H.size)(E:Fy S H pa a)(F:Fy S H pb b)(n:Nd)(D:c<256):Am prog 93 #[u_ n,.int .u8 (c:Int),J_ pa,J_ pb] H λv H'=>A_ (F_ H) H H'/\h_ tNd none_ H' H.size 216 v ((FC a b).next n c):=by refine Am.of_vc func93 rfl (call93 _) ?_;have d:∀{H':Aa} {ps:List Pc},St H H' ps->∀k,S k->k<H'.size:=λG k j=>G.up (t k j);refine Ec (St.nil H) (e_ n) rfl λp1 H1 st1=>?_;have r:=st1.blk 0 rfl;refine Ap.held (F_ H1) 12 (sq [0,1,2,3,5,6,7,8] (.f 4 (.f 9 (sq [10] (.f 11 (.f 12 .e)))))) rfl zX ((E.frame (st1.old.mono t)).ld (d st1) λva u=>(fa ?_));refine C_ (Kj r) r.lt ((F.frame (st1.old.mono t)).ld (d st1) λvb w=>(fa ?_));refine C_ (Rr r) r.lt (Af (BW (d st1) u D) λH2 g=>?_);have l:=st1.call g;refine⟨g,?_⟩;refine Af (BW (d l) (w.frame (g.mono λk j=>d st1 k j)) D) λH3 m=>?_;have z:=l.call m;have h:A_ (F_ H1) H1 H3:=g.trans (m.mono λk j=>Ak g j);refine⟨h,?_⟩;refine Ad underlying216 rfl (u_ AP) CM (e_ ⟨0,Ao a n.x c,Ao b n.y c⟩) rfl (Az Cy (e_ ⟨0,Ao a n.x c,Ao b n.y c⟩) rfl rfl zQ zQ ?_);intro I H4 A B C p;have q:=Oh z A B C p;refine⟨h.trans (p.mono λk j=>by have:=Ak h j;omega),?_⟩;(conv=>whnf);exact⟨q.old,St.own q 1 rfl⟩
def AeI(l:∀k,S k->k<H.size)(m:Fy S H pa a)(p:Fy S H pb b)(n:Nd):AT prog 94 #[u_ n,J_ pa,J_ pb] H (.bool ((FC a b).ends n)):=by refine Am.of_vc func94 rfl (call94 _) (Ec (St.nil H) (e_ n) rfl λp1 H1 st1=>?_);have q:=st1.blk 0 rfl;have e:(FC a b).ends n=(AL a n.x&&AL b n.y):=rfl;rw[e];refine(m.frame (st1.old.mono l)).ld (λ_ _=>trivial) λva d=>(fa ?_);refine C_ (Kj q) zA (Af (BS d) λH2 f=>?_);have c:=st1.call f;have r:=c.blk 0 rfl;cases t:AL a n.x with|false=>(conv=>whnf);exact⟨rfl,c.old⟩|true=>refine(p.frame (c.old.mono l)).ld (λ_ _=>trivial) λvb g=>(fa ?_);refine C_ (Rr r) zA (Af (BS g) λH3 h=>?_);have j:=c.call h;(conv=>whnf);exact⟨rfl,j.old⟩
end
def Nc{b:Option AM}(u:∀k,S k->k<H.size)(y:AS S H va a)(z:AS S H vb b)(A:∃K,CB a K)(B:∃K,CB b K):
  Am prog 57 #[va,vb] H λv H'=>A_ (F_ H) H H'/\∃w ok,v= .tuple #[.string (bA w),.bool ok]/\Ev (FC a b) w ok/\w.length<=1099511627776:=by
 refine Am.of_vc func57 rfl (call57 _) ?_;have g:∀{H':Aa} {ps:List Pc},St H H' ps->∀k,S k->k<H'.size:=λst k h=>st.up (u k h);refine Ec (St.nil H) [va] y.cells.1 λp1 H1 st1=>(Ec st1 [vb] z.cells.1 λp2 H2 m=>(C_ ((m.blk 0 rfl).cellE rfl) zA (C_ ((m.blk 1 rfl).cellE rfl) zA (HP WO [va] [vb] y.cells.1 z.cells.1 rfl rfl zQ zQ ?_))));intro q4 H4 L a8 M N;have e:=m.skip L N;have O:c_ tV (F_ H4) H4 (k_ q4) 2 ([(va,a),(vb,b)].map (·.1)):=c_.ofBlk M (zO:q4<H4.size) ⟨[va],[vb],rfl,rfl,Ty.reps_one rfl⟩ rfl zQ;refine An.mk (Vq (S:=F_ H4) (os:=[(va,a),(vb,b)]) (λk h=>h) O zZ (λx J=>?_)) ?_
 ·rcases J'.1 J with rfl | J
  ·exact⟨(y.frame (e.old.mono u)).mono (g e),A⟩
  ·rw[Q_]at J;subst J;exact⟨(z.frame (e.old.mono u)).mono (g e),B⟩
 rintro _ H5 ⟨P,p⟩;obtain⟨Q,R,rfl,C⟩:=e.got P p;have f:∀o∈[a,b],∀s∈Au o,s∈BA [(va,a),(vb,b)]:=λo j s hs=>by
  unfold BA;simp only[vG,dX,xZ,n_];rcases J'.1 j with rfl | j
  ·exact .inl hs
  ·rw[Q_]at j;subst j;exact .inr hs
 have D:=Jp (os:=[a,b]) (λo j=>by
  rcases J'.1 j with rfl | j
  ·exact A
  ·rw[Q_]at j;subst j;exact B) f
 have E:=KV (BA [(va,a),(vb,b)]);have F:=LG (BA [(va,a),(vb,b)]);have q:=IC (BA [(va,a),(vb,b)]);clear f;rw[d_]at C ⊢;generalize BH (BA [(va,a),(vb,b)])=by_ at*;refine Ad underlying214 rfl _ QW [.slice Q by_.length R,.nilFunc,.nilFunc] rfl (Ec C [.slice Q by_.length R,.nilFunc,.nilFunc] rfl λp6 H6 T=>(fa ?_));refine Bc T 3 rfl zZ rfl λH7 U=>(fa ?_);refine Bc U 3 rfl zZ rfl λH8 d=>?_;have hg:=AeK y.steps z.steps E F;have V:∀c,c<256->∃r∈by_,r<=c/\∀n,(FC a b).next n r=(FC a b).next n c:=λc W=>by
  have⟨r,hr,X,l⟩:=D c W;exact⟨r,hr,X,λn=>ZR (l a zZ) (l b zZ)⟩
 have G:Fy (F_ H8) H8 p1 a:=⟨va,(d.in_ 0 rfl rfl).2,d.blk 0 rfl,(y.frame (d.old.mono u)).mono (g d)⟩;have I:Fy (F_ H8) H8 p2 b:=⟨vb,(d.in_ 1 rfl rfl).2,d.blk 1 rfl,(z.frame (d.old.mono u)).mono (g d)⟩;have Y:Nu (F_ H8) H8 (J_ p6) (FC a b) by_:=⟨p6,Q,R,93,94,[],[J_ p1,J_ p2],[],[J_ p1,J_ p2],rfl,
  (d.in_ 3 rfl rfl).2,d.blk 3 rfl,d.view 2 rfl,λH' t n c _ W=>AeG (λk h=>Ak t h) (G.frame t) (I.frame t) n (E c W),λH' t n _=>AeI (λk h=>Ak t h) (G.frame t) (I.frame t) n⟩
 refine An.mk (QU (λk h=>h) hg V q Y) ?_;rintro _ H9 ⟨Z,w,ok,rfl,hR,a9⟩;have a0:=d.call Z;(conv=>whnf);exact⟨a0.old,w,ok,rfl,hR,zO⟩
end
structure Tk where
 k:Nat
 p:Nat
 s:ByteArray
abbrev FT:=Nat×Nat
def KK(c:Nat):Bool:=zT (c=95\/(97<=c/\c<=122)\/(65<=c/\c<=90))
def uA(c:Nat):Bool:=zT (48<=c/\c<=57)
def uZ(c:Nat):Bool:=zT (32<=c/\c<=126)
def pV(c:Nat):Bool:=zT (c=32\/c=9\/c=10\/c=13)
def Gi(p:Nat->Bool)(t:ByteArray):Nat->Nat->Nat | 0,i=>i | n+1,i=>if p (bt t i)then Gi p t n (i+1)else i
def BZ(t:ByteArray):Nat->Bool->Nat->Nat | 0,_,i=>i | n+1,c,i=>if t.size<=i then i else if c then BZ t n (bt t i != 10) (i+1)else if bt t i=35 then BZ t n zW (i+1)else if pV (bt t i)then BZ t n zU (i+1)else i
def X3(c:Nat):Option Nat:=if uA c then zY (c-48)else if 97<=c/\c<=102 then zY (c-87)else zV
def lB(c:Nat):Option Nat:=if c=110 then zY 10 else if c=114 then zY 13 else if c=116 then zY 9 else if c=34\/c=92 then zY c else zV
def NN(t:ByteArray):Nat->Nat->Nat->Option Nat×Nat | 0,v,i=>(zY v,i)| n+1,v,i=>if t.size<=i+1 then(zV,i+1)else match X3 (bt t (i+1))with | none=>(zV,i+1)| some d=>NN t n (16*v+d) (i+1)
def Gv(t:ByteArray)(i:Nat):Option Nat×Nat:=if t.size<=i+1 then(zV,i+1)else if bt t (i+1)=120 then NN t 2 0 (i+1)else(lB (bt t (i+1)),i+1)
def GY(t:ByteArray)(o:Nat):Nat->Nat->List Nat->FT ⊕ (List Nat×Nat)| 0,_,_=>.inl (51,o)| n+1,i,l=>if t.size<=i then .inl (51,o)else if bt t i=34 then .inr (l,i+1)else if uZ (bt t i)=zU then .inl (50,i)else if bt t i≠92 then GY t o n (i+1) (l++[bt t i])else if t.size<=(Gv t i).2 then .inl (51,o)else match(Gv t i).1 with | none=>.inl (50,(Gv t i).2)| some b=>GY t o n ((Gv t i).2+1) (l++[b])
def Ih(t:ByteArray)(o:Nat):Nat->Nat->FT ⊕ Nat | 0,_=>.inl (52,o)| n+1,i=>if t.size<=i then .inl (52,o)else if bt t i=92/\i+1<t.size then(if uZ (bt t (i+1))then Ih t o n (i+2)else .inl (50,i+1))else if uZ (bt t i)=zU then .inl (50,i)else if bt t i=47 then .inr (i+1)else Ih t o n (i+1)
def ZQ:List Nat:=[61,59,40,41,123,125,44,124,38,45,46,126,42,43,63]
def Ez:ByteArray:=⟨#[62,62]⟩
def uL(t:ByteArray)(i:Nat):FT ⊕ (Tk×Nat):=if KK (bt t i)then(if 32<Gi (λc=>KK c|| uA c) t (t.size-i) i-i then .inl (1,i)else .inr (⟨1,i,t.extract i (Gi (λc=>KK c|| uA c) t (t.size-i) i)⟩,Gi (λc=>KK c|| uA c) t (t.size-i) i))
 else if bt t i=34 then(GY t i (t.size-(i+1)) (i+1) []).map id λx=>(⟨2,i,bA x.1⟩,x.2)
 else if bt t i=47 then(Ih t i (t.size-(i+1)) (i+1)).map id λj=>(⟨3,i,t.extract (i+1) (j-1)⟩,j)
 else if bt t i∈ZQ then .inr (⟨4,i,t.extract i (i+1)⟩,i+1)
 else if bt t i=62/\bt t (i+1)=62 then .inr (⟨4,i,Ez⟩,i+2)
 else .inl (50,i)
def IF(t:ByteArray):Nat->Nat->List Tk->FT ⊕ List Tk | 0,_,l=>.inr (l++[⟨0,t.size,⟨#[]⟩⟩])| n+1,i,l=>if t.size<=i then .inr (l++[⟨0,t.size,⟨#[]⟩⟩])else match uL t i with | .inl e=>.inl e | .inr (k,j)=>IF t n (BZ t (t.size-j) zU j) (l++[k])
def OB(t:ByteArray):FT ⊕ List Tk:=if 4096<t.size then .inl (1,0)else IF t t.size (BZ t t.size zU 0) []
def OG{p:Nat->Bool}{t:ByteArray}:∀n i,i<=Gi p t n i/\Gi p t n i<=i+n
 | 0,i=>⟨I_ _,I_ _⟩
 | n+1,i=>by
   unfold Gi;split
   ·have:=OG (p:=p) (t:=t) n (i+1);omega
   ·omega
def FJ{t:ByteArray}:∀n c i,i<=BZ t n c i/\(i<=t.size->BZ t n c i<=t.size)
 | 0,c,i=>⟨I_ _,λh=>h⟩
 | n+1,c,i=>by
   unfold BZ;have a:=FJ (t:=t) n (bt t i != 10) (i+1);have b:=FJ (t:=t) n zW (i+1);have d:=FJ (t:=t) n zU (i+1)
   repeat' split
   all_goals omega
def Wp{t:ByteArray}:∀n v i,i<=(NN t n v i).2/\(i<t.size->(NN t n v i).2<=t.size)
 | 0,v,i=>⟨I_ _,Nat.le_of_lt⟩
 | n+1,v,i=>by
   unfold NN;have:=λd=>Wp (t:=t) n d (i+1);split
   ·exact⟨Nat.le_succ _,λh=>by simp only;omega⟩
   ·split
    ·exact⟨Nat.le_succ _,λh=>by simp only;omega⟩
    ·rename_i d _;have:=this (16*v+d);omega
def MW(t:ByteArray)(i:Nat):i<(Gv t i).2/\(i<t.size->(Gv t i).2<=t.size):=by
 unfold Gv;have:=Wp (t:=t) 2 0 (i+1)
 repeat' split
 all_goals first | omega | (simp only;omega)
def Wo{d:Nat}(h:X3 c=zY d):d<16:=by unfold X3 uA at h;split at h;{rename_i a;have:=of_decide_eq_true a;cases h;omega};split at h;{cases h;omega};cases h
def Wq{t:ByteArray}:∀n v i b,(NN t n v i).1=zY b->b<(v+1)*16^n
 | 0,v,i,b,h=>by cases h;simp
 | n+1,v,i,b,h=>by
   unfold NN at h;split at h
   ·cases h
   ·split at h
    ·cases h
    ·rename_i d hd;have:=Wq n _ _ b h;have:=Wo hd;exact yQ ‹_› (by rw[Nat.pow_succ,Nat.mul_comm (16^n) 16,<-Nat.mul_assoc];exact Nat.mul_le_mul_right _ zO)
def AiE{t:ByteArray}{i b:Nat}(h:(Gv t i).1=zY b):b<256:=by
 unfold Gv at h;split at h
 ·cases h
 ·split at h
  ·exact Wq 2 0 _ _ h
  ·simp only[lB]at h
   repeat' split at h
   all_goals first | (cases h;omega) | cases h
def Nl{t:ByteArray}{o:Nat}:∀n i l r,GY t o n i l= .inr r->i<r.2/\r.2<=t.size
 | 0,i,l,r,h=>by cases h
 | n+1,i,l,r,h=>by
   unfold GY at h;have c:=MW t i;have a:=λl=>Nl (t:=t) (o:=o) n (i+1) l r;have b:=λl=>Nl (t:=t) (o:=o) n ((Gv t i).2+1) l r
   repeat' split at h
   all_goals first
    | (cases h;done)
    | (cases h;simp only;omega)
    | (have:=a _ h;omega)
    | (have:=b _ h;omega)
def R9{t:ByteArray}{o:Nat}:∀n i r,Ih t o n i= .inr r->i<r/\r<=t.size
 | 0,i,r,h=>by cases h
 | n+1,i,r,h=>by
   unfold Ih at h;have a:=R9 (t:=t) (o:=o) n (i+1) r;have b:=R9 (t:=t) (o:=o) n (i+2) r
   repeat' split at h
   all_goals first
    | (cases h;done)
    | (cases h;omega)
    | (have:=a h;omega)
    | (have:=b h;omega)
inductive Ex where
 | nm (p:Nat) (s:ByteArray)
 | tx (p:Nat) (s:ByteArray)
 | re (p:Nat) (s:ByteArray)
 | kd (p:Nat) (a:Ex)
 | un (p:Nat) (s:ByteArray) (a:Ex)
 | bi (p:Nat) (s:ByteArray) (a b:Ex)
 | cl (p:Nat) (s:ByteArray) (l:Ex)
 | nil
 | cons (a l:Ex)
def Ex.snoc:Ex->Ex->Ex | .cons a l,x=>.cons a (l.snoc x)| _,x=>.cons x .nil
inductive NT where
 | ex (l:Nat)
 | xl (l:Nat) (a:Ex)
 | po
 | pl (a:Ex)
 | at_
 | ar (k m:Nat) (l:Ex)
abbrev X_(b:UInt8):ByteArray:=⟨#[b]⟩
def tA(s:ByteArray):Int:=if s=X_ 124 then 0 else if s=X_ 38\/s=X_ 45\/s=⟨#[38,45]⟩then 1 else if s=Ez then 2 else if s=X_ 126 then 3 else if s=X_ 46 then 4 else -1
def zL(s:ByteArray):Int:=if s=⟨#[99,111,112,121]⟩\/s=⟨#[107,101,121]⟩\/s=⟨#[105,110,115]⟩\/s=⟨#[105,100]⟩\/s=⟨#[102,111,108,100]⟩then 1
 else if s=⟨#[100,101,108]⟩\/s=⟨#[108,101,102,116]⟩\/s=⟨#[114,105,103,104,116]⟩\/s=⟨#[100,101,102,97,117,108,116]⟩then 2
 else if s=⟨#[110,111,114,109]⟩then 3 else if s=⟨#[108,101,116]⟩then -1 else 0
def hd(ts:List Tk):Tk:=ts.headD ⟨0,0,⟨#[]⟩⟩
def yF(ts:List Tk)(s:ByteArray):Bool:=zT ((hd ts).k=4/\(hd ts).s=s)
def vR(o:Nat)(ts:List Tk)(a b:ByteArray)(r:FT ⊕ (Ex×List Tk))(f:Ex->Ex):FT ⊕ (Ex×List Tk):=if yF ts a=zU then .inl (60,(hd ts).p)else if 64<=o then .inl (23,(hd ts).p)else match r with
  | .inl e=>.inl e
  | .inr (x,us)=>if yF us b then .inr (f x,us.tail)else .inl (60,(hd us).p)
def pE:Nat->NT->Nat->List Tk->FT ⊕ (Ex×List Tk)
 | 0,_,_,_=>.inl (60,0)
 | n+1,.ex l,o,ts=>if l=5 then pE n .po o ts else match pE n (.ex (l+1)) o ts with
   | .inl e=>.inl e
   | .inr (a,us)=>pE n (.xl l a) o us
 | n+1,.xl l a,o,ts=>if(hd ts).k=4/\tA (hd ts).s=l then(match pE n (.ex (l+1)) o ts.tail with
    | .inl e=>.inl e
    | .inr (b,us)=>pE n (.xl l (.bi (hd ts).p (hd ts).s a b)) o us)else .inr (a,ts)
 | n+1,.po,o,ts=>match pE n .at_ o ts with
   | .inl e=>.inl e
   | .inr (a,us)=>pE n (.pl a) o us
 | n+1,.pl a,o,ts=>if yF ts (X_ 42)|| (yF ts (X_ 43)|| yF ts (X_ 63))then pE n (.pl (.un (hd ts).p (hd ts).s a)) o ts.tail else .inr (a,ts)
 | n+1,.at_,o,ts=>
   if(hd ts).k=2 then .inr (.tx (hd ts).p (hd ts).s,ts.tail)
   else if(hd ts).k=3 then .inr (.re (hd ts).p (hd ts).s,ts.tail)
   else if(hd ts).k=1/\0<zL (hd ts).s then vR o ts.tail (X_ 40) (X_ 41) (pE n (.ar 0 (zL (hd ts).s).toNat .nil) (o+1) ts.tail.tail) (.cl (hd ts).p (hd ts).s)
   else if(hd ts).k=1/\zL (hd ts).s=0 then .inr (.nm (hd ts).p (hd ts).s,ts.tail)
   else if yF ts (X_ 123)then vR o ts (X_ 123) (X_ 125) (pE n (.ex 0) (o+1) ts.tail) (.kd (hd ts).p)
   else if yF ts (X_ 40)then vR o ts (X_ 40) (X_ 41) (pE n (.ex 0) (o+1) ts.tail) id
   else .inl (60,(hd ts).p)
 | n+1,.ar k m l,o,ts=>if k<m then(if 0<k/\yF ts (X_ 44)=zU then .inl (60,(hd ts).p)else
    match pE n (.ex 0) o (if 0<k then ts.tail else ts)with
    | .inl e=>.inl e
    | .inr (a,us)=>pE n (.ar (k+1) m (l.snoc a)) o us)else .inr (l,ts)
def sA(o:Nat)(ts:List Tk)(x:NT):FT ⊕ (Ex×List Tk):=pE (16*ts.length+16) x o ts
structure Df where
 p:Nat
 s:ByteArray
 a:Ex
def lH:ByteArray:=⟨#[108,101,116]⟩
def tK:Nat->List Tk->List Df->FT ⊕ (List Df×Ex)| 0,_,_=>.inl (60,0)| n+1,ts,ds=>if(hd ts).k=1/\(hd ts).s=lH then(if(hd ts.tail).k≠1\/zL (hd ts.tail).s≠0 then .inl (60,(hd ts.tail).p)else if yF ts.tail.tail (X_ 61)=zU then .inl (60,(hd ts.tail.tail).p)else match sA 0 ts.tail.tail.tail (.ex 0)with | .inl e=>.inl e | .inr (a,us)=>if yF us (X_ 59)=zU then .inl (60,(hd us).p)else tK n us.tail (ds++[⟨(hd ts.tail).p,(hd ts.tail).s,a⟩]))else match sA 0 ts (.ex 0)with | .inl e=>.inl e | .inr (a,us)=>if(hd us).k≠0 then .inl (60,(hd us).p)else .inr (ds,a)
def I9(t:ByteArray):FT ⊕ (List Df×Ex):=match OB t with
 | .inl e=>.inl e
 | .inr ts=>tK ts.length ts []
def Ed(ts:List Tk):Prop:=∃l e,ts=l++[e]/\e.k=0
variable{ts:List Tk}
def Ed.tail(h:Ed ts)(b:(hd ts).k≠0):Ed ts.tail/\ts.length=ts.tail.length+1:=by obtain⟨l,e,rfl,a⟩:=h;cases l with|nil=>exact absurd a b|cons x l=>exact⟨⟨l,e,rfl,a⟩,rfl⟩
def Ed.pos(h:Ed ts):∃a,ts=hd ts::a:=by obtain⟨l,e,rfl,b⟩:=h;cases l with|nil=>exact⟨[],rfl⟩|cons x l=>exact⟨l++[e],rfl⟩
def JG{s:ByteArray}(h:yF ts s=zW):(hd ts).k=4:=(of_decide_eq_true h).1
inductive LO where
 | copy | key | ins | del | left | right | default_ | keyed | star | alt | cat | swap | chain
inductive CO where
 | id | fold | norm | star | alt | cat
def fO:ByteArray:=⟨#[115,116,97,114]⟩
def mV:ByteArray:=⟨#[97,108,116]⟩
def mX:ByteArray:=⟨#[99,97,116]⟩
def LO.s:LO->ByteArray | .copy=>⟨#[99,111,112,121]⟩ | .key=>⟨#[107,101,121]⟩ | .ins=>⟨#[105,110,115]⟩ | .del=>⟨#[100,101,108]⟩ | .left=>⟨#[108,101,102,116]⟩ | .right=>⟨#[114,105,103,104,116]⟩ | .default_=>⟨#[100,101,102,97,117,108,116]⟩ | .keyed=>⟨#[107,101,121,101,100]⟩ | .star=>fO | .alt=>mV | .cat=>mX | .swap=>⟨#[115,119,97,112]⟩ | .chain=>⟨#[99,104,97,105,110]⟩
def CO.s:CO->ByteArray | .id=>⟨#[105,100]⟩ | .fold=>⟨#[102,111,108,100]⟩ | .norm=>⟨#[110,111,114,109]⟩ | .star=>fO | .alt=>mV | .cat=>mX
inductive Tm where
 | txt (p:Nat) (s:ByteArray)
 | rx (p:Nat) (r:ReM)
 | ca (p:Nat) (op:CO) (n:Option ReM) (to back:ByteArray) (a b:Tm)
 | le (p:Nat) (op:LO) (n:Option ReM) (s:ByteArray) (q a b:Tm)
 | nil
def Tm.isCa:Tm->Bool | .ca .. =>zW | _=>zU
def Tm.isLe:Tm->Bool | .le .. =>zW | _=>zU
abbrev nx:ByteArray:=⟨#[]⟩
def GH(s:ByteArray):Nat:=max 1 (2*s.size-1)
def DJ:Option ReM->Nat | none=>0 | some r=>r.nodes
def Tm.sz:Tm->Nat | .txt _ s=>GH s | .rx _ r=>r.nodes | .ca _ op n to _ a b=>1+DJ n+a.sz+b.sz+(match op with | .norm=>GH to | _=>0)| .le _ op n s q a b=>1+DJ n+q.sz+a.sz+b.sz+(match op with | .ins=>GH s | _=>0)| .nil=>0
def Tm.node:Tm->Option ReM | .txt _ s=>zY (AH (zI s))| .rx _ r=>zY r | _=>zV
def Ex.place:Ex->Nat | .nm p _ | .tx p _ | .re p _ | .kd p _ | .un p _ _ | .bi p _ _ _ | .cl p _ _=>p | .cons a _=>a.place | .nil=>0
def wJ(p:Nat)(s:ByteArray)(t:Tm):FT ⊕ Tm:=match t.node with
 | some n=>.inr (.rx p (if s=X_ 42 then .star n else if s=X_ 43 then .cat n (.star n)else .alt n .eps))
 | none=>match t with
   | .ca .. =>if s=X_ 42 then .inr (.ca p .star zV nx nx t .nil)else .inl (72,p)
   | .le .. =>.inr (if s=X_ 42 then .le p .star zV nx .nil t .nil else if s=X_ 43 then .le p .cat zV nx .nil t (.le p .star zV nx .nil t .nil)else .le p .alt zV nx .nil t (.le p .copy (zY .eps) nx .nil .nil .nil))
   | _=>.inl (72,p)
def SH(s:ByteArray):Option LO:=if s=X_ 124 then zY .alt else if s=X_ 46 then zY .cat else if s=X_ 126 then zY .swap else if s=Ez then zY .chain else zV
def Su(s:ByteArray):Option CO:=if s=X_ 124 then zY .alt else if s=X_ 46 then zY .cat else zV
def Tv(s:ByteArray)(x y:ReM):Option ReM:=if s=X_ 124 then zY (.alt x y)else if s=X_ 46 then zY (.cat x y)else if s=X_ 38 then zY (.and_ x y)else if s=X_ 45 then zY (.minus x y)else zV
def vI(p:Nat)(s:ByteArray)(a b:Tm):FT ⊕ Tm:=match a.node,b.node with
 | some x,zY y=>(match Tv s x y with
   | some r=>.inr (.rx p r)
   | none=>.inl (72,p))
 | _,_=>match a,b with
   | .le ..,.le .. =>(match SH s with
     | some o=>.inr (.le p o zV nx .nil a b)
     | none=>.inl (72,p))
   | .ca ..,.ca .. =>(match Su s with
     | some o=>.inr (.ca p o zV nx nx a b)
     | none=>.inl (72,p))
   | _,_=>.inl (72,p)
inductive AK where
 | node | text | canon | lens
def AK.ok:AK->Tm->Bool | .node,t=>t.node.isSome | .text,.txt .. =>zW | .canon,.ca .. =>zW | .lens,.le .. =>zW | _,_=>zU
def DF:List AK->List Tm->Ex->Option Nat | k::ks,t::ts,.cons a l=>if k.ok t then DF ks ts l else zY a.place | _,_,_=>zV
def Kv:Tm->ByteArray | .txt _ s=>s | _=>nx
def xE(p:Nat)(w:ByteArray)(l:Ex)(ts:List Tm):FT ⊕ Tm:=let t (i:Nat):Tm:=ts.getD i .nil
 let go (ks:List AK) (r:Tm):FT ⊕ Tm:=match DF ks ts l with
  | some q=>.inl (72,q)
  | none=>.inr r
 if w=CO.id.s then go [.node] (.ca p .id (t 0).node nx nx .nil .nil)
 else if w=CO.fold.s then go [.node] (.ca p .fold (t 0).node nx nx .nil .nil)
 else if w=CO.norm.s then go [.node,.text,.text] (.ca p .norm (t 0).node (Kv (t 1)) (Kv (t 2)) .nil .nil)
 else if w=LO.del.s then go [.node,.text] (.le p .del (t 0).node (Kv (t 1)) .nil .nil .nil)
 else if w=LO.ins.s then go [.text] (.le p .ins zV (Kv (t 0)) .nil .nil .nil)
 else if w=LO.copy.s then go [.node] (.le p .copy (t 0).node nx .nil .nil .nil)
 else if w=LO.key.s then go [.node] (.le p .key (t 0).node nx .nil .nil .nil)
 else if w=LO.left.s then go [.canon,.lens] (.le p .left zV nx (t 0) (t 1) .nil)
 else if w=LO.right.s then go [.lens,.canon] (.le p .right zV nx (t 1) (t 0) .nil)
 else go [.lens,.text] (.le p .default_ zV (Kv (t 1)) .nil (t 0) .nil)
def Hj(p:Nat):FT ⊕ Tm->FT ⊕ List Tm | .inl e=>.inl e | .inr t=>if 2000<t.sz then .inl (24,p)else .inr [t]
def wC(l:List Tm):Tm:=l.headD .nil
def p_(env:ByteArray->Option Tm):Ex->FT ⊕ List Tm
 | .nm p s=>match env s with
   | some t=>.inr [t]
   | none=>.inl (70,p)
 | .tx p s=>.inr [.txt p s]
 | .re p s=>match GD s with
   | .inl e=>.inl (e.1,((p:Int)+1+e.2).toNat)
   | .inr r=>.inr [.rx p r]
 | .kd p a=>match p_ env a with
   | .inl e=>.inl e
   | .inr l=>match wC l with
     | .le .. =>Hj p (.inr (.le p .keyed zV nx .nil (wC l) .nil))
     | _=>.inl (72,p)
 | .un p s a=>match p_ env a with
   | .inl e=>.inl e
   | .inr l=>Hj p (wJ p s (wC l))
 | .bi p s a b=>match p_ env a with
   | .inl e=>.inl e
   | .inr l=>match p_ env b with
     | .inl e=>.inl e
     | .inr m=>Hj p (vI p s (wC l) (wC m))
 | .cl p s l=>match p_ env l with
   | .inl e=>.inl e
   | .inr ts=>Hj p (xE p s l ts)
 | .nil=>.inr []
 | .cons a l=>match p_ env a with
   | .inl e=>.inl e
   | .inr t=>match p_ env l with
     | .inl e=>.inl e
     | .inr ts=>.inr (wC t::ts)
def uV(env:ByteArray->Option Tm):List Df->Ex->FT ⊕ Tm
 | [],e=>match p_ env e with
   | .inl e=>.inl e
   | .inr l=>.inr (wC l)
 | d::ds,e=>if(env d.s).isSome then .inl (71,d.p)else match p_ env d.a with
   | .inl e=>.inl e
   | .inr l=>uV (λs=>if s=d.s then zY (wC l)else env s) ds e
def HY(t:ByteArray):FT ⊕ Tm:=match I9 t with
 | .inl e=>.inl e
 | .inr x=>uV (λ_=>zV) x.1 x.2
noncomputable def Br(r:ReM):Nat:=match Cg 4096 r with
 | .ok (_,m)=>m
 | .error _=>4097
def AeT(c:1<=b)(a:b<=4096)(h:(Br r:Int)<=b):∃d,Cg 4096 r= .ok (d,Br r)/\Cg b r= .ok (d,Br r):=by unfold Br at h ⊢;cases hs:Cg 4096 r with|error e=>rw[hs]at h;simp only at h;omega|ok x=>have⟨d,m⟩:=x;rw[hs]at h;exact⟨d,rfl,PI hs h a⟩
def AeS(c:1<=b)(g:b<=4096)(k:r.nodes<=2000)(h:b<(Br r:Int)):Cg b r= .error 40:=by unfold Br at h;cases hs:Cg 4096 r with|ok x=>have⟨d,m⟩:=x;rw[hs]at h;exact XI hs c h|error e=>{cases a:Cg b r with|ok x=>have⟨d,m⟩:=x;have:=PI a (KN a).2.1 (Int.le_refl _);rw[hs]at this;cases this|error l=>{rw[LL c g k]at a;cases j:BN b r 0 with|mk s f=>{rw[j]at a;cases f with|ok d=>cases a|error e2=>cases a;rw[Fo c g r _ _ _ j]}}}
def XH(r:ReM):1<=Br r:=by unfold Br;cases hs:Cg 4096 r with|ok x=>exact(KN (d:=x.1) (m:=x.2) hs).1|error e=>exact Nat.le_add_left 1 4096
structure GI(a a':Option AM):Prop where
 st:∀q b,b<256->Ao a q b=Ao a' q b
 fi:∀q,AL a q=AL a' q
structure Jy(r:ReM)(A:AM):Prop where
 ok:A.Ok
 made:Cc (zY A)
 ex:∃d m,Cg 4096 r= .ok (d,m)/\J6 (zY A) d
def Jy.like(h:Jy r A)(g:Jy r C):GI (zY A) (zY C):=by have⟨d,m,x,e⟩:=h.ex;have⟨d',m',j,f⟩:=g.ex;rw[x]at j;cases j;have p:A.next.length=d.n:=e.n;have t:C.next.length=d.n:=f.n;constructor;{intro q b u;by_cases c:q<0\/(d.n:Int)<=q;{unfold Ao;rw[H_ (by show q<0\/(A.next.length:Int)<=q;rw[p];exact c),H_ (by show q<0\/(C.next.length:Int)<=q;rw[t];exact c)]};obtain⟨k,rfl⟩:=uF (a:=q) zO;rw[e.st k b zO u,f.st k b zO u]};intro q;by_cases c:0<=q;{obtain⟨k,rfl⟩:=uF c;by_cases w:k<d.n;{rw[e.fi k w,f.fi k w]};simp[AL,yR (l:=A.final) (i:=k) (by rw[h.ok.fl,p];omega),yR (l:=C.final) (i:=k) (by rw[g.ok.fl,t];omega)]};simp[AL,c]
open Classical in
noncomputable def MD(r:ReM):Option AM:=if h:∃A,Jy r A then zY h.choose else zV
def Jy.aut(h:Jy r A):GI (zY A) (MD r):=by have a:∃A,Jy r A:=⟨A,h⟩;unfold MD;rw[dif_pos a];exact h.like a.choose_spec
def NS{g a:Gr}(d:∀n b,b<256->g.next n b=a.next n b)(e:∀n,g.ends n=a.ends n):∀{w:List Nat} {n:Nd},BG w->(Dx g w n↔Dx a w n)
 | [],n,_=>by show g.ends n=zW↔a.ends n=zW;rw[e]
 | b::w,n,h=>by
   show(∃t,t∈g.next n b/\Dx g w t)↔∃t,t∈a.next n b/\Dx a w t
   rw[d n b (h b (by simp))];exact exists_congr λt=>and_congr_right λ_=>NS d e λc f=>h c (yD _ f)
def Fw(g g':Gr):Prop:=∀w,BG w->(DD g (·=AP) w↔DD g' (·=AP) w)
def Fw.of{a:Gr}(c:∀n b,b<256->g.next n b=a.next n b)(d:∀n,g.ends n=a.ends n):Fw g a:=λw e=>exists_congr λn=>and_congr_right λ_=>NS c d e
def Fw.first{c:Gr}(h:Fw g c)(k:D0 g (·=AP) w):D0 c (·=AP) w:=by obtain⟨⟨e,d,f,j⟩,l⟩:=k;exact⟨⟨e,d,(h w d).1 f,λu m a b=>j u m a ((h u a).2 b)⟩,λu a b=>l u a ((h u a).2 b)⟩
open Classical in
noncomputable def Gx(g:Gr):Option (List Nat):=if h:∃w,D0 g (·=AP) w then zY h.choose else zV
def Mi{a:Gr}(h:Fw g a)(k:D0 g (·=AP) w):Gx a=zY w:=by have b:∃w,D0 a (·=AP) w:=⟨w,h.first k⟩;unfold Gx;rw[dif_pos b];exact congrArg zY (b.choose_spec.uniq (h.first k))
def Mh{a:Gr}(h:Fw g a)(k:∀u,BG u->¬DD g (·=AP) u):Gx a=zV:=by unfold Gx;rw[dif_neg];rintro⟨w,⟨d,b,c,e⟩,f⟩;exact k w b ((h w b).2 c)
def M8(w:List Nat)(ok:Bool):Option (List Nat):=if ok then zY w else zV
def Ev.o{a:Gr}(h:Fw g a){ok:Bool}(k:Ev g w ok):Gx a=M8 w ok/\(ok=zU->w=[]):=by cases ok with|true=>exact⟨Mi h (k.1 rfl),nofun⟩|false=>exact⟨Mh h (k.2 rfl).2,λ_=>(k.2 rfl).1⟩
section
variable{b:Option AM}
def GI.cat(h:GI a a')(k:GI b b'):Fw (Gs a b) (Gs a' b'):=Fw.of (λn c d=>by
  show BQ a b n c=BQ a' b' n c;unfold BQ;simp only[h.st _ _ d,k.st _ _ d,h.fi]) λn=>by
  show C3 a b n=C3 a' b' n;unfold C3;simp only[h.fi,k.fi]
def GI.meet(h:GI a a')(k:GI b b'):Fw (FC a b) (FC a' b'):=Fw.of (λn c d=>by
  show [_]=[_];rw[h.st _ _ d,k.st _ _ d]) λn=>by
  show(_&&_)=(_&&_);rw[h.fi,k.fi]
def GI.ask(f:Bool->Bool->Bool)(h:GI a a')(k:GI b b'):Fw (GM f a b) (GM f a' b'):=Fw.of (λn c d=>by
  show [_]=[_];rw[h.st _ _ d,k.st _ _ d]) λn=>by
  show f _ _=f _ _;rw[h.fi,k.fi]
end
def GI.iter(h:GI a a'):Fw (FY a) (FY a'):=Fw.of (λn c b=>by
  show BL a n c=BL a' n c;unfold BL Dj;simp only[h.st _ _ b,h.fi]) λn=>by
  show GP a n=GP a' n;unfold GP;simp only[h.fi]
def GI.refl(a:Option AM):GI a a:=⟨λ_ _ _=>rfl,λ_=>rfl⟩
def GI.accL{a a':Option AM}(h:GI a a'){w:List Nat}(b:BG w):accL a w=accL a' w:=by have d:∀(w:List Nat) (q:Int),BG w->O8 a w q=O8 a' w q:=λw=>by{induction w with|nil=>exact λq _=>rfl|cons c w e=>intro q b;rw[Ha,Ha,h.st _ _ (b c zZ)];exact e _ λx f=>b x (yD _ f)};unfold Go.Proofs.YtjbnocjgdmnkoaaGreatDoor.accL;rw[d w 0 b,h.fi]
def GI.acc(h:GI a a')(s:ByteArray):Ee a s=Ee a' s:=by rw[<-AhU s,Q0 (LW s),Q0 (LW s),h.accL (LW s)]
noncomputable def ME(x y:ReM):Option (List Nat):=Gx (Gs (MD x) (MD y))
noncomputable def JI(x y:ReM):Option (List Nat):=Gx (FC (MD x) (MD y))
noncomputable def NH(x y:ReM):Option (List Nat):=Gx (GM qT (MD x) (MD y))
noncomputable def iterW(x:ReM):Option (List Nat):=if AL (MD x) 0 then zY []else Gx (FY (MD x))
noncomputable def Kf(x:ReM)(s:ByteArray):Bool:=Ee (MD x) s
def JN.o{x y:ReM}(h:Jy x A)(k:Jy y C){i j:Nat}{ok:Bool}(c:JN (zY A) (zY C) t i j ok):∃w,ME x y=M8 w ok/\t=bA w:=by have d:=h.aut.cat k.aut;cases ok with|true=>obtain⟨w,a,b,-⟩:=c.1 rfl;exact⟨w,Mi d b,a⟩|false=>obtain⟨a,-,-,b⟩:=c.2 rfl;exact⟨[],Mh d b,a⟩
def Hg.o{x:ReM}(h:Jy x A){ok:Bool}(a:Hg (zY A) w ok):iterW x=M8 w ok:=by unfold iterW;rw[<-h.aut.fi];cases b:AL (zY A) 0 with|true=>obtain⟨rfl,rfl⟩:=a.1 b;rfl|false=>exact(Ev.o h.aut.iter (a.2 b)).1
def UZ{x y:ReM}(h:Jy x A)(k:Jy y C){ok:Bool}(a:Ev (FC (zY A) (zY C)) w ok):JI x y=M8 w ok:=(Ev.o (h.aut.meet k.aut) a).1
def U8{x y:ReM}(h:Jy x A)(k:Jy y C){ok:Bool}(a:Ev (GM qT (zY A) (zY C)) w ok):NH x y=M8 w ok:=(Ev.o (h.aut.ask qT k.aut) a).1
end Go.Proofs.YtjbnocjgdmnkoaaGreatDoor
