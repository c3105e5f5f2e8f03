import Derived.Test.YtelngokgpnphfaaGreatDoorKAy7
import Derived.Test.YtelngokgpnphfaaGreatDoorRows
import Derived.Lib.LaidTab
import Derived.OpenShut
import Derived.ChangeSame
import Derived.Deep.DeepHandedRow
import Derived.ProofKit
import Derived.JoinedCond
import Derived.WideKeyArgs
set_option maxHeartbeats 0
open List renaming replicate -> An9, range -> AoW, cons -> ApM
open Option renaming some -> Ap2
set_option maxRecDepth 100000
open Go.Proofs.Tryz
open Go renaming Value -> v_, TypeId -> x_, Program -> w_, World -> y_
open Option renaming some -> zY, none -> zV
open Bool renaming true -> zW, false -> zU
open Decidable renaming decide -> zT
set_option linter.unusedVariables false
set_option linter.unusedSimpArgs false
set_option linter.defProp false
namespace Go.Proofs.YtelngokgpnphfaaGreatDoor
variable{S B:Nat->Prop}{H H0:Aa}{v:v_}{ns:List h_}{r x y:ReM}{i q k:Nat}{l:List (ReM×Nat)}{F:List (Int×Int)}{ps:List Pc}{K:v_->Aa->Prop}{n:Int×Int}{vs:List v_}{D A:DM}{d:PA}{b e:Int}{N:P_}{f g:Nat->Nat×Except Int PA}{a:Option Addr}{t:x_}{P:w_}{enc:x_×v_->Unit}{sp:Nat->Bool}{p:List MemPlace}{W W':y_}
def xE(sub:ReM->P_)(r:ReM):P_:=⟨((Bp sub r 0).u:Nat),((Bp sub r 0).p:Nat),((Bp sub r 0).q:Nat),(Bp sub r 0).es⟩
def XO(sub:ReM->P_)(r:ReM)(H H':Aa)(u:v_):Prop:=if 65536<(Bp sub r 0).u then∃l:List v_,l.length=4/\l.all (·.oneCell')=zW/\u= .tuple #[.agg l.toArray,A_ 40]
 else∃ea ec,u= .tuple #[.agg (s_ (xE sub r) (.slice ea (xE sub r).edges.length ec)).toArray,A_ 0]/\Z_ DS none_ H' H.size 189 (.slice ea (xE sub r).edges.length ec) (xE sub r).edges
abbrev JV:List v_:=[A_ 0,A_ 0,A_ 0,.slice zV 0 0]
def AgW{Ao:Int}{sub:ReM->P_}{xs:List (Nat×P_)}{sa:Option Addr}{sc:Nat}(V:r.nodes<=2000)(K:∀k,S k->k<H.size)(b:ReV S H v ns Ao)(m:Y_ oR S H sa sc xs)(o:xs.length<=4194304)(O:AO ns r i)(L:Dl ns r i l)(e:Ka sub xs l):Ai prog 59 #[v,A_ i,.slice sa xs.length sc] H λu H'=>D_ (H_ H) H H'/\XO sub r H H' u:=by obtain⟨-,-,-,-,W,M⟩:=Gl L e 0;have P:(Bp sub r 0).u<=131072000:=zO;obtain⟨Q,na,nc,rfl,R⟩:=b;refine Ai.of_vc func59 rfl (call59 _) (BI (zR (.slice na ns.length nc) Ao) rfl ?_);intro p H1 T q s t;have F_:=(St.nil H).box T q s t;refine Af _ JV LG rfl ?_;intro y H2 U w x z;have A:=F_.box U w x z;refine Au underlying134 rfl _ LG (rV 0 (.slice zV 0 0)) rfl (BI (rV 0 (.slice zV 0 0)) rfl ?_);intro bb H3 B C D E;have h:St H H3 (uV bb 0 zV 0 [] [pB 32 p (zR (.slice na ns.length nc) Ao),pB sZ y JV]):=((A.box B C D E).nils DS 189).pick [2,3,0,1] zQ;refine L_ (cs:=zR (.slice na ns.length nc) Ao) Dv ((h.blk 2 rfl).cells λj v b=>by rw[K_];exact b) zA ?_;have F:ReV (H_ H) H (.agg (zR (.slice na ns.length nc) Ao).toArray) ns Ao:=⟨Q,na,nc,rfl,R.mono λk G=>K k G⟩;refine Ae.mk (aU (n:=0) (es:=[]) F (m.mono λk G=>K k G) o r.nodes r (M_ _) O L e h zO (by simp only[List.length_nil];omega)) ?_;rintro _ H4 ⟨rfl,f,g,c⟩;rw[rN,K_]at c;refine fa Ck ?_;refine lT (v:=A_ ((Bp sub r 0).u:Int)) E_ ((c.blk 0 rfl).ce rfl) ?_;by_cases N:65536<(Bp sub r 0).u;{have I:zT ((65536:Int)<((Bp sub r 0).u:Int))=zW:=t_;(conv=>whnf);rw[I];refine Au underlying134 rfl _ LG JV rfl (AI (cs:=JV) c 3 rfl rfl (M_ _) rfl λH7 a=>?_);rw[Ar (show JV.length=JV.length from rfl)]at a;refine L_ (cs:=JV) My ((a.blk 3 rfl).cells λj v b=>by rw[K_];exact b) zA ?_;(conv=>whnf);refine⟨a.old,?_⟩;unfold XO;rw[J_ N];exact⟨JV,rfl,rfl,rfl⟩};have I:zT ((65536:Int)<((Bp sub r 0).u:Int))=zU:=g_;(conv=>whnf);rw[I];refine fa MA (Bb c 0 E_ rfl (zQ:1<4) rfl λH5 J=>(fa SW (Bb J 0 E_ rfl (zQ:2<4) rfl λH6 d=>?_)));replace d:St H H6 [pB sZ bb (s_ (xE sub r) (.slice f (xE sub r).edges.length g)),pS DS 189 f (xE sub r).edges.length g (xE sub r).edges,pB 32 p (zR (.slice na ns.length nc) Ao),pB sZ y JV]:=d;refine L_ (cs:=s_ (xE sub r) (.slice f (xE sub r).edges.length g)) My ((d.blk 0 rfl).cells λj v b=>by rw[K_];exact b) zA ?_;refine AI (cs:=s_ (xE sub r) (.slice f (xE sub r).edges.length g)) d 3 rfl rfl (M_ _) rfl λH7 a=>?_;rw[Ar (show(s_ (xE sub r) (.slice f (xE sub r).edges.length g)).length=JV.length from rfl)]at a;refine L_ (cs:=s_ (xE sub r) (.slice f (xE sub r).edges.length g)) My ((a.blk 3 rfl).cells λj v b=>by rw[K_];exact b) zA ?_;(conv=>whnf);refine⟨a.old,?_⟩;unfold XO;rw[I_ N];exact⟨f,g,rfl,St.own a 1 rfl⟩
section
attribute [local irreducible] Bs AE Ak
end
section
attribute [local irreducible] ES Bs AE Ak
structure PrsP(vs:List v_)(F:List NW):Prop where
 len:vs.length=1026
 nd:(F.map (·.1)).Nodup
end
section
attribute [local irreducible] Bs AE Ak
def Cd(n:Int×Int):Nat:=(31*n.1.toNat+n.2.toNat) % 1024
def Vk(n:Int×Int):Cd n<1024:=Nat.mod_lt _ zQ
def Gy(F:List (Int×Int))(h:Nat):List Nat:=(AoW F.length).filter λi=>zT ((F[i]?.map Cd)=zY h)
def RE(F:List (Int×Int))(x:Int×Int)(h:Nat):Gy (F++[x]) h=if Cd x=h then Gy F h++[F.length]else Gy F h:=by unfold Gy;rw[O_,c_,xW,List.filter_append];have b:(AoW F.length).filter (λi=>zT (((F++[x])[i]?.map Cd)=zY h))=(AoW F.length).filter (λi=>zT ((F[i]?.map Cd)=zY h)):=List.filter_congr λi c=>by{rw[List.getElem?_append_left (yR.1 c)]};rw[b];have e2:(F++[x])[F.length]?=zY x:=zZ;by_cases a:Cd x=h;{rw[J_ a,List.filter_cons_of_pos (by rw[e2];simp[a])];rfl};rw[I_ a,List.filter_cons_of_neg (by rw[e2];simp[a])];simp
def Vm{h:Nat}:i∈Gy F h↔∃x,F[i]?=zY x/\Cd x=h:=by unfold Gy;rw[List.mem_filter,yR,z'];constructor;{rintro⟨c,b⟩;have⟨x,a⟩:=Ac c;rw[a]at b;exact⟨x,a,by simpa using b⟩};rintro⟨x,a,rfl⟩;exact⟨(T_.1 a).1,by rw[a];rfl⟩
def qG(F:List (Int×Int)):Nat->I9 | 0=>HQ tLp 115 F | h+1=>HQ tI 3 ((Gy F h).map fun(i:Nat)=>(i:Int))
def OG(b:Nat)(vs:List v_)(F:List (Int×Int)):Pc:=pF 184 b vs (qG F)
def AiQ(F:List (Int×Int))(n:Int×Int):Um (Um (qG F) (Cd n+1) (HQ tI 3 ((Gy F (Cd n)).map (fun(i:Nat)=>(i:Int))++[(F.length:Int)]))) 0 (HQ tLp 115 (F++[n]))=qG (F++[n]):=by funext j;match j with|0=>rw[Ja];rfl|h+1=>rw[Ly zO];by_cases a:h+1=Cd n+1;{rw[a,Ja];obtain rfl:h=Cd n:=zO;show HQ _ _ _=HQ _ _ _;rw[RE,J_ rfl,yV]<;>rfl};rw[Ly a];show HQ _ _ _=HQ _ _ _;rw[RE,I_ zO]
def AoM:(prog.info? 184).bind (·.zero)=zY (.agg (An9 1025 (Value.slice zV 0 0)).toArray):=zX
def AiS(j:Nat)(H:Aa):(qG [] j).ok H (.slice zV 0 0):=by match j with|0=>exact Z_.nil|h+1=>exact Z_.nil
def AiR(c:St H0 H ps)(k:∀b H',St H0 H' (ps++[OG b (An9 1025 (.slice zV 0 0)) []])->K (U_ b) H'):B0 prog (Instr.box 184 (.agg (An9 1025 (Value.slice zV 0 0)).toArray)) H K:=by refine BI (An9 1025 (Value.slice zV 0 0)) rfl ?_;intro b H' d hs e f;have F_:=c.box d hs e f;have a:=F_.fldNew (ss:=qG []) ps.length (by rw[List.getElem?_append_right (M_ _),Nat.sub_self];rfl) AiS;refine k b H' ?_;rw[List.set_append_right _ _ (M_ _),Nat.sub_self]at a;exact a
def V3(F:List (Int×Int))(n:Int×Int):Int:=match F.findIdx? (·=n)with
 | some i=>(i:Int)
 | none=> -1
def eO(h:Sy n):31*n.1+n.2=((31*n.1.toNat+n.2.toNat:Nat):Int):=by have a:=h.1;have b:=h.2;omega
def AhA{b:Nat}(J:B_ B H H [OG b vs F])(a4:vs.length=1025)(K:F.Nodup)(L:Sy n)(a2:F.length<=4096):BK prog 88 #[U_ b,A_ n.1,A_ n.2] H (.int .i64 (V3 F n)):=by have hh:=Vk n;have a5:=L.1;have a6:=L.2;have⟨vh,q⟩:=Ac (l:=vs) (k:=Cd n+1) zO;have⟨v0,r⟩:=Ac (l:=vs) (k:=0) zO;have f:S_ H b 184 vs:=J.fblk 0 rfl;obtain⟨ah,ch,rfl,p⟩:=J.fview 0 rfl q (xs:=(Gy F (Cd n)).map fun(i:Nat)=>(i:Int)) (T:=tI) (e:=3) rfl;rw[e_]at q;obtain⟨a0,c0,rfl,z⟩:=J.fview 0 rfl r (xs:=F) (T:=tLp) (e:=115) rfl;have M:=f.lt;have a7:(Gy F (Cd n)).length<=F.length:=by{unfold Gy;exact yS (vX _ _) zZ};refine Ai.of_vc func88 rfl (call88 _) ?_;(conv=>whnf);rw[W_ (x:=31*n.1) zO];(conv=>whnf);rw[W_ (x:=31*n.1+n.2) zO];rw[eO L];refine oT (b:=1024) zQ ?_;rw[show(31*n.1.toNat+n.2.toNat) % 1024=Cd n from rfl];refine G_ SZ (V' UA zO zO ?_);refine C_ (v:=.slice ah (Gy F (Cd n)).length ch) C4 (by rw[f.cell,(zO:0+1+((Cd n:Nat):Int).toNat*1=Cd n+1)];exact q) zA ?_;(conv=>whnf);refine A0.mk [8] (λk:Nat=>[A_ k]) (λk G=>k<=(Gy F (Cd n)).length/\(∀i∈(Gy F (Cd n)).take k,∀x,F[i]?=zY x->x≠n)/\D_ (H_ H) H G) (λk _=>(Gy F (Cd n)).length-k) ?_ ?_;{(conv=>whnf);exact⟨0,rfl,p_ _,zZ,D_.refl _ _⟩};rintro k G a3 ⟨d,s,a⟩;have h:S_ G b 184 vs:=f.agr a M;have A:=p.frame (a.mono λk d=>d);have C:=z.frame (a.mono λk d=>d);refine AB.m2 (λhz=>?_) (λhz=>?_);{have⟨i,w⟩:=Ac (l:=Gy F (Cd n)) (k:=k) zO;have⟨x,y,a8⟩:=Vm.1 (d_ w);have a9:=(T_.1 y).1;have t:((Gy F (Cd n)).map fun(i:Nat)=>(i:Int))[k]?=zY (i:Int):=by{rw[Y',w];rfl};have D:x≠n->∀N∈(Gy F (Cd n)).take (k+1),∀I,F[N]?=zY I->I≠n:=λhe N j I u=>by{rw[Ab w,k_,V_]at j;rcases j with j | rfl;{exact s N j I u};rw[y]at u;cases u;exact he};refine Ap.quiet (H_ G) rfl zX (G_ FP ?_);refine C_ (v:=.slice a0 F.length c0) LD (by rw[h.cell];exact r) h.lt ?_;refine DY (i:=k) (x:=(i:Int)) AD A zZ t rfl ?_;rintro b3 o3 ab O P ⟨rfl,-⟩;refine C_ E_ P.one (An a O) (DY (i:=i) (x:=x) Sh C rfl y rfl ?_);rintro b4 o4 ae Q R rfl;refine V' EA zQ zQ (C_ (v:=A_ x.1) E_ (R 0 _ rfl) (An a Q) ?_);by_cases m:x.1=n.1;{have S:(x.1==n.1)=zW:=by{rw[m];simp};(conv=>whnf);rw[S];refine G_ FP ?_;refine C_ (v:=.slice a0 F.length c0) LD (by rw[h.cell];exact r) h.lt ?_;refine DY (i:=k) (x:=(i:Int)) AD A zZ t rfl ?_;rintro b5 o5 ag U V ⟨rfl,-⟩;refine C_ E_ V.one (An a U) (DY (i:=i) (x:=x) Sh C rfl y rfl ?_);rintro b6 o6 ai W X rfl;refine V' EA zQ zQ (C_ (v:=A_ x.2) E_ (X 1 _ rfl) (An a W) ?_);by_cases o:x.2=n.2;{have Y:(x.2==n.2)=zW:=by{rw[o];simp};(conv=>whnf);rw[Y];(conv=>whnf);intro G2 g;have c:D_ (H_ H) H G2:=a.trans (g.mono λk d=>An a d);refine DY (i:=k) (x:=(i:Int)) AD (p.frame (c.mono λk d=>d)) zZ t rfl ?_;rintro b7 o7 aj ak Z ⟨rfl,-⟩;refine lT E_ Z.one ?_;(conv=>whnf);refine⟨?_,c⟩;have a1:x=n:=Prod.ext m o;subst a1;have hf:F.findIdx? (·=x)=zY i:=by{have:=WO (F:=F) (k:=x) (d_ y);rw[this,Am1 K y]};unfold V3;rw[hf]};have Y:(x.2==n.2)=zU:=beq_eq_false_iff_ne.2 o;(conv=>whnf);rw[Y];(conv=>whnf);intro G2 g;have c:D_ (H_ H) H G2:=a.trans (g.mono λk d=>An a d);(conv=>whnf);rw[R_ k zO];exact⟨rfl,k+1,rfl,⟨zO,D λe=>o (by rw[e]),c⟩,zO⟩};have S:(x.1==n.1)=zU:=beq_eq_false_iff_ne.2 m;(conv=>whnf);rw[S];(conv=>whnf);intro G2 g;have c:D_ (H_ H) H G2:=a.trans (g.mono λk d=>An a d);(conv=>whnf);rw[R_ k zO];exact⟨rfl,k+1,rfl,⟨zO,D λe=>m (by rw[e]),c⟩,zO⟩};obtain rfl:k=(Gy F (Cd n)).length:=zO;rw[M']at s;(conv=>whnf);refine⟨?_,a⟩;have E:n∉F:=λhm=>by{have⟨i,w⟩:=xB hm;exact s i (Vm.2 ⟨n,w,rfl⟩) n w rfl};unfold V3;rw[Ve E]
def Al3{b:Nat}(q:B_ B H H [OG b vs F])(A:vs.length=1025)(a1:F.Nodup)(C:Sy n)(Z:F.length+1<=4194304):Ai prog 86 #[U_ b,A_ n.1,A_ n.2] H λv H'=>v= .int .i64 (F.length:Int)/\∃r,r.length=1025/\B_ B H H' [OG b r (F++[n])]:=by
 have hh:=Vk n;have a2:=C.1;have a3:=C.2;have⟨vh,a⟩:=Ac (l:=vs) (k:=Cd n+1) zO;have⟨v0,h⟩:=Ac (l:=vs) (k:=0) zO;have c:S_ H b 184 vs:=q.fblk 0 rfl;obtain⟨ah,ch,rfl,-⟩:=q.fview 0 rfl a (xs:=(Gy F (Cd n)).map fun(i:Nat)=>(i:Int)) (T:=tI) (e:=3) rfl;rw[e_]at a;obtain⟨D,E,rfl,-⟩:=q.fview 0 rfl h (xs:=F) (T:=tLp) (e:=115) rfl;have s:=c.lt;have a4:(Gy F (Cd n)).length<=F.length:=by{unfold Gy;exact yS (vX _ _) zZ};have d:∀(j:Nat) (v:v_),vs[j]?=zY v->¬Q_ v b:=(q.at_ 0 rfl).2.2.2;refine Ai.of_vc func86 rfl (call86 _) ?_;(conv=>whnf);rw[W_ (x:=31*n.1) zO];(conv=>whnf);rw[W_ (x:=31*n.1+n.2) zO];rw[eO C];refine oT (b:=1024) zQ ?_;rw[show(31*n.1.toNat+n.2.toNat) % 1024=Cd n from rfl];refine Ap.heldZ (λk=>k<H.size/\¬Q_ (.slice ah (Gy F (Cd n)).length ch) k) [18] (sq [0,1,2,3,4,5,6,7,8,9,10,11,12,15,16] (.f 13 (.f 14 (sq [17] (.f 18 .e))))) rfl zX (G_ SZ (V' UA zO zO ?_));refine C_ (v:=.slice ah (Gy F (Cd n)).length ch) C4 (by rw[c.cell,(zO:0+1+((Cd n:Nat):Int).toNat*1=Cd n+1)];exact a) ⟨s,d _ _ a⟩ ?_;refine G_ FP ?_;refine C_ (v:=.slice D F.length E) LD (by rw[c.cell];exact h) ⟨s,d _ _ a⟩ ?_;refine G_ SZ (Aj AD [A_ (F.length:Int)] rfl rfl zQ zQ ?_);intro q3 H3 G a5 I m;have J:=q.skip G m;refine⟨m.mono λk p=>by have:=p.1;omega,?_⟩;refine qV (ys:=[(F.length:Int)]) (ds:=[A_ (F.length:Int)]) J 0 AD rfl a (xs:=(Gy F (Cd n)).map fun(i:Nat)=>(i:Int)) (T:=tI) (e:=3) rfl (I.cells λj v K=>by rw[K_];exact K) (Ty.reps_one ⟨rfl,BJ zO⟩) rfl (by simp[Value.oneCell']) (by simp only[e_,c_];unfold maxLen;omega) (by simp only[e_,c_];omega) λL H4 M N O=>?_;refine⟨(m.mono λk p=>by have:=p.1;omega).trans (N.mono λk p=>⟨by have:=p.1;omega,p.2⟩),?_⟩;refine V' UA zO zO (eI (o:=0+1+((Cd n:Nat):Int).toNat*1) (j:=Cd n+1) M 0 C4 rfl zO O λH5 t=>?_);have u:(vs.set (Cd n+1) L)[0]?=zY (.slice D F.length E):=by rw[List.getElem?_set_ne zO];exact h
 have P:(vs.set (Cd n+1) L).length=1025:=by rw[yT];exact A
 generalize vs.set (Cd n+1) L=y at*;have Q:S_ H5 b 184 y:=t.fblk 0 rfl;refine G_ FP ?_;refine C_ (v:=.slice D F.length E) LD (by rw[Q.cell];exact u) zA ?_;refine CB EA (.agg #[A_ 0,A_ 0]) rfl (yM n) rfl (Aj Sh (yM n) rfl rfl zQ zQ ?_);intro q6 H6 R a6 S U;have V:=t.skip R U;refine qV (ys:=[n]) (ds:=yM n) V 0 Sh rfl u (xs:=F) (T:=tLp) (e:=115) (by rw[Ly zO];rfl) (S.cells λj v K=>by rw[K_];exact K) (Ty.reps_one (show tLp.rep none_ H6 (yM n) n from rfl)) rfl (Wf n) (by simp only[c_];unfold maxLen;omega) (by simp only[c_];omega) λz H7 W a7 X=>?_;refine G_ FP (eI (o:=0+0) (j:=0) W 0 LD rfl rfl X λH8 g=>?_);rw[AiQ]at g;have Y:S_ H8 b 184 (y.set 0 z):=g.fblk 0 rfl;have w:(y.set 0 z)[0]?=zY z:=List.getElem?_set_self zO;obtain⟨a8,c8,e8,-⟩:=g.fview 0 rfl w (xs:=F++[n]) (T:=tLp) (e:=115) rfl;refine G_ FP ?_;refine C_ (v:=.slice a8 (F++[n]).length c8) LD (by rw[Y.cell,<-e8];exact w) zA ?_;have w1:IntKind.wrap .i64 (((F++[n]).length:Int)-1)=(F.length:Int):=by{rw[show(F++[n]).length=F.length+1 by simp,xG zO zO];omega};(conv=>whnf);rw[w1];(conv=>whnf);exact⟨rfl,y.set 0 z,by rw[yT];exact P,g.pick [0] zQ⟩
def jF{b:Nat}(g:B_ B H0 H ps)(i:Nat)(h:ps[i]?=zY (OG b vs F))(j:vs.length=1025)(l:F.Nodup)(o:Sy n)(d:F.length+1<=4194304)(k:∀c H',B_ B H0 H' (ps.set i (OG b c (F++[n])))->c.length=1025->K (.int .i64 (F.length:Int)) H'):Ae prog 86 #[U_ b,A_ n.1,A_ n.2] H K:=by refine Ae.mk (Al3 (B_.start (g.at_ i h) λk e=>(g.in_ i h e).2) j l o d) ?_;rintro _ H' ⟨rfl,c,f,a⟩;refine k c H' (g.upd i h a.old _ (a.at_ 0 rfl) (λk e=>?_) (λk e=>(a.in_ 0 rfl e).2) a.size) f;have:=(a.in_ 0 rfl e).1;by_cases p:k<H.size;{by_cases m:(OG b vs F).foot k;{exact .inl m};exact absurd ⟨p,m⟩ this};exact .inr zO
def AhB{b:Nat}(c:B_ B H0 H ps)(i:Nat)(f:ps[i]?=zY (OG b vs F))(d:vs.length=1025)(e:F.Nodup)(g:Sy n)(a:F.length<=4096)(k:∀H',B_ B H0 H' ps->K (.int .i64 (V3 F n)) H'):Ae prog 88 #[U_ b,A_ n.1,A_ n.2] H K:=by refine Al (AhA (B_.start (c.at_ i f) λk h=>(c.in_ i f h).2) d e g a) λH' j=>?_;exact k H' (c.call j)
abbrev zD6:List v_:=AU (An9 256 0) (.slice zV 0 0) (.slice zV 0 0) (.slice zV 0 0)
def Hp:Nat->Bool->Bool->Bool | 0,p,q=>p&&q | 1,p,q=>p|| q | _,p,q=>p&& !q
def qE(A B:DM):List Int:=N' (Ak (Cn A++Cn B) 256).2
def bB(A B:DM):(qE A B).length=256:=by unfold qE N';rw[e_];exact(CG _ 256).plen
def MW{by_:List Nat}{a:List Int}{B:DM}{c:Option Addr}{d n:Nat}(hby:by_=K9 A B)(b:a=qE A B)(e:n=(Cn A++Cn B).length)(f:∀k,S k->k<H.size)(g:Y_ tB S H c d (Cn A++Cn B))(j:(Cn A++Cn B).length<=4194304):Ai prog 84 #[.slice c n d] H λv H'=>D_ (H_ H) H H'/\∃ra rc,v= .agg (AU a (.slice ra by_.length rc) (.slice zV 0 0) (.slice zV 0 0)).toArray/\Y_ tI (Cr H H') H' ra rc (N' by_):=by subst e;subst hby;subst b;refine(V8 c d _ S H f g zO).mono ?_;rintro v H' ⟨h,-,ra,rc,rfl,i⟩;exact⟨h,ra,rc,rfl,i⟩
def Rs(A B:DM)(a b:Option AM)(kind:Nat)(m:Int)(H':Aa)(v:v_)(e:Int):Prop:=if m<1\/4096<m then e=2 else
 match Dt m.toNat (Bl a b) (K9 A B) ((0,0):Int×Int)with
 | none=>e=40
 | some (F,rows)=>e=0/\Fe (H_ H') H' v ⟨qE A B,N' (K9 A B),rows.map AG,F.map λx=>Hp kind (AL a x.1) (AL b x.2)⟩
def Xs{vA vB:v_}{a b:Option AM}{B:DM}{w:Nat}{m:Int}(gr:w<3)(hS:∀k,S k->k<H.size)(bf:Fe S H vA A)(bg:Fe S H vB B)(ha:Wo a A)(hb:Wo b B)(sa:Cs a)(sb:Cs b):
  Ai prog 57 #[A_ w,vA,vB,A_ m] H λr H'=>D_ (H_ H) H H'/\∃v e,r= .tuple #[v,A_ e]/\(∃la:List v_,v= .agg la.toArray/\la.length=259/\la.all (·.oneCell')=zW)/\Rs A B a b w m H' v e:=by
 have bh:=ha.ok;have ah:=hb.ok;have gs:=bh.fl;have gt:=ah.fl;have gn:=PJ A;have ab:=PJ B;have cx:∀x,Mc a b x->Sy x:=λx hx=>by
  have h1:=sa.n2;have h2:=sb.n2;obtain⟨⟨x1,x2⟩,x3,x4⟩:=hx;exact⟨⟨x1,zO⟩,x3,zO⟩
 have e6:∀x c,Mc a b x->Mc a b (Bl a b x c):=λx c hx=>by
  unfold Bl;split
  ·rename_i h;exact⟨sa.step x.1 c hx.1 h,sb.step x.2 c hx.2 h⟩
  ·exact hx
 obtain⟨by_,hby⟩:∃x,x=K9 A B:=⟨_,rfl⟩;obtain⟨G,O⟩:∃x,x=qE A B:=⟨_,rfl⟩;have d:G.length=256:=by rw[O];exact bB A B
 have cy:∀c∈by_,c<256:=by rw[hby];exact AeX A B
 have gu:by_.length<=256:=by rw[hby];exact dL A B
 have c3:(N' by_).length=by_.length:=by unfold N';rw[e_]
 have cz:∀(k r:Nat),by_[k]?=zY r->(N' by_)[k]?=zY (r:Int):=λk r h=>by unfold N';rw[Y',h];rfl
 have I:∀rv nv fv,(AU G rv nv fv).length=259:=λrv nv fv=>Av d;have bi:∀{H':Aa} {ps:List Pc},St H H' ps->∀k,S k->k<H'.size:=λst k z=>st.up (hS k z);refine Ai.of_vc func57 rfl (call57 _) (KY bf λra rc na nc e7 fc he a1 a2 a3=>?_);subst he;intro p1 H1 e8 e9 ea eb;have F_:=(St.nil H).box e8 e9 ea eb;refine KY (bg.frame (F_.old.mono hS)) λd0 d3 ec ed d6 ee he b1 b2 b3=>?_;subst he;intro p2 H2 ef eg eh ei;have ej:=F_.box ef eg eh ei;have ek:=(Yj bf);have el:=(Yj bg);generalize AU A.cell (.slice ra A.reps.length rc) (.slice na A.next.length nc) (.slice e7 A.final.length fc)=la at*;generalize AU B.cell (.slice d0 B.reps.length d3) (.slice ec B.next.length ed) (.slice d6 B.final.length ee)=lb at*;have⟨en,fA,cA,d7,eo⟩:=ek;have⟨ep,fB,cB,eu,ev⟩:=el;have bp:∀{H':Aa} {ps:List Pc} (S0:Nat->Prop) {K:v_->Prop} (st:St H H' ps),ps[0]?=zY (pB 43 p1 la)->S0 p1->K (.agg la.toArray)->AH prog (Instr.loadAt 43 (U_ p1)) S0 H' K:=λS0 K st hp c4 hK=>
  L_ (cs:=la) (by rw[en];exact Ew) ((st.blk 0 hp).cells λj v hv=>by rw[K_];exact hv) c4 hK
 have bq:∀{H':Aa} {ps:List Pc} (S0:Nat->Prop) {K:v_->Prop} (st:St H H' ps),ps[1]?=zY (pB 43 p2 lb)->S0 p2->K (.agg lb.toArray)->AH prog (Instr.loadAt 43 (U_ p2)) S0 H' K:=λS0 K st hp c4 hK=>
  L_ (cs:=lb) (by rw[ep];exact Ew) ((st.blk 1 hp).cells λj v hv=>by rw[K_];exact hv) c4 hK
 have d8:∀{H':Aa} {ps:List Pc},St H H' ps->∀{q:Int} {c:Nat},c<256->BK prog 87 #[.agg la.toArray,A_ q,.int .u8 (c:Int)] H' (.int .i64 (Am a q c)):=λst q c hc=>by
  rw[ha.step q c hc];exact Lq (bi st) (bf.frame (st.old.mono hS)) bh hc
 have d9:∀{H':Aa} {ps:List Pc},St H H' ps->∀{q:Int} {c:Nat},c<256->BK prog 87 #[.agg lb.toArray,A_ q,.int .u8 (c:Int)] H' (.int .i64 (Am b q c)):=λst q c hc=>by
  rw[hb.step q c hc];exact Lq (bi st) (bg.frame (st.old.mono hS)) ah hc
 refine Af _ zD6 rfl zX ?_;intro p3 H3 ew ey ez f0;have Q:=ej.box ew ey ez f0;by_cases hm:m<1\/4096<m
 ·by_cases da:m<1;(conv=>whnf);rw[r_ da]
  rotate_left
  (conv=>whnf);rw[n_ da];(conv=>whnf);rw[show zT (4096<m)=zW from t_]
  all_goals
   refine Ae.mk (K5 H3) ?_;rintro v3 Hy ⟨c5,-,c6⟩;obtain⟨P,x1,x2,x3,x4,x5,x6,rfl,-,-,-⟩:=c6;have c7:=Q.call c5;refine AI (cs:=AU AJ.cell (.slice x1 AJ.reps.length x2) (.slice x3 AJ.next.length x4) (.slice x5 AJ.final.length x6)) c7 2 (by rw[Av P];rfl) rfl (by rw[Av P];decide) (Be rfl rfl rfl) λHz a6=>?_;rw[Bu (by rw[Av P];rfl)]at a6;refine L_ (cs:=AU AJ.cell (.slice x1 AJ.reps.length x2) (.slice x3 AJ.next.length x4) (.slice x5 AJ.final.length x6)) (by rw[Av P];exact Ew) ((a6.blk 2 rfl).cells λj v hv=>by rw[K_];exact hv) zA ?_;refine⟨a6.old,_,2,rfl,⟨_,rfl,Av P,Be rfl rfl rfl⟩,?_⟩;unfold Rs;rw[J_ hm]
 ·have d1:zT (m<1)=zU:=g_;have d2:zT (4096<m)=zU:=g_
  ·obtain⟨n,rfl⟩:=xR (zO:0<=m);have f1:1<=n:=zO
   have gv:n<=4096:=zO
   (conv=>whnf);rw[d1];(conv=>whnf);rw[d2];have hA:Fe (H_ H3) H3 (.agg la.toArray) A:=(bf.frame (Q.old.mono hS)).mono (bi Q);have hB:Fe (H_ H3) H3 (.agg lb.toArray) B:=(bg.frame (Q.old.mono hS)).mono (bi Q);refine Ap.cut [10] (λp:Nat=>[U_ p]) (λp H'=>∃ra rc S',St H3 H' [pB 43 p (AU G (.slice ra by_.length rc) (.slice zV 0 0) (.slice zV 0 0)),pV ra rc (N' by_) S']) ?_ ?_
   ·refine Ap.held (H_ H3) 7 (sq [0,2] (.b 1 (.b 3 (.b 4 (.b 5 (.f 6 (.f 7 .e)) 6 (.f 5 (.f 7 .e))) 6 (.f 4 (.f 5 (.f 7 .e)))) 6 (.f 3 (.f 4 (.f 5 (.f 7 .e))))) 6 (.f 1 (.f 3 (.f 4 (.f 5 (.f 7 .e))))))) rfl zX (bp _ Q rfl (Q.in_ 0 rfl rfl).2 (bq _ Q rfl (Q.in_ 1 rfl rfl).2 ?_));have bj:=St.nil H3;refine⟨?_,?_⟩
    ·
     refine Ae.mk (IU (S:=H_ H3) (λk z=>An bj.old z) (hA.frame bj.old) bh) ?_;rintro _ G1 ⟨c8,f2⟩;obtain⟨gw,gx,rfl,R⟩:=bj.got c8 f2;refine⟨R.old,?_⟩;refine⟨?_,?_⟩
     ·
      refine Ae.mk (IU (S:=H_ H3) (λk z=>An R.old z) (hB.frame R.old) ah) ?_;rintro _ G2 ⟨ai,c9⟩;obtain⟨f3,f4,rfl,L⟩:=R.got ai c9;refine⟨L.old,?_⟩;refine⟨?_,?_⟩
      ·
       refine Ru L 0 1 rE rfl rfl ab.1 Pq zO zQ λdb dc G3 M _=>(⟨M.old,?_⟩);refine⟨?_,?_⟩
       ·
        refine Ae.mk (MW hby O O_.symm (λk z=>z) (M.view 0 rfl) (by rw[O_];omega)) ?_;rintro _ G4 ⟨cd,ra,rc,rfl,f5⟩;have C:=M.add cd (pV ra rc (N' (by_)) (Cr G3 G4)) f5 (λk z=>z);refine⟨C.old,?_⟩;refine Af _ (AU (An9 256 0) (.slice zV 0 0) (.slice zV 0 0) (.slice zV 0 0)) rfl zX ?_;intro pp G5 f6 f7 f8 U;have J:=C.box f6 f7 f8 U;refine⟨J.old,?_⟩;refine AI (cs:=AU G (.slice ra (by_).length rc) (.slice zV 0 0) (.slice zV 0 0)) J 3 (by rw[Av d];rfl) rfl (by rw[Av d];decide) (Be rfl rfl rfl) λGF sf=>?_;rw[Bu (by rw[Av d];rfl)]at sf;(conv=>whnf);exact⟨rfl,pp,rfl,ra,rc,_,sf.pick [3,2] zQ⟩
       ·
        refine Af _ (AU (An9 256 0) (.slice zV 0 0) (.slice zV 0 0) (.slice zV 0 0)) rfl zX ?_;intro pp G4 f9 fe ff cd;have C:=M.box f9 fe ff cd;refine⟨C.old,?_⟩;refine Ae.mk (MW hby O O_.symm (λk z=>z) (C.view 0 rfl) (by rw[O_];omega)) ?_;rintro _ G5 ⟨U,ra,rc,rfl,a7⟩;have J:=C.add U (pV ra rc (N' (by_)) (Cr G4 G5)) a7 (λk z=>z);refine⟨J.old,?_⟩;refine AI (cs:=AU G (.slice ra (by_).length rc) (.slice zV 0 0) (.slice zV 0 0)) J 2 (by rw[Av d];rfl) rfl (by rw[Av d];decide) (Be rfl rfl rfl) λGF sf=>?_;rw[Bu (by rw[Av d];rfl)]at sf;(conv=>whnf);exact⟨rfl,pp,rfl,ra,rc,_,sf.pick [2,3] zQ⟩
      ·
       refine Af _ (AU (An9 256 0) (.slice zV 0 0) (.slice zV 0 0) (.slice zV 0 0)) rfl zX ?_;intro pp G3 fg fh fj aj;have M:=L.box fg fh fj aj;refine⟨M.old,?_⟩;refine Ru M 0 1 rE rfl rfl ab.1 Pq zO zQ λde df G4 C _=>(⟨C.old,?_⟩);refine Ae.mk (MW hby O O_.symm (λk z=>z) (C.view 0 rfl) (by rw[O_];omega)) ?_;rintro _ G5 ⟨U,ra,rc,rfl,a7⟩;have J:=C.add U (pV ra rc (N' (by_)) (Cr G4 G5)) a7 (λk z=>z);refine⟨J.old,?_⟩;refine AI (cs:=AU G (.slice ra (by_).length rc) (.slice zV 0 0) (.slice zV 0 0)) J 2 (by rw[Av d];rfl) rfl (by rw[Av d];decide) (Be rfl rfl rfl) λGF sf=>?_;rw[Bu (by rw[Av d];rfl)]at sf;(conv=>whnf);exact⟨rfl,pp,rfl,ra,rc,_,sf.pick [2,3] zQ⟩
     ·
      refine Af _ (AU (An9 256 0) (.slice zV 0 0) (.slice zV 0 0) (.slice zV 0 0)) rfl zX ?_;intro pp G2 fk fm fo ai;have L:=R.box fk fm fo ai;refine⟨L.old,?_⟩;refine Ae.mk (IU (S:=H_ H3) (λk z=>An L.old z) (hB.frame L.old) ah) ?_;rintro _ G3 ⟨aj,ce⟩;obtain⟨db,dc,rfl,M⟩:=L.got aj ce;refine⟨M.old,?_⟩;refine Ru M 0 2 rE rfl rfl ab.1 Pq zO zQ λde df G4 C _=>(⟨C.old,?_⟩);refine Ae.mk (MW hby O O_.symm (λk z=>z) (C.view 0 rfl) (by rw[O_];omega)) ?_;rintro _ G5 ⟨U,ra,rc,rfl,a7⟩;have J:=C.add U (pV ra rc (N' (by_)) (Cr G4 G5)) a7 (λk z=>z);refine⟨J.old,?_⟩;refine AI (cs:=AU G (.slice ra (by_).length rc) (.slice zV 0 0) (.slice zV 0 0)) J 1 (by rw[Av d];rfl) rfl (by rw[Av d];decide) (Be rfl rfl rfl) λGF sf=>?_;rw[Bu (by rw[Av d];rfl)]at sf;(conv=>whnf);exact⟨rfl,pp,rfl,ra,rc,_,sf.pick [1,3] zQ⟩
    ·
     refine Af _ (AU (An9 256 0) (.slice zV 0 0) (.slice zV 0 0) (.slice zV 0 0)) rfl zX ?_;intro pp G1 fp fq fu c8;have R:=bj.box fp fq fu c8;refine⟨R.old,?_⟩;refine Ae.mk (IU (S:=H_ H3) (λk z=>An R.old z) (hA.frame R.old) bh) ?_;rintro _ G2 ⟨ai,c9⟩;obtain⟨f3,f4,rfl,L⟩:=R.got ai c9;refine⟨L.old,?_⟩;refine Ae.mk (IU (S:=H_ H3) (λk z=>An L.old z) (hB.frame L.old) ah) ?_;rintro _ G3 ⟨aj,ce⟩;obtain⟨db,dc,rfl,M⟩:=L.got aj ce;refine⟨M.old,?_⟩;refine Ru M 1 2 rE rfl rfl ab.1 Pq zO zQ λde df G4 C _=>(⟨C.old,?_⟩);refine Ae.mk (MW hby O O_.symm (λk z=>z) (C.view 1 rfl) (by rw[O_];omega)) ?_;rintro _ G5 ⟨U,ra,rc,rfl,a7⟩;have J:=C.add U (pV ra rc (N' (by_)) (Cr G4 G5)) a7 (λk z=>z);refine⟨J.old,?_⟩;refine AI (cs:=AU G (.slice ra (by_).length rc) (.slice zV 0 0) (.slice zV 0 0)) J 0 (by rw[Av d];rfl) rfl (by rw[Av d];decide) (Be rfl rfl rfl) λGF sf=>?_;rw[Bu (by rw[Av d];rfl)]at sf;(conv=>whnf);exact⟨rfl,pp,rfl,ra,rc,_,sf.pick [0,3] zQ⟩
   ·rintro p4 H6 fw ⟨ra,rc,S',fx⟩;have fy:=Q.cat fx;refine Au underlying184 rfl _ AoM (An9 1025 (.slice zV 0 0)) rfl (AiR fy λpp H7 fz=>(jF (n:=(0,0)) fz 5 rfl zZ List.nodup_nil ⟨⟨zQ,zQ⟩,zQ,zQ⟩ zQ λdg H8 cg dh=>?_));replace cg:St H H8 [pB 43 p1 la,pB 43 p2 lb,pB 43 p3 zD6,pB 43 p4 (AU G (.slice ra by_.length rc) (.slice zV 0 0) (.slice zV 0 0)),pV ra rc (N' by_) S',OG pp dg [(0,0)],pN (zF a_) none_ 39 zV 0 0 [],pS Ay 4 zV 0 0 []]:=(cg.nils (zF a_) 39).nils Ay 4;(conv=>whnf);refine A0.mk [12] (λx:Nat×List (Int×Int)×List (List Nat)=>match x with | (i,F,rows)=>[A_ i])
     (λx H4=>match x with | (i,F,rows)=>i<=F.length/\F.length<=n/\F.Nodup/\(∀x∈F,Mc a b x)/\rows.length=i/\BA n (Bl a b) by_ ((0,0):Int×Int) i=zY (F,rows)/\∃vs Sn xa xc ya yc,vs.length=1025/\St H H4 [pB 43 p1 la,pB 43 p2 lb,pB 43 p3 zD6,pB 43 p4 (AU G (.slice ra by_.length rc) (.slice xa i xc) (.slice ya i yc)),pV ra rc (N' by_) S',OG pp vs F,pN (zF a_) Sn 39 xa i xc (rows.map AG),pS Ay 4 ya i yc ((F.take i).map λx=>Hp w (AL a x.1) (AL b x.2))]) (λx _=>n-x.1) ?_ ?_
    ·(conv=>whnf);exact⟨(0,[(0,0)],[]),rfl,p_ _,by simpa using f1,zZ,λx hx=>by
      rw[V_]at hx;subst hx;have h1:=sa.n1;have h2:=sb.n1;exact⟨⟨tY _,by simp only;omega⟩,tY _,by simp only;omega⟩,rfl,rfl,dg,none_,zV,0,zV,0,dh,cg⟩
    ·rintro⟨i,F,rows⟩ H9 g0 ⟨gy,di,g3,dj,ak,br,ch,Sn,xa,xc,ya,yc,dk,a8⟩;have⟨v0,bm⟩:=Ac (l:=ch) (k:=0) zO;have bn:S_ H9 pp 184 ch:=a8.fblk 5 rfl;obtain⟨a0,c0,rfl,cj⟩:=a8.fview 5 rfl bm (xs:=F) (T:=tLp) (e:=115) rfl;refine G_ FP ?_;refine C_ (v:=.slice a0 F.length c0) LD (by rw[bn.cell];exact bm) zA ?_;refine AB.m2 (λhz=>?_) (λhz=>?_)
     ·have⟨x,hx⟩:=Ac (l:=F) (k:=i) zO;have am:=dj x (d_ hx);have V:BA n (Bl a b) by_ ((0,0):Int×Int) (i+1)=(by_.foldl (C6 n (Bl a b) x) (zY (F,[]))).map λr=>(r.1,rows++[r.2]):=by
       show(BA n (Bl a b) by_ (0,0) i).bind _=_;rw[br];simp only[wA,hx]
      refine Ap.lex rfl zX (G_ FP ?_);refine C_ (v:=.slice a0 F.length c0) LD (by rw[bn.cell];exact bm) zA ?_;refine DY (i:=i) (x:=x) Sh cj rfl hx rfl ?_;rintro b8 o8 gz h0 ao rfl;refine V' EA zQ zQ (C_ (v:=A_ x.1) E_ (ao 0 _ rfl) zA (G_ FP ?_));refine C_ (v:=.slice a0 F.length c0) LD (by rw[bn.cell];exact bm) zA ?_;refine DY (i:=i) (x:=x) Sh cj rfl hx rfl ?_;rintro b9 o9 h4 h5 g4 rfl;refine V' EA zQ zQ (C_ (v:=A_ x.2) E_ (g4 1 _ rfl) zA ?_);have s:=a8.nils a_ 3;(conv=>whnf);refine A0.mk [15,16] (λy:Nat×List (Int×Int)×List Nat×Option Addr×Nat=>match y with | (j,F',row,r1,r2)=>[.slice r1 row.length r2,A_ j])
       (λy H7=>match y with | (j,F',row,r1,r2)=>j<=by_.length/\F'.length<=n/\F'.Nodup/\(∀x∈F',Mc a b x)/\F <+: F'/\row.length=j/\(by_.take j).foldl (C6 n (Bl a b) x) (zY (F,[]))=zY (F',row)/\∃vs,vs.length=1025/\St H H7 [pB 43 p1 la,pB 43 p2 lb,pB 43 p3 zD6,pB 43 p4 (AU G (.slice ra by_.length rc) (.slice xa i xc) (.slice ya i yc)),pV ra rc (N' by_) S',OG pp vs F',pN (zF a_) Sn 39 xa i xc (rows.map AG),pS Ay 4 ya i yc ((F.take i).map λx=>Hp w (AL a x.1) (AL b x.2)),pS a_ 3 r1 row.length r2 (AG row)]) (λy _=>by_.length-y.1) ?_ ?_
      ·(conv=>whnf);exact⟨(0,F,[],zV,0),rfl,p_ _,di,g3,dj,List.prefix_refl _,rfl,rfl,ch,dk,s⟩
      ·clear s a8 cj bn;rintro⟨j,F',row,r1,r2⟩ H10 e4 ⟨hj,X,Y,ap,ae,aq,ar,ag,W,s⟩;refine G_ Kn ?_;refine C_ (v:=.slice ra by_.length rc) C4 (by rw[(s.blk 3 rfl).cell];exact Ho d) zA ?_;refine AB.m2 (λg5=>?_) (λg5=>?_)
       ·have⟨c,hc⟩:=Ac (l:=by_) (k:=j) zO;have ao:=cy c (d_ hc);refine Ap.held (H_ H10) 9 (sq [0,1,2,3,4,5,6,7] (.f 8 (.f 9 .e))) rfl zX (bp _ s rfl (s.in_ 0 rfl rfl).2 (G_ Kn ?_));refine C_ (v:=.slice ra by_.length rc) C4 (by rw[(s.blk 3 rfl).cell];exact Ho d) (s.in_ 3 rfl rfl).2 ?_;refine DY (i:=j) (x:=(c:Int)) AD (s.at_ 4 rfl) c3.symm (cz j c hc) rfl ?_;rintro g6 g7 dl au aw ⟨rfl,-⟩;refine C_ (v:=A_ c) E_ aw.one (s.in_ 4 rfl au).2 ?_;(conv=>whnf);rw[w8 (x:=(c:Int)) zO zO];refine Al (d8 s ao) λH11 ax=>?_;have D:=s.call ax;refine⟨ax,?_⟩;refine Ap.held (H_ H11) 9 (sq [0,1,2,3,4,5,6,7] (.f 8 (.f 9 .e))) rfl zX (bq _ D rfl (D.in_ 1 rfl rfl).2 (G_ Kn ?_));refine C_ (v:=.slice ra by_.length rc) C4 (by rw[(D.blk 3 rfl).cell];exact Ho d) (D.in_ 3 rfl rfl).2 ?_;refine DY (i:=j) (x:=(c:Int)) AD (D.at_ 4 rfl) c3.symm (cz j c hc) rfl ?_;rintro g6 g7 dl au aw ⟨rfl,-⟩;refine C_ (v:=A_ c) E_ aw.one (D.in_ 4 rfl au).2 ?_;(conv=>whnf);rw[w8 (x:=(c:Int)) zO zO];refine Al (d9 D ao) λH12 ay=>?_;have az:=D.call ay;refine⟨ay,?_⟩;have dm:Bl a b x c=(Am a x.1 c,Am b x.2 c):=J_ ao;have ck:Mc a b (Am a x.1 c,Am b x.2 c):=by rw[<-dm];exact e6 x c am
        have N:(by_.take (j+1)).foldl (C6 n (Bl a b) x) (zY (F,[]))=(I' n F' (Am a x.1 c,Am b x.2 c)).map λr=>(r.1,row++[r.2]):=by
         rw[Ab hc,xO,ar,<-dm];rfl
        refine AhB (n:=(Am a x.1 c,Am b x.2 c)) az 5 rfl W Y (cx _ ck) zO λH13 g=>?_;cases b0:F'.findIdx? (·=(Am a x.1 c,Am b x.2 c))with
        | some t=>
          have b4:V3 F' (Am a x.1 c,Am b x.2 c)=(t:Int):=by unfold V3;rw[b0]
          have dn:I' n F' (Am a x.1 c,Am b x.2 c)=zY (F',t):=by unfold I';rw[b0]
          have h6:=(S9 dn X).2;rw[dn]at N;have d5:zT ((t:Int)<0)=zU:=g_;rw[b4];refine A7.run (Aj AD [A_ t] rfl rfl zQ zQ ?_);intro g8 H15 b5 dp b6 b7;refine IA (x:=(t:Int)) (g.skip b5 b7) 8 AD rfl b6 ⟨rfl,Hw ⟨zO,zO⟩⟩ rfl (by unfold AG;rw[e_];omega) zQ λcm co H16 Z _=>?_;have e1:(AG row).length+1=(row++[t]).length:=by unfold AG;simp
          have e2:AG row++[(t:Int)]=AG (row++[t]):=by unfold AG;simp
          rw[e1,e2]at Z;rw[e1];(conv=>whnf);rw[R_ j zO];exact⟨rfl,(j+1,F',row++[t],cm,co),zZ,⟨zO,X,Y,ap,ae,by simp[aq],N,ag,W,Z⟩,by simp only;omega⟩
        | none=>
          have b4:V3 F' (Am a x.1 c,Am b x.2 c)= -1:=by unfold V3;rw[b0]
          rw[b4];refine A7.run ?_;have⟨v1,dq⟩:=Ac (l:=ag) (k:=0) zO;have dr:S_ H13 pp 184 ag:=g.fblk 5 rfl;obtain⟨g9,ga,rfl,-⟩:=g.fview 5 rfl dq (xs:=F') (T:=tLp) (e:=115) rfl;refine G_ FP ?_;refine C_ (v:=.slice g9 F'.length ga) LD (by rw[dr.cell];exact dq) zA ?_;by_cases dt:F'.length=n
          ·have d4:((F'.length:Int)==(n:Int))=zW:=by rw[dt];simp
           have bd:I' n F' (Am a x.1 c,Am b x.2 c)=zV:=by
            unfold I';rw[b0];simp only;rw[I_ zO]
           rw[bd]at N;have cp:by_.foldl (C6 n (Bl a b) x) (zY (F,[]))=zV:=by
            have h3:=(List.take_append_drop (j+1) by_).symm;rw[h3,xO,N];exact FK x _
           have be:Dt n (Bl a b) by_ ((0,0):Int×Int)=zV:=KX (n:=i) (by rw[V,cp];rfl) zO;(conv=>whnf);rw[d4];refine Ae.mk (K5 H13) ?_;rintro v3 Hy ⟨c5,-,c6⟩;obtain⟨P,x1,x2,x3,x4,x5,x6,rfl,-,-,-⟩:=c6;have c7:=g.call c5;refine AI (cs:=AU AJ.cell (.slice x1 AJ.reps.length x2) (.slice x3 AJ.next.length x4) (.slice x5 AJ.final.length x6)) c7 2 (by rw[Av P];rfl) rfl (by rw[Av P];decide) (Be rfl rfl rfl) λHz a6=>?_;rw[Bu (by rw[Av P];rfl)]at a6;refine L_ (cs:=AU AJ.cell (.slice x1 AJ.reps.length x2) (.slice x3 AJ.next.length x4) (.slice x5 AJ.final.length x6)) (by rw[Av P];exact Ew) ((a6.blk 2 rfl).cells λj v hv=>by rw[K_];exact hv) zA ?_;refine⟨a6.old,_,40,rfl,⟨_,rfl,Av P,Be rfl rfl rfl⟩,?_⟩;unfold Rs;rw[I_ zO,O',<-hby,be]
          ·have d4:((F'.length:Int)==(n:Int))=zU:=beq_eq_false_iff_ne.2 zO;have bd:I' n F' (Am a x.1 c,Am b x.2 c)=zY (F'++[(Am a x.1 c,Am b x.2 c)],F'.length):=by
            unfold I';rw[b0];simp only;rw[J_ zO]
           rw[bd]at N;have du:=(M1 bd X Y).2.2.1;have gb:=(S9 bd X).1;(conv=>whnf);rw[d4];refine jF (n:=(Am a x.1 c,Am b x.2 c)) g 5 rfl W Y (cx _ ck) zO λbu H14 E cq=>?_;replace E:St H H14 [pB 43 p1 la,pB 43 p2 lb,pB 43 p3 zD6,pB 43 p4 (AU G (.slice ra by_.length rc) (.slice xa i xc) (.slice ya i yc)),pV ra rc (N' by_) S',OG pp bu (F'++[(Am a x.1 c,Am b x.2 c)]),pN (zF a_) Sn 39 xa i xc (rows.map AG),pS Ay 4 ya i yc ((F.take i).map λx=>Hp w (AL a x.1) (AL b x.2)),pS a_ 3 r1 row.length r2 (AG row)]:=E;refine Aj AD [A_ (F'.length:Int)] rfl rfl zQ zQ ?_;intro g8 H15 b5 dp b6 b7;refine IA (x:=(F'.length:Int)) (E.skip b5 b7) 8 AD rfl b6 ⟨rfl,Hw ⟨zO,zO⟩⟩ rfl (by unfold AG;rw[e_];omega) zQ λcm co H16 Z _=>?_;have e1:(AG row).length+1=(row++[F'.length]).length:=by unfold AG;simp
           have e2:AG row++[(F'.length:Int)]=AG (row++[F'.length]):=by unfold AG;simp
           rw[e1,e2]at Z;rw[e1];(conv=>whnf);rw[R_ j zO];exact⟨rfl,(j+1,F'++[(Am a x.1 c,Am b x.2 c)],row++[F'.length],cm,co),zZ,⟨zO,gb,du,(λy hy=>(k_.1 hy).elim (ap y) (λh=>(V_.1 h) ▸ ck)),ae.trans (List.prefix_append _ _),by simp[aq],N,bu,cq,Z⟩,by simp only;omega⟩
       ·obtain rfl:j=by_.length:=zO
        have cr:by_.foldl (C6 n (Bl a b) x) (zY (F,[]))=zY (F',row):=by
         rw[<-ar,List.take_of_length_le (M_ _)]
        rw[cr]at V;simp only[Option.map_some]at V;have dv:=El ae hx;have gc:(AG row).length=row.length:=by unfold AG;rw[e_]
        have a4:(rows.map AG).length=i:=by rw[e_];exact ak
        have bv:((F'.take (i+1)).map λx=>Hp w (AL a x.1) (AL b x.2))=((F.take i).map λx=>Hp w (AL a x.1) (AL b x.2))++[Hp w (AL a x.1) (AL b x.2)]:=by
         obtain⟨t,rfl⟩:=ae;rw[List.take_append_of_le_length zO,Ab hx,yV];rfl
        have a5:((F.take i).map λx=>Hp w (AL a x.1) (AL b x.2)).length=i:=by rw[e_,wI];omega
        have gd:i+1<=F'.length:=by
         have:=(T_.1 dv).1;omega
        obtain⟨d0,d3,er,ct,-⟩:=(s.at_ 8 rfl).1.view (S':=Q_ (.slice r1 row.length r2)) (λb hb=>hb) (λb hb=>hb.elim);injection er with er1 er2 er3
        subst er1;subst er3;have D:=B_.absorb (s.pick [6,8,0,1,2,3,4,5,7] zQ);refine G_ EQ ?_;refine C_ (v:=.slice xa i xc) D7 (by rw[(D.blk 4 rfl).cell,K_];exact Dp d) zA ?_;refine Aj Dj [.slice r1 row.length r2] rfl rfl zQ zQ ?_;intro h7 H12 dw gp dx bw;have az:=D.skip dw bw;have bo:Y_ a_ (λk=>Sn k\/Q_ (.slice r1 row.length r2) k) H12 r1 r2 (AG row):=(ct.frame (bw.mono λk z=>by
         have:=(s.in_ 8 rfl (.inl z)).2;omega)).mono λk z=>.inr z
        refine U9 (row:=AG row) az Dj (dx.cells λj v hv=>by rw[K_];exact hv) ⟨r1,r2,by rw[gc],bo⟩ rfl (λu hu=>by cases V_.1 hu;rfl) (by rw[a4];omega) zQ λgf gg H13 g=>?_;have e5:rows.map AG++[AG row]=(rows++[row]).map AG:=zZ
        rw[a4,e5]at g;rw[a4];refine G_ EQ ?_;refine Bb g 4 D7 rfl (by rw[I];decide) rfl λH14 E=>?_;rw[K_,Of d]at E;have bx:0<=x.1/\x.1<A.final.length:=⟨am.1.1,by have:=am.1.2;rw[ha.n]at this;omega⟩;have bz:0<=x.2/\x.2<B.final.length:=⟨am.2.1,by have:=am.2.2;rw[hb.n]at this;omega⟩;have a9:∀(S0:Nat->Prop) (K:v_->Prop),(∀p o,YtelngokgpnphfaaGreatDoor.cell H14 p o=zY (.bool (AL a x.1))->K (.pointer (zY ⟨p,o,zV⟩)))->AH prog (Instr.indexAt 41 (.slice fA A.final.length cA) (.int .i64 x.1)) S0 H14 K:=λS0 K hK=>
         jP (eo.frame (E.old.mono hS)) bx.1 bx.2 λp o _ hc=>hK p o (by rw[hc,ha.fin])
        have cu:∀(S0:Nat->Prop) (K:v_->Prop),(∀p o,YtelngokgpnphfaaGreatDoor.cell H14 p o=zY (.bool (AL b x.2))->K (.pointer (zY ⟨p,o,zV⟩)))->AH prog (Instr.indexAt 41 (.slice fB B.final.length cB) (.int .i64 x.2)) S0 H14 K:=λS0 K hK=>
         jP (ev.frame (E.old.mono hS)) bz.1 bz.2 λp o _ hc=>hK p o (by rw[hc,hb.fin])
        have dy:S_ H14 p1 43 la:=E.blk 1 rfl;have gh:S_ H14 p2 43 lb:=E.blk 2 rfl;have gi:w=0\/w=1\/w=2:=zO
        rcases gi with rfl | rfl | rfl
        all_goals
         refine G_ Js ?_;refine C_ (v:=.slice fA A.final.length cA) FX (by rw[dy.cell];exact d7) zA ?_;refine a9 _ _ λq1 o1 cw=>(C_ zE cw zA ?_);cases gj:AL a x.1 with
         | _=>
           rw[gj]at a9 bv
           repeat (first | (refine A7.run ?_) | (refine G_ Js ?_;refine C_ (v:=.slice fA A.final.length cA) FX (by rw[dy.cell];exact d7) zA ?_;refine a9 _ _ λq1 o1 cw=>?_;refine C_ zE cw zA ?_) | (refine G_ Js ?_;refine C_ (v:=.slice fB B.final.length cB) FX (by rw[gh.cell];exact eu) zA ?_;refine cu _ _ λq2 o2 gk=>?_;refine C_ zE gk zA ?_))
           refine G_ Js ?_;refine C_ (v:=.slice ya i yc) FX (by rw[(E.blk 4 rfl).cell,K_];exact Kf d) zA ?_;refine Aj Ci [.bool (_)] rfl rfl zQ zQ ?_;intro h8 H17 dz gq e0 e3;refine IA (x:=_) (E.skip dz e3) 7 Ci rfl e0 rfl rfl (by rw[a5];omega) zQ λgl gm H18 c1 _=>?_;rw[a5]at c1;rw[a5];refine G_ Js ?_;refine Bb c1 4 FX rfl (by rw[I];decide) rfl λH19 c2=>?_;rw[K_,Og d]at c2;(conv=>whnf);rw[R_ i zO];refine⟨rfl,(i+1,F',rows++[row]),zZ,⟨gd,X,Y,ap,by simp[ak],V,ag,(λk=>Sn k\/Q_ (.slice r1 row.length r2) k),gf,gg,gl,gm,W,?_⟩,by simp only;omega⟩;rw[bv];exact c2.pick [1,2,3,4,5,6,0,7] zQ
     ·obtain rfl:i=F.length:=zO
      rw[M']at a8;have be:=KW br rfl di;have a4:(rows.map AG).length=F.length:=by rw[e_];exact ak
      have a5:(F.map λx=>Hp w (AL a x.1) (AL b x.2)).length=F.length:=e_ _;refine L_ (cs:=AU G (.slice ra by_.length rc) (.slice xa F.length xc) (.slice ya F.length yc)) (by rw[I];exact Ew) ((a8.blk 3 rfl).cells λj v hv=>by rw[K_];exact hv) zA ?_;refine AI (cs:=AU G (.slice ra by_.length rc) (.slice xa F.length xc) (.slice ya F.length yc)) a8 2 (by rw[I];rfl) rfl (by rw[I];decide) (Be rfl rfl rfl) λH13 g=>?_;rw[Bu (by rw[I];rfl)]at g;refine L_ (cs:=AU G (.slice ra by_.length rc) (.slice xa F.length xc) (.slice ya F.length yc)) (by rw[I];exact Ew) ((g.blk 2 rfl).cells λj v hv=>by rw[K_];exact hv) zA ?_;refine⟨g.old,_,0,rfl,⟨_,rfl,Av d,Be rfl rfl rfl⟩,?_⟩;unfold Rs;rw[I_ zO,O',<-hby,be,<-O];refine⟨rfl,d,ra,rc,xa,xc,ya,yc,?_,(g.at_ 4 rfl).mono λk z=>(g.in_ 4 rfl z).2,g.view 6 rfl,g.view 7 rfl⟩;rw[c3,a4,a5]
end
section
attribute [local irreducible] Bs AE Ak FD Dt
def oD(D:DM):Option AM:=zY ⟨[],D.cell.map Int.toNat,D.next,D.final⟩
def HV(h:D.Ok):Wo (oD D) D:=by refine⟨h,rfl,λq b a=>?_,λq=>rfl,λq=>rfl⟩;have e:(D.cell.map Int.toNat).getD b 0=(D.cell.getD b 0).toNat:=by{rw[xA,xA,Y'];cases D.cell[b]? <;>rfl};unfold Am Dh oD;simp only[stN,e]
def HU{o:Option AM}(h:Wo o D):Cs o:=⟨by rw[h.n];exact h.ok.n1,by rw[h.n];exact h.ok.n2,λq b a c=>by
  have:=O6 h.ok a.1 (by have:=a.2;rw[h.n]at this;exact this) c;unfold inA;rw[h.step q b c,h.n];exact this⟩
def AjV(D:DM):Prop:=∀row∈D.next,∀k,k<row.length->∃g,g<256/\D.cell[g]?=zY (k:Int)
structure Pw(D:DM)(d:PA):Prop where
 ok:D.Ok
 cols:AjV D
 n:D.next.length=d.n
 st:∀q b:Nat,q<d.n->b<256->Dh D (q:Int) b=(d.st q b:Int)
 fi:∀q:Nat,q<d.n->L7 D (q:Int)=d.fi q
def Pw.pa(h:Pw D d):FR (oD D) d:=⟨h.n,λq b a c=>by rw[(HV h.ok).step _ _ c];exact h.st q b a c,λq a=>by rw[(HV h.ok).fin];exact h.fi q a⟩
def XZ{sets:List (BitVec 256)}{rows:List (List Nat)}{reps:List Int}{fl:List Bool}(b:∀row∈rows,row.length=(Ak sets 256).1.length):AjV ⟨N' (Ak sets 256).2,reps,rows.map AG,fl⟩:=λr c k i=>by
 obtain⟨row,a,rfl⟩:=List.mem_map.1 c;have e:(AG row).length=row.length:=by unfold AG;rw[e_]
 have⟨g,d⟩:=Ac (l:=(Ak sets 256).1) (k:=k) (by rw[<-b row a];omega);have⟨f,h⟩:=(CG sets 256).first k g d
 exact⟨g,f,HT h⟩
def Pw.use(h:Pw D d)(z:d.Ok)(i:q<d.n):Er D.next D.final q↔d.Live q:=by constructor;{intro j;induction j with|@fin q hf=>refine .fin i ?_;rw[<-h.fi q i];simp[L7,hf]|@step q t row a m j ih=>have⟨k,y⟩:=xB m;have v:=(T_.1 y).1;have⟨g,w,r⟩:=h.cols row (d_ a) k v;have e:Dh D (q:Int) g=(t:Int):=EH a r y;rw[h.st q g i w]at e;have s:d.st q g=t:=zO;have o:=z.cl q g i w;rw[s]at o;exact .step (b:=g) i w (by rw[s];exact ih o)};intro j;induction j with|@fin q hq' hf=>rw[<-h.fi q hq']at hf;have x:=h.ok.fl;have⟨f,p⟩:=Ac (l:=D.final) (k:=q) (by rw[x,h.n];exact hq');refine .fin ?_;rw[p];have:L7 D (q:Int)=f:=by{simp[L7,p]};rw[<-this,hf]|@step q b hq' hb j ih=>have⟨row,a⟩:=Ac (l:=D.next) (k:=q) (by rw[h.n];exact hq');have⟨c,r⟩:=Ac (l:=D.cell) (k:=b) (by rw[h.ok.cell];exact hb);have⟨G,A,B⟩:=h.ok.rows row (d_ a);have⟨C,H⟩:=A c (d_ r);obtain⟨k,rfl⟩:=xR C;have⟨t,m⟩:=Ac (l:=row) (k:=k) zO;have⟨E,F⟩:=B t (d_ m);obtain⟨u,rfl⟩:=xR E;have e:Dh D (q:Int) b=(u:Int):=EH a r m;rw[h.st q b hq' hb]at e;have s:d.st q b=u:=zO;rw[s]at ih;exact .step a (d_ m) (ih (by rw[h.n]at F;omega))
def Ao1{B:DM}(l:A.Ok)(m:B.Ok):JX (Bl (oD A) (oD B)) ((0,0):Int×Int) (Mc (oD A) (oD B)) (Cn A++Cn B):=by have bA:=HV l;have f:=HV m;have sa:Cs (oD A):=HU bA;have sb:Cs (oD B):=HU f;have n:=sa.n1;have o:=sb.n1;refine⟨⟨⟨tY _,zO⟩,tY _,zO⟩,λx c e=>?_,λg c a b hs x e=>?_⟩;{unfold Bl;split;{rename_i h;have i:=sa.step x.1 c e.1 h;have j:=sb.step x.2 c e.2 h;exact⟨i,j⟩};exact e};unfold Bl;rw[J_ a,J_ b,bA.step _ _ a,bA.step _ _ b,f.step _ _ a,f.step _ _ b];have i:=Ob (D:=A) a b (λd k=>(By.1 hs d (yO _ k))) x.1;have j:=Ob (D:=B) a b (λd k=>(By.1 hs d (xX _ k))) x.2;rw[i,j]
def AoN{B:DM}{i j:PA}{a:Nat}{m:Int}{ends:Bool->Bool->Bool}(J:∀x y,Hp a x y=ends x y)(p:Pw A i)(q:Pw B j)(t:i.Ok)(u:j.Ok)(h:Rs A B (oD A) (oD B) a m H v e):
  match wK m ends i j with
   | .error K=>e=K
   | .ok d=>e=0/\∃D,Fe (H_ H) H v D/\Pw D d:=by
 unfold Rs at h;unfold wK;by_cases C:m<1\/4096<m
 ·rw[J_ C]at h ⊢;exact h
 ·rw[I_ C]at h ⊢;have w:=Ao1 p.ok q.ok;have g:1<=m.toNat:=zO
  have b:nN (oD A) (oD B) m.toNat=(Dt m.toNat (Bl (oD A) (oD B)) (K9 A B) ((0,0):Int×Int)).map Prod.fst:=by
   rw[show K9 A B=(Ak (Cn A++Cn B) 256).1 from rfl,w.detD g];rfl
  rw[<-YY p.pa q.pa t u]at b;cases r:sF i j m.toNat with
  | none=>
    rw[r]at b;cases o:Dt m.toNat (Bl (oD A) (oD B)) (K9 A B) ((0,0):Int×Int)with
    | none=>rw[o]at h;exact h
    | some z=>rw[o]at b;cases b
  | some F=>
    rw[r]at b;cases o:Dt m.toNat (Bl (oD A) (oD B)) (K9 A B) ((0,0):Int×Int)with
    | none=>rw[o]at b;cases b
    | some z=>
      have⟨F',rows⟩:=z;rw[o]at b h;have E:F.map ZR=F':=Ap2.inj b;subst E;have⟨L,M⟩:=h;have⟨N,G,O⟩:=lV (fin:=λx:Int×Int=>Hp a (AL (oD A) x.1) (AL (oD B) x.2)) w g zO o rfl;have⟨g1,g2,Q⟩:=Lt (step:=GK i j) (start:=(0,0)) (most:=m.toNat) (F:=F) g r
      have s:∀x∈F,x.1<i.n/\x.2<j.n:=Yf (step:=GK i j) (start:=(0,0)) (most:=m.toNat) (P:=λx=>x.1<i.n/\x.2<j.n) g ⟨t.pos,u.pos⟩ (λx c k=>by
        unfold GK;split
        ·rename_i l;exact⟨t.cl _ _ k.1 l,u.cl _ _ k.2 l⟩
        ·exact k) r
      have I:=MM (K':=Int×Int) (f:=ZR) (step':=Bl (oD A) (oD B)) (fin':=λx:Int×Int=>Hp a (AL (oD A) x.1) (AL (oD B) x.2)) (fin:=qF ends i j) g1 (λy _ z _ e=>by
        have E:(y.1:Int)=(z.1:Int):=congrArg Prod.fst e;have e2:(y.2:Int)=(z.2:Int):=congrArg Prod.snd e;exact Prod.ext zO zO) (λx k c l=>by
        unfold GK Bl;rw[J_ l,J_ l];exact Prod.ext (p.pa.st _ _ (s x k).1 l) (q.pa.st _ _ (s x k).2 l)) (λx k=>by
        show Hp a (AL (oD A) (x.1:Int)) (AL (oD B) (x.2:Int))=ends (i.fi x.1) (j.fi x.2);rw[p.pa.fi _ (s x k).1,q.pa.fi _ (s x k).2,J]) G.st G.fi
      have l:=XZ (sets:=Cn A++Cn B) (rows:=rows) (reps:=N' (K9 A B)) (fl:=(F.map ZR).map λx:Int×Int=>Hp a (AL (oD A) x.1) (AL (oD B) x.2)) (Tn w g o).1.cols;exact⟨L,_,M,N,l,by rw[O,e_];rfl,I.1,I.2⟩
def AgZ{a:P_}(y:1<=b)(z:b<=4096)(A:∀k,S k->k<H.size)(h:qJ S H v a):Ai prog 60 #[v,A_ b] H λr H'=>D_ (H_ H) H H'/\∃l:List v_,l.length=259/\l.all (·.oneCell')=zW/\(∃x n c,l[257]?=zY (.slice x n c))/\match HN b a with | .error e=>r= .tuple #[.agg l.toArray,A_ e]| .ok d=>r= .tuple #[.agg l.toArray,A_ 0]/\∃D,Fe (Cr H H') H' (.agg l.toArray) D/\Pw D d:=by
 have B:HN b a=match L3 a b with
   | .error e=>.error e
   | .ok F=>.ok (vS (Bf a) (λX=>zT (a.fin∈X)) F):=rfl
 rw[B];obtain⟨m,rfl⟩:=xR (zO:0<=b);rw[Ye zO zO];refine(AlK A h (budget:=m) zO zO).mono λr H' ⟨C,i⟩=>⟨C,?_⟩;have g:=AnT a (most:=m) zO;cases j:Dt m (Bf a) (Q6 a) (L1 a)with|none=>rw[j]at i g;rw[<-g];have⟨l,E,G,I,J⟩:=i;exact⟨l,G,I,J,E⟩|some q=>have⟨F,rows⟩:=q;rw[j]at i g;rw[<-g];obtain⟨w,rfl,p⟩:=i;have⟨K,s,L⟩:=AnJ zO zO j rfl;have⟨M,O⟩:=LV zO j;have N:=XZ (sets:=EF a) (rows:=rows) (reps:=N' (Q6 a)) (fl:=F.map λl=>zT (a.fin∈l)) M.cols;have⟨g1,g2,P⟩:=Lt (step:=Bf a) (start:=L1 a) (most:=m) (F:=F) zO (by{have:UW a m=zY F:=g.symm;exact this});have t:=MM (K':=List Int) (f:=id) (step':=Bf a) (fin':=λX=>zT (a.fin∈X)) (fin:=λX=>zT (a.fin∈X)) g1 (λ_ _ _ _ e=>e) (λ_ _ _ _=>rfl) (λ_ _=>rfl) (s1:=Dh _) (f1:=L7 _) (by rw[List.map_id];exact s.st) (by rw[List.map_id];exact s.fi);have o:=p;obtain⟨u,ra,rc,na,nc,fa,fc,rfl,-,-,-⟩:=o;exact⟨_,Av u,Be rfl rfl rfl,⟨_,_,_,Dp u⟩,rfl,_,p,K,N,L,t.1,t.2⟩
def kR(S:Nat->Prop)(a:Option Addr)(c:Nat)(xs:List Bool):Pc:=⟨S,λH=>Y_ Ay S H a c xs,λh hp=>hp.frame h⟩
noncomputable def uN(d:PA)(k:Nat):List Int:=(AoW d.n).map λi=>if i<k then(d.place i:Int)else 0
def Pl:(uN d k).length=d.n:=by simp[uN]
def aV:uN d 0=An9 d.n 0:=by refine yP λi=>?_;unfold uN;rw[Y',wU];by_cases h:i<d.n;{rw[wJ h];simp[h]};rw[zC (by simpa using h)];simp[h]
def TP(h:i<d.n):(uN d k)[i]?=zY (if i<k then(d.place i:Int)else 0):=by unfold uN;rw[Y',wJ h];rfl
def TO(h:i<d.n):(uN d d.n)[i]?=zY (d.place i:Int):=by rw[TP h,J_ h]
def AiO(h:k<d.n):(uN d k).set k (d.place k:Int)=uN d (k+1):=by refine yP λi=>?_;by_cases a:i<d.n;{rw[TP a,List.getElem?_set,Pl];by_cases e:k=i;{subst e;rw[J_ rfl,J_ h,J_ (Nat.lt_succ_self _)]};rw[I_ e,TP a];by_cases b:i<k;{rw[J_ b,J_ zO]};rw[I_ b,I_ zO]};rw[zC (by rw[yT,Pl];omega),zC (by rw[Pl];omega)]
def Ts(d:PA)(q t k:Nat):Bool:=(AoW k).any λi=>d.st q i==t
def aE{t:Nat}(h:d.st q k=t):Ts d q t (k+1)=zW:=by unfold Ts;rw[oW];exact⟨k,zZ,by simpa using h⟩
def AhO{t:Nat}(h:d.st q k≠t):Ts d q t (k+1)=Ts d q t k:=by unfold Ts;rw[xW,List.any_append];simp[h]
def PD(d:PA)(q t k:Nat):Nat->Bool:=λi=>zT (i<k)&&zT (d.st q i=t)
section
variable{t:Nat}
def Z2:Fg (PD d q t 0)=An9 256 (.bool zU):=by rw[<-N5];exact II λb _=>by simp[PD]
def cP(a:k<256)(h:d.st q k=t):(Fg (PD d q t k)).set k (.bool zW)=Fg (PD d q t (k+1)):=by
 rw[Vh _ a];refine II λb _=>?_;unfold PD;by_cases e:b=k;{subst e;simp[h]};have c:zT (b<k+1)=zT (b<k):=by rw[decide_eq_decide];omega
 rw[c,n_ e,Bool.false_or]
def AgM(h:d.st q k≠t):Fg (PD d q t k)=Fg (PD d q t (k+1)):=by
 refine II λb _=>?_;unfold PD;by_cases e:b=k;{subst e;simp[h]};have a:zT (b<k+1)=zT (b<k):=by rw[decide_eq_decide];omega
 rw[a]
def cO:Fg (PD d q t 256)=AV (d.set q t):=by unfold PA.set;rw[<-RD];exact II λb a=>by simp[PD,a]
def Vj:Ts d q t 256=(d.set q t != 0#256):=by rw[Bool.eq_iff_iff,bne_iff_ne];unfold Ts PA.set;constructor;{intro h e;have⟨i,a,b⟩:=oW.1 h;have a:=yR.1 a;have:=congrArg (λx:BitVec 256=>x.getLsbD i) e;simp only[Jg _ a]at this;simp only[beq_iff_eq]at b;simp[b]at this};intro h;cases c:(AoW 256).any λi=>d.st q i==t with|true=>rfl|false=>exfalso;apply h;refine BitVec.eq_of_getLsbD_eq λi a=>?_;rw[Jg _ a];have:=List.any_eq_false.1 c i (yR.2 a);simpa using this
end
def AjL(h:Pw D d)(a:d.Ok):JL D=KO d:=by unfold JL KO;rw[h.n];refine List.map_congr_left λq b=>?_;unfold PA.use;rw[decide_eq_decide];exact h.use a (yR.1 b)
noncomputable abbrev pL(D:DM)(ra na fa:Option Addr)(rc nc fc:Nat)(SU:Nat->Prop)(p y x pb:Nat)(ua:Option Addr)(uc:Nat)(d:PA)(ea:Option Addr)(ec:Nat)(es:List u_)(rest:List Pc):List Pc:=
 pB 43 p (AU D.cell (.slice ra D.reps.length rc) (.slice na D.next.length nc) (.slice fa D.final.length fc))::pB 134 y JV::kR SU ua uc (KO d)::pS tI 3 (N_ pb) d.n d.n (uN d d.n)::pB 134 x (s_ ⟨d.count+1,0,d.count,es⟩ (.slice ea es.length ec))::pS DS 189 ea es.length ec es::rest
def bG(hS:∀k,S k->k<H.size)(M:Fe S H v D)(hd:Pw D d)(au:d.Ok)(d3:d.n<=4096):
  Ai prog 58 #[v] H λr H'=>D_ (H_ H) H H'/\∃N O,r= .agg (s_ (A9 d) (.slice N (A9 d).edges.length O)).toArray/\Z_ DS none_ H' H.size 189 (.slice N (A9 d).edges.length O) (A9 d).edges:=by
 have X:=M.len;have d4:=hd.n;have aw:=au.pos;have ah:=KP (d:=d);refine Ai.of_vc func58 rfl (call58 _) (KY M λra rc na nc J fc he h1 h2 h3=>?_);subst he;intro p H1 hp br bu bv;have F_:=(St.nil H).box hp br bu bv;refine Af _ JV LG rfl ?_;intro y H2 hy bw bx bz;have K:=F_.box hy bw bx bz;clear F_;refine PQ (K.blk 0 rfl) X zA (h1.frame (K.old.mono hS)) (h2.frame (K.old.mono hS)) (h3.frame (K.old.mono hS)) λv1 c1=>(Ae.mk (AfU (λk F=>K.up (hS k F)) c1 hd.ok) ?_);rintro _ H3 ⟨c2,d5,Y,Z,rfl,P⟩;rw[AjL hd au]at P ⊢;have a0:=K.add c2 (kR (Cr H2 H3) Y Z (KO d)) P λk F=>F;generalize Cr H2 H3=SU at a0;clear K P;have c3:=Fz (d:=d) (q:=0) aw;refine U' (i:=0) Ci (a0.at_ 2 rfl:Y_ Ay SU H3 Y Z (KO d)) c3 rfl ?_;rintro b6 o6 c6 d6 c4 rfl;refine lT zE c4.one ?_;cases am:d.use 0 with
 | false=>
   refine Au underlying134 rfl _ LG [A_ 2,A_ 0,A_ 1,.slice zV 0 0] zX (AI (cs:=[A_ 2,A_ 0,A_ 1,.slice zV 0 0]) a0 1 rfl rfl (M_ _) rfl λH6 U=>?_);refine L_ (cs:=[A_ 2,A_ 0,A_ 1,.slice zV 0 0]) My ((U.blk 1 rfl).cells λj v M=>by rw[K_];exact M) zA ?_;(conv=>whnf);have e:A9 d=⟨2,0,1,[]⟩:=by unfold A9;rw[I_ (by rw[am];decide)]
   rw[e];exact⟨U.old,zV,0,rfl,Z_.nil⟩
 | true=>
 have eL:A9 d=⟨d.count+1,0,d.count,d.edgesTo d.n⟩:=by unfold A9;rw[J_ am]
 have d7:=PA.count_le (d:=d);rw[eL,ah];refine DH AD rfl zO zO zO zO ?_;intro pb H6 c5 c7 ax c9;rw[O']at ax ⊢;have cd:tI.reps none_ H6 (An9 d.n (Value.int .i64 0)) (An9 d.n 0):=by
  refine Em zZ λi v x h1 h2=>?_;rw[RL h1];rw[wU]at h2;split at h2
  ·cases h2;exact⟨rfl,Hw ⟨zO,zO⟩⟩
  ·cases h2
 have U:=a0.new (T:=tI) (n:=d.n) (xs:=An9 d.n 0) c5 c7 (by simpa using ax) c9 cd zZ (by unfold maxLen;omega);rw[<-aV]at U;clear a0;(conv=>whnf);refine A0.mk [5,6] (λk:Nat=>[A_ (d.place k:Int),A_ k]) (λk G=>k<=d.n/\St H G [pB 43 p (AU D.cell (.slice ra D.reps.length rc) (.slice na D.next.length nc) (.slice J D.final.length fc)),pB 134 y JV,kR SU Y Z (KO d),pS tI 3 (N_ pb) d.n d.n (uN d k)]) (λk _=>d.n-k) ?_ ?_
 ·(conv=>whnf);exact⟨0,rfl,p_ _,U⟩
 ·clear U;rintro k H7 ce ⟨F,ai⟩;refine AB.m2 (λhz=>?_) (λhz=>?_)
  ·have ay:k<d.n:=zO
   have d8:=PA.place_le (d:=d) k;have aj:=PA.place_succ (d:=d) k;refine A7.run (ix AD zO zO ?_);refine LB (j:=k) (x:=(d.place k:Int)) ai 3 E_ rfl rfl zO (by rw[Pl];omega) rfl (λH' _=>⟨rfl,Hw ⟨zO,zO⟩⟩) λH8 L=>?_;rw[AiO ay]at L;clear ai;refine DY (i:=k) Ci (L.at_ 2 rfl:Y_ Ay SU H8 Y Z (KO d)) ah.symm (Fz ay) rfl ?_;rintro b8 o8 c8 d9 cg rfl;refine lT zE cg.one ?_;cases P:d.use k with
   | true=>
     rw[P,J_ rfl]at aj;(conv=>whnf);rw[W_ (x:=(d.place k:Int)+1) zO];(conv=>whnf);rw[R_ k zO];exact⟨rfl,k+1,by rw[aj];rfl,⟨zO,L⟩,zO⟩
   | false=>
     rw[P,I_ zQ]at aj;(conv=>whnf);rw[R_ k zO];exact⟨rfl,k+1,by rw[aj];rfl,⟨zO,L⟩,zO⟩
  ·obtain rfl:k=d.n:=zO
   have ch:d.place d.n=d.count:=rfl;rw[ch];(conv=>whnf);rw[W_ (x:=(d.count:Int)+1) zO];refine Au underlying134 rfl _ LG [A_ ((d.count:Int)+1),A_ 0,A_ (d.count:Int),.slice zV 0 0] zX (Af _ JV LG rfl ?_);intro x H8 hx cj ck cm;have L:=ai.box hx cj ck cm;clear ai;refine AI (cs:=[A_ ((d.count:Int)+1),A_ 0,A_ (d.count:Int),.slice zV 0 0]) L 4 rfl rfl (M_ _) rfl λH9 az=>?_;have ao:=az.nils DS 189;clear L az;(conv=>whnf);refine A0.mk [8] (λq:Nat=>[A_ q]) (λq G=>q<=d.n/\∃N O,St H G (pL D ra na J rc nc fc SU p y x pb Y Z d N O (d.edgesTo q) [])) (λq _=>d.n-q) ?_ ?_
   ·(conv=>whnf);exact⟨0,rfl,p_ _,zV,0,ao⟩
   ·clear ao;rintro q H11 bo ⟨hq,N,O,m⟩;refine AB.m2 (λco=>?_) (λco=>?_)
    ·have a1:q<d.n:=zO
     have b0:=PA.place_le (d:=d) q;have da:=PA.edges_place d q;refine A7.run (DY (i:=q) Ci (m.at_ 2 rfl:Y_ Ay SU H11 Y Z (KO d)) ah.symm (Fz a1) rfl ?_);rintro db dc de cx b4 rfl;refine lT zE b4.one ?_;cases P:d.use q with
     | false=>
       (conv=>whnf);rw[R_ q zO];have W:d.edgesTo (q+1)=d.edgesTo q:=by rw[Eg,I_ (by rw[P];decide),yU]
       rw[<-W]at m;exact⟨rfl,q+1,rfl,⟨zO,N,O,m⟩,zO⟩
     | true=>
     have e0:d.edgesTo q++d.hopsTo q 0=d.edgesTo q:=yU _;rw[<-e0]at m;(conv=>whnf);refine A0.mk [9] (λt:Nat=>[A_ t]) (λt G=>t<=d.n/\∃N O,St H G (pL D ra na J rc nc fc SU p y x pb Y Z d N O (d.edgesTo q++d.hopsTo q t) [])) (λt _=>d.n-t) ?_ ?_
     ·(conv=>whnf);exact⟨0,rfl,p_ _,N,O,m⟩
     ·clear m;rintro t H17 bp ⟨ht,s,w,g⟩;refine AB.m2 (λcp=>?_) (λcp=>?_)
      ·have b5:t<d.n:=zO
       have cq:=PA.hops_len d q t;have df:=PA.place_le (d:=d) t;obtain⟨B,C⟩:∃B,B=d.edgesTo q++d.hopsTo q t:=⟨_,rfl⟩;have b7:B.length<=1056768:=by rw[C,O_];have:=vY 257 (yS b0 (zO:q<=4096));omega
       rw[<-C]at g;refine A7.run (Af _ (An9 256 (.bool zU)) rfl rfl ?_);intro sx H18 cr b9 bd be;have a2:=g.box cr b9 bd be;clear g;rw[<-Z2 (d:=d) (q:=q) (t:=t)]at a2;(conv=>whnf);refine A0.mk [11,12] (λk:Nat=>[.bool (Ts d q t k),A_ k]) (λk G=>k<=256/\(d.use t=zU->k=0)/\St H G (pL D ra na J rc nc fc SU p y x pb Y Z d s w B [pB 75 sx (Fg (PD d q t k))])) (λk _=>256-k) ?_ ?_
       ·(conv=>whnf);exact⟨0,rfl,zO,λ_=>rfl,a2⟩
       ·clear a2;rintro k H19 bq ⟨F,bf,a⟩;by_cases a3:k<256
        ·have d1:zT ((k:Int)<256)=zW:=t_;(conv=>whnf);rw[d1];refine DY (i:=t) Ci (a.at_ 2 rfl:Y_ Ay SU H19 Y Z (KO d)) ah.symm (Fz b5) rfl ?_;rintro dg dh di cy bg rfl;refine lT zE bg.one ?_;cases ak:d.use t with
         | false=>
           obtain rfl:=bf ak;have W:d.hopsTo q (t+1)=d.hopsTo q t:=by rw[EV,ak];simp
           (conv=>whnf);rw[R_ t zO];rw[C,<-W]at a;exact⟨rfl,t+1,rfl,⟨zO,s,w,a.pick [0,1,2,3,4,5] zQ⟩,zO⟩
         | true=>
         obtain⟨row,c,u,hr,hc,bh,ct,-⟩:=hd.ok.at (q:=q) (b:=k) zO a3;have cu:(u:Int)=(d.st q k:Int):=by rw[<-hd.st q k a1 a3];exact(EH hr hc bh).symm
         refine A7.run (Ap.lex rfl zX (fa EQ ?_));refine C_ (v:=.slice na D.next.length nc) D7 (by rw[(a.blk 0 rfl).cell,K_];exact Dp X) zA ?_;refine U' (i:=q) Dj (h2.frame (a.old.mono hS)) hr rfl ?_;rintro b2 o2 dj cz a4 ⟨xa,xc,rfl,cw⟩;refine C_ C4 a4.one zA (fa WR (V' mJ zO zO ?_));refine C_ (v:=A_ c) E_ (by rw[(a.blk 0 rfl).cell,(zO:0+0+(k:Int).toNat*1=k)];exact Yi hc) zA ?_;refine U' AD cw bh rfl ?_;rintro b3 o3 dk d0 a5 ⟨rfl,-⟩;refine lT E_ a5.one ?_;rw[cu];by_cases a6:d.st q k=t
         ·have dq:(((d.st q k:Nat):Int)==(t:Int))=zW:=by rw[a6];exact beq_self_eq_true _
          (conv=>whnf);rw[dq];refine V' FT zO zO ?_;refine Bb a 6 zE rfl (by rw[DV];omega) rfl λH20 E=>?_;rw[(zO:0+(k:Int).toNat*1=k),cP a3 a6]at E;(conv=>whnf);rw[R_ k zO];exact⟨rfl,k+1,by rw[aE a6];rfl,⟨zO,(λh=>by cases h),E⟩,zO⟩
         ·have dq:(((d.st q k:Nat):Int)==(t:Int))=zU:=beq_eq_false_iff_ne.2 zO;(conv=>whnf);rw[dq];(conv=>whnf);rw[R_ k zO];rw[AgM a6]at a;exact⟨rfl,k+1,by rw[AhO a6];rfl,⟨zO,(λh=>by cases h),a⟩,zO⟩
        ·have d1:zT ((k:Int)<256)=zU:=g_;obtain rfl:k=256:=zO
         have ak:d.use t=zW:=by
          cases h:d.use t with
          | false=>exact absurd (bf h) zQ
          | true=>rfl
         rw[cO]at a;(conv=>whnf);rw[d1];cases hx:Ts d q t 256 with
         | false=>
           rw[Vj]at hx;have W:d.hopsTo q (t+1)=d.hopsTo q t:=by rw[EV,hx];simp
           (conv=>whnf);rw[R_ t zO];rw[C,<-W]at a;exact⟨rfl,t+1,rfl,⟨zO,s,w,a.pick [0,1,2,3,4,5] zQ⟩,zO⟩
         | true=>
           rw[Vj]at hx;have W:d.hopsTo q (t+1)=d.hopsTo q t++[C3 (d.place q) (d.place t) (d.set q t)]:=by
            rw[EV,J_];rw[ak,hx];rfl
           have V:∀i,i<7->i≠5->∀b p',(pL D ra na J rc nc fc SU p y x pb Y Z d s w B [pB 75 sx (AV (d.set q t))]:List Pc)[i]?=zY p'->p'.foot b->b<H19.size/\¬Q_ (.slice s B.length w) b:=λi _ h6 b p' hp hb=>
            ⟨(a.in_ i hp hb).2,λh=>a.apart2 (i:=i) (j:=5) hp rfl h6 b hb (.inl h)⟩
           have a7:=V 4 zQ zQ x _ rfl rfl;have Q:=V 3 zQ zQ pb _ rfl (.inl ⟨0,_,_,rfl⟩);have ap:=V 6 zQ zQ sx _ rfl rfl;refine Ap.heldZ (λk2=>k2<H19.size/\¬Q_ (.slice s B.length w) k2) [15] (sq [0,1,2,3,4,5,6,7,8,9,10,11] (.f 12 (.f 13 (sq [14] (.f 15 .e))))) rfl zX (fa CS ?_);refine C_ (v:=.slice s B.length w) EB ((a.blk 4 rfl).ce rfl) a7 ?_;refine ix AD zO zO (C_ (v:=A_ (d.place q:Int)) E_ (PH a 3 rfl (TO a1)) Q (ix AD zO zO (C_ (v:=A_ (d.place t:Int)) E_ (PH a 3 rfl (TO b5)) Q ?_)));refine L_ (cs:=AV (d.set q t)) (by rw[Bc];exact Zy) ((a.blk 6 rfl).cells λj v M=>by rw[K_];exact M) ap ?_;refine QE (d.place q) (d.place t) (d.set q t) (Aj Ec (DP (C3 (d.place q) (d.place t) (d.set q t))) rfl (Cc _) zQ zQ ?_);intro z H20 a8 bi a9 A;have E:=a.skip a8 A;refine⟨A.mono λk F=>by have:=F.1;omega,?_⟩;refine GM (ys:=[C3 (d.place q) (d.place t) (d.set q t)]) E 5 Ec rfl (a9.cells (o:=0) (cs:=DP (C3 (d.place q) (d.place t) (d.set q t))) λj v M=>by rw[K_];exact M) (Ty.reps_one ⟨rfl,M9 zO zO _ _⟩) rfl (λu P=>yC.1 (FY _) u P) (by unfold maxLen;simp;omega) (by simp;omega) λaq ar H21 ab ae=>?_;refine⟨(A.mono λk F=>by have:=F.1;omega).trans (ae.mono λk F=>⟨by have:=F.1;omega,F.2⟩),?_⟩;refine fa CS (Bb ab 4 EB rfl (zQ:3<4) rfl λH22 I=>?_);(conv=>whnf);rw[R_ t zO];have bj:B++[C3 (d.place q) (d.place t) (d.set q t)]=d.edgesTo q++d.hopsTo q (t+1):=by rw[W,C,zS]
           have el:B.length+[C3 (d.place q) (d.place t) (d.set q t)].length=(d.edgesTo q++d.hopsTo q (t+1)).length:=by rw[<-bj];simp
           rw[el,bj]at I;have ag:=I.pick [0,1,2,3,4,5] zQ;exact⟨rfl,t+1,rfl,⟨zO,aq,ar,ag⟩,zO⟩
      ·obtain rfl:t=d.n:=zO
       have cq:=PA.hops_len d q d.n;obtain⟨B,C⟩:∃B,B=d.edgesTo q++d.hopsTo q d.n:=⟨_,rfl⟩;have b7:B.length<=1056768:=by rw[C,O_];have:=vY 257 (yS b0 (zO:q<=4096));omega
       rw[<-C]at g;have dl:=hd.ok.fl;have bm:D.final[q]?=zY (d.fi q):=by
        have⟨f,hf⟩:=Ac (l:=D.final) (k:=q) zO;rw[hf,<-hd.fi q a1];simp[L7,hf]
       refine fa Js ?_;refine C_ (v:=.slice J D.final.length fc) FX (by rw[(g.blk 0 rfl).cell,K_];exact Kf X) zA ?_;refine U' (i:=q) Ci (h3.frame (g.old.mono hS)) bm rfl ?_;rintro dm dn dp d2 bn rfl;refine lT zE bn.one ?_;cases hf:d.fi q with
       | false=>
         have W:d.edgesTo (q+1)=B:=by rw[Eg,J_ P,C];unfold PA.endE;rw[I_ (by rw[hf];decide),yU]
         (conv=>whnf);rw[R_ q zO];rw[<-W]at g;exact⟨rfl,q+1,rfl,⟨zO,s,w,g⟩,zO⟩
       | true=>
         have W:d.edgesTo (q+1)=B++[AK (d.place q) d.count]:=by rw[Eg,J_ P,C];unfold PA.endE;rw[J_ hf,zS]
         have V:∀i,i<6->i≠5->∀b p',(pL D ra na J rc nc fc SU p y x pb Y Z d s w B []:List Pc)[i]?=zY p'->p'.foot b->b<H17.size/\¬Q_ (.slice s B.length w) b:=λi _ h6 b p' hp hb=>
          ⟨(g.in_ i hp hb).2,λh=>g.apart2 (i:=i) (j:=5) hp rfl h6 b hb (.inl h)⟩
         have a7:=V 4 zQ zQ x _ rfl rfl;have Q:=V 3 zQ zQ pb _ rfl (.inl ⟨0,_,_,rfl⟩);refine Ap.heldZ (λk2=>k2<H17.size/\¬Q_ (.slice s B.length w) k2) [11] (sq [0,1,2,3,4,5,6,7] (.f 8 (.f 9 (sq [10] (.f 11 .e))))) rfl zX (fa CS ?_);refine C_ (v:=.slice s B.length w) EB ((g.blk 4 rfl).ce rfl) a7 ?_;refine ix AD zO zO (C_ (v:=A_ (d.place q:Int)) E_ (PH g 3 rfl (TO a1)) Q (QF (d.place q) d.count (Aj Ec (DP (AK (d.place q) d.count)) rfl (Cc _) zQ zQ ?_)));intro z H20 a8 bi a9 A;have E:=g.skip a8 A;refine⟨A.mono λk F=>by have:=F.1;omega,?_⟩;refine GM (ys:=[AK (d.place q) d.count]) E 5 Ec rfl (a9.cells (o:=0) (cs:=DP (AK (d.place q) d.count)) λj v M=>by rw[K_];exact M) (Ty.reps_one ⟨rfl,M9 zO zO _ _⟩) rfl (λu P=>yC.1 (FY _) u P) (by unfold maxLen;simp;omega) (by simp;omega) λaq ar H21 ab ae=>?_;refine⟨(A.mono λk F=>by have:=F.1;omega).trans (ae.mono λk F=>⟨by have:=F.1;omega,F.2⟩),?_⟩;refine fa CS (Bb ab 4 EB rfl (zQ:3<4) rfl λH22 I=>?_);(conv=>whnf);rw[R_ q zO];have el:B.length+[AK (d.place q) d.count].length=(d.edgesTo (q+1)).length:=by rw[W];simp
         rw[el,<-W]at I;have ag:=I.pick [0,1,2,3,4,5] zQ;exact⟨rfl,q+1,rfl,⟨zO,aq,ar,ag⟩,zO⟩
    ·obtain rfl:q=d.n:=zO
     have hb:=m.blk 4 rfl;refine L_ (cs:=s_ ⟨d.count+1,0,d.count,d.edgesTo d.n⟩ (.slice N (d.edgesTo d.n).length O)) My (hb.cells λj v M=>by rw[K_];exact M) zA ?_;refine AI (cs:=s_ ⟨d.count+1,0,d.count,d.edgesTo d.n⟩ (.slice N (d.edgesTo d.n).length O)) m 1 rfl rfl (M_ _) rfl λH12 R=>?_;rw[Ar (show(s_ ⟨d.count+1,0,d.count,d.edgesTo d.n⟩ (.slice N (d.edgesTo d.n).length O)).length=4 from rfl)]at R;refine L_ (cs:=s_ ⟨d.count+1,0,d.count,d.edgesTo d.n⟩ (.slice N (d.edgesTo d.n).length O)) My ((R.blk 1 rfl).cells λj v M=>by rw[K_];exact M) zA ?_;(conv=>whnf);exact⟨R.old,N,O,rfl,St.own R 5 rfl⟩
noncomputable def Fh(b:Int)(r:ReM):P_:=match(EI b r 0).2 with
 | .ok N=>N
 | .error _=>⟨2,0,1,[]⟩
def QO(b:Int)(r:ReM)(s a:Nat):(EI b r s).2=(EI b r a).2:=by cases r with|and_ x y=>exact Lu (λs a=>F9 b x s a) (λs a=>F9 b y s a) s a|minus x y=>exact Lu (λs a=>F9 b x s a) (λs a=>F9 b y s a) s a|_=>rfl
section
variable{σ α β:Type}{x:σ×Except Int α}{f:α->σ->σ×Except Int β}
def GC{a:α}(h:x.2= .ok a):Bv x f=f a x.1:=by have⟨s,r⟩:=x;have h:r= .ok a:=h;subst h;rfl
def Fx(h:x.2= .error e):(Bv x f).2= .error e:=by have⟨s,r⟩:=x;have h:r= .error e:=h;subst h;rfl
end
def XE{s:Nat}(h:(EI b r s).2= .ok N):∃d:PA,N=A9 d/\d.Ok/\d.n<=4096:=by have a:∀{ends:Bool->Bool->Bool} {f g:Nat->Nat×Except Int PA},(C7 b ends f g s).2= .ok N->∃d:PA,N=A9 d/\d.Ok/\d.n<=4096:=fun{ends f g} h=>by{obtain⟨j,k,l,m,d,-,-,c,rfl,-⟩:=KF (show C7 b ends f g s=((C7 b ends f g s).1,.ok N)from Prod.ext rfl h);obtain⟨F,-,-,-,-,e,-,i,-,-⟩:=Ml c;exact⟨d,rfl,e,i⟩};cases r with|and_ x y=>exact a h|minus x y=>exact a h|_=>cases h
def JJ{s:Nat}(h:(EI b r s).2= .ok N):E8 N=zW/\N.edges.length<=33554432:=by obtain⟨d,rfl,c,a⟩:=XE h;exact⟨Oq zO,Lh a⟩
def QJ{x:Nat×Except Int P_}{n:Nat}(h:x.2= .ok N)(a:E8 N=zW):(CP x n).2= .ok ⟨n+N.start.toNat,n+N.fin.toNat,N.st.toNat,N.edges.map (zB n)⟩:=by unfold CP;rw[GC h];simp only[a,if_true]
def V7(h:Dl ns r i l)(hs:∀x∈l,∃N,(EI b x.1 0).2= .ok N):∀n s,(AY b r n s).2= .ok (Bp (Fh b) r n):=by induction h with|eps=>intro n s;rfl|cls=>intro n s;rfl|@cat x y i j k d l m _ _ _ _ _ ih1 ih2=>intro n s;simp only[AY,Bp];rw[GC (ih1 (λz a=>hs z (yO _ a)) n s),GC (ih2 (λz a=>hs z (xX _ a)) _ _)]|@alt x y i j k d l m _ _ _ _ _ ih1 ih2=>intro n s;simp only[AY,Bp];rw[GC (ih1 (λz a=>hs z (yO _ a)) _ s),GC (ih2 (λz a=>hs z (xX _ a)) _ _)]|@star x i j d l _ _ _ ih=>intro n s;simp only[AY,Bp];rw[GC (ih hs _ s)]|@and_ x y i _=>intro n s;have⟨N,c⟩:=hs _ (V_.2 rfl);have e:Fh b (.and_ x y)=N:=by{unfold Fh;rw[c]};rw[Ds];show(CP (EI b (.and_ x y) s) n).2=_;rw[QJ (by rw[QO b _ s 0];exact c) (JJ c).1];simp only[Bp,e]|@minus x y i _=>intro n s;have⟨N,c⟩:=hs _ (V_.2 rfl);have e:Fh b (.minus x y)=N:=by{unfold Fh;rw[c]};rw[Ds];show(CP (EI b (.minus x y) s) n).2=_;rw[QJ (by rw[QO b _ s 0];exact c) (JJ c).1];simp only[Bp,e]
def dB(h:Dl ns r i l):∀x∈l,∀e,(EI b x.1 0).2= .error e->∀n s,∃a,(AY b r n s).2= .error a:=by induction h with|eps=>intro x p;cases p|cls=>intro x p;cases p|@cat x y i j k d l m _ _ _ _ _ ih1 ih2=>{intro z c e f n s;simp only[AY];rcases k_.1 c with c | c;{have⟨a,g⟩:=ih1 z c e f n s;exact⟨a,Fx g⟩};cases o:(AY b x n s).2 with|error a=>exact⟨a,Fx o⟩|ok A=>rw[GC o];have⟨a,g⟩:=ih2 z c e f (n+A.u) (AY b x n s).1;exact⟨a,Fx g⟩}|@alt x y i j k d l m _ _ _ _ _ ih1 ih2=>{intro z c e f n s;simp only[AY];rcases k_.1 c with c | c;{have⟨a,g⟩:=ih1 z c e f (n+1) s;exact⟨a,Fx g⟩};cases o:(AY b x (n+1) s).2 with|error a=>exact⟨a,Fx o⟩|ok A=>rw[GC o];have⟨a,g⟩:=ih2 z c e f (n+1+A.u) (AY b x (n+1) s).1;exact⟨a,Fx g⟩}|@star x i j d l _ _ _ ih=>intro z c e f n s;simp only[AY];have⟨a,g⟩:=ih z c e f (n+1) s;exact⟨a,Fx g⟩|@and_ x y i _ | @minus x y i _=>intro z c e f n s;rw[V_.1 c]at f;rw[Ds];exact⟨e,Fx (by rw[QO b _ s 0];exact f)⟩
def Yg{a:P_}(d:1<=b)(f:b<=4096)(h:HN b a= .error e):e=40:=by have h:=(PP h).1;unfold L3 at h;rw[I_ zO]at h;cases c:UW a b.toNat with|none=>{rw[c]at h;injection h with h;exact h.symm}|some F=>rw[c]at h;cases h
def iH{ends:Bool->Bool->Bool}{a c:PA}(f:1<=b)(g:b<=4096)(h:wK b ends a c= .error e):e=40:=by unfold wK at h;rw[I_ zO]at h;cases d:sF a c b.toNat with|none=>{rw[d]at h;injection h with h;exact h.symm}|some F=>rw[d]at h;cases h
def Af9(c:1<=b)(d:b<=4096){ends:Bool->Bool->Bool}{s a:Nat}(i:∀s a e,f s=(a,.error e)->e=40)(j:∀s a e,g s=(a,.error e)->e=40)(h:C7 b ends f g s=(a,.error e)):e=40:=by rcases AN (show Bv _ _=_ from h)with h | ⟨l,m,-,h⟩;{exact i _ _ _ h};rcases AN h with h | ⟨n,o,-,h⟩;{exact j _ _ _ h};split at h;{rename_i k;cases h;exact iH c d k};cases h
def Zk(c:1<=b)(i:b<=4096){ends:Bool->Bool->Bool}{n s a:Nat}(j:∀s a e,f s=(a,.error e)->e=40)(k:∀s a e,g s=(a,.error e)->e=40)(h:CP (C7 b ends f g s) n=(a,.error e)):e=40:=by rcases AN (show Bv _ _=_ from h)with h | ⟨l,N,m,h⟩;{exact Af9 c i j k h};obtain⟨l,p,q,r,d,-,-,o,rfl,-⟩:=KF m;obtain⟨F,-,-,-,-,t,-,u,-,-⟩:=Ml o;rw[J_ (Oq zO)]at h;cases h
mutual
def IQ{b:Int}(c:1<=b)(d:b<=4096):∀(r:ReM) (n s a:Nat) (e:Int),AY b r n s=(a,.error e)->e=40
 | .eps,n,s,a,e,h=>by cases h
 | .cls t,n,s,a,e,h=>by cases h
 | .cat x y,n,s,a,e,h=>by
   simp only[AY]at h;rcases AN h with h | ⟨f,A,-,h⟩
   ·exact IQ c d x _ _ _ _ h
   ·rcases AN h with h | ⟨g,C,-,h⟩
    ·exact IQ c d y _ _ _ _ h
    ·cases h
 | .alt x y,n,s,a,e,h=>by
   simp only[AY]at h;rcases AN h with h | ⟨f,A,-,h⟩
   ·exact IQ c d x _ _ _ _ h
   ·rcases AN h with h | ⟨g,C,-,h⟩
    ·exact IQ c d y _ _ _ _ h
    ·cases h
 | .star x,n,s,a,e,h=>by
   simp only[AY]at h;rcases AN h with h | ⟨f,A,-,h⟩
   ·exact IQ c d x _ _ _ _ h
   ·cases h
 | .and_ x y,n,s,a,e,h=>by
   simp only[AY]at h;exact Zk c d (λs a e=>ID c d x s a e) (λs a e=>ID c d y s a e) h
 | .minus x y,n,s,a,e,h=>by
   simp only[AY]at h;exact Zk c d (λs a e=>ID c d x s a e) (λs a e=>ID c d y s a e) h
def ID{b:Int}(c:1<=b)(f:b<=4096):∀(r:ReM) (s g:Nat) (e:Int),AW b r s=(g,.error e)->e=40:=λr s g e h=>by
 rcases AN (show Bv _ _=_ from h)with h | ⟨i,A,-,h⟩
 ·exact IQ c f r _ _ _ _ h
 ·split at h
  ·cases h;rfl
  ·cases a:HN b ⟨A.u,A.p,A.q,A.es⟩with
   | error e=>simp only[a]at h;cases h;exact Yg c f a
   | ok d=>simp only[a]at h;cases h
end
end
def B_.absorbG{α β:Type}{T:Ty α}{T2:Ty β}{e:x_}{ra:Option Addr}{n cap rn rc:Nat}{xs:List α}{row:List β}{rest:List Pc}(c:B_ B H0 H (pN T S e a n cap xs::pS T2 t ra rn rc row::rest)):B_ B H0 H (pN T (λk=>S k\/Q_ (.slice ra rn rc) k) e a n cap xs::rest):=by have d:=c.apart2 (i:=0) (j:=1) rfl rfl zQ;have f:=c.at_ 0 rfl;refine(c.join 0 1 rfl rfl zQ).say 0 rfl _ ⟨f.1.mono λk b=>.inl b,λk b=>?_⟩ λk b=>?_;{rcases b with b | b;{exact f.2 k b};exact λh=>d k (.inl h) (.inl b)};rcases b with b | b | b;{exact .inl (.inl b)};{exact .inl (.inr b)};exact .inr (.inl b)
def AnE{α:Type}{T:Ty α}{e:x_}{n cap:Nat}{xs:List α}{x:α}{rest:List Pc}{t ty by_ m:Nat}{z:v_}{ds:List v_}(j:B_ B H0 H (pN T S e a n cap xs::rest))(s:SlT P t e T.size by_ z)(v:Bi H q 0 ds) (w:T.rep S H ds x) (y:m=1) (A:∀u∈ds,u.oneCell'=zW) (l:xs.length+1<=34359738368) (hby:by_<=1024)(k:∀a' c H',B_ B H0 H' (pN T S e a' (xs.length+1) c (xs++[x])::rest)->D_ (λk=>k<H.size/\¬Q_ (.slice a n cap) k) H H'->K (.slice a' (xs.length+1) c) H'):B0 P (Builtin.append_ #[t,t] ty [.slice a n cap,.slice (N_ q) m i].toArray) H K:=by subst y;have o:=j.at_ 0 rfl;refine BN (T:=T) (S:=S) (lo:=0) (ys:=[x]) s o.1 (p_ _) (λk b=>⟨(j.in_ 0 rfl (.inr b)).2,o.2 k b⟩) v (Ty.reps_one w) rfl A (by unfold maxLen;simp only[c_];omega) (by have:=Nat.mul_le_mul l hby;simp only[c_];omega) ?_;intro C H' d f p g;obtain⟨a',c,rfl⟩:=d.hull;rw[O_,c_]at d g ⊢;refine k a' c H' (j.upd 0 rfl (f.mono λk b=>⟨b.1,λr=>b.2 (.inl r)⟩) _ ⟨d,λk b r=>?_⟩ (λk b=>?_) (λk b=>?_) p) f;{rcases g k r with h | h;{exact o.2 k b h};have:=(j.in_ 0 rfl (.inr b)).2;omega};{rcases b with b | b;{rcases g k b with h | h;{exact .inl (.inl h)};exact .inr h};exact .inl (.inr b)};rcases b with b | b;{exact(d.lt b).2};have:=(j.in_ 0 rfl (.inr b)).2;omega
def nM(a b:Int):Int:=if a<b then b else a
def Ap1{e:Array x_}{k f g i:IntKind}{a c d:Int}{K:v_->Prop}(h:K (.int k (nM (nM (nM a b) c) d))):AH P (Builtin.max_ e t [.int k a,.int f b,.int g c,.int i d].toArray) S H K:=by refine AH.mk _ (λw _=>?_) h;simp[Builtin.max_,Builtin.max2,nM];rfl
section
attribute [local irreducible] Bs AE Ak FD Dt
def Dl.nodes(h:Dl ns r i l):∀x∈l,x.1.nodes<=r.nodes:=by induction h with|eps=>intro x a;cases a|cls=>intro x a;cases a|cat _ _ _ _ _ ih1 ih2 | alt _ _ _ _ _ ih1 ih2=>{intro x a;simp only[ReM.nodes];rcases k_.1 a with a | a;{have:=ih1 x a;omega};have:=ih2 x a;omega}|star _ _ _ b=>intro x a;have:=b x a;simp only[ReM.nodes];omega|and_ _=>intro x a;rw[V_.1 a];exact M_ _|minus _=>intro x a;rw[V_.1 a];exact M_ _
def X3(h:AO ns r i)(hs:Md r=zW):∃(x y:ReM) (d:h_) (j k a:Nat) (ends:Bool->Bool->Bool),ns[i]?=zY d/\d.l=(j:Int)/\d.r=(k:Int)/\AO ns x j/\AO ns y k/\r.nodes=x.nodes+y.nodes+1/\a<3/\(∀p q,Hp a p q=ends p q)/\(∀b s,EI b r s=C7 b ends (λs=>AW b x s) (λs=>AW b y s) s)/\(d.op=5/\a=0\/d.op=6/\a=2):=by cases r with|and_ x y=>have⟨d,j,k,c,e,f,g,m,n⟩:=h;exact⟨x,y,d,j,k,0,Re,c,f,g,m,n,by simp only[ReM.nodes];omega,zQ,λ_ _=>rfl,λ_ _=>rfl,.inl ⟨e,rfl⟩⟩|minus x y=>have⟨d,j,k,c,e,f,g,m,n⟩:=h;exact⟨x,y,d,j,k,2,Rl,c,f,g,m,n,by simp only[ReM.nodes];omega,zQ,λ_ _=>rfl,λ_ _=>rfl,.inr ⟨e,rfl⟩⟩|_=>cases hs
section
variable{ends:Bool->Bool->Bool}
def Aj4(hs:∀s,EI b r s=C7 b ends (λs=>AW b x s) (λs=>AW b y s) s)(h:(AW b x 0).2= .error e):(EI b r 0).2= .error e:=by rw[hs];exact Fx h
def Aj5(hs:∀s,EI b r s=C7 b ends (λs=>AW b x s) (λs=>AW b y s) s){a:PA}(c:(AW b x 0).2= .ok a)(h:(AW b y 0).2= .error e):(EI b r 0).2= .error e:=by rw[hs];unfold C7;rw[GC c];exact Fx (by rw[F9 b y _ 0];exact h)
def AfA(hs:∀s,EI b r s=C7 b ends (λs=>AW b x s) (λs=>AW b y s) s){a c:PA}(f:(AW b x 0).2= .ok a)(g:(AW b y 0).2= .ok c):(EI b r 0).2=match wK b ends a c with | .error e=>.error e | .ok d=>.ok (A9 d):=by rw[hs];unfold C7;rw[GC f,GC (by rw[F9 b y _ 0];exact g)];cases wK b ends a c<;>rfl
end
def LM(h:Dl ns r i l){z:ReM×Nat}(c:z∈l)(d:(EI b z.1 0).2= .error e):∃a,(AW b r 0).2= .error a:=by have⟨a,f⟩:=dB h z c e d 0 0;exact⟨a,Fx f⟩
def Z7(h:Dl ns r i l)(hs:∀z∈l,∃N,(EI b z.1 0).2= .ok N):(AW b r 0).2=if 65536<(Bp (Fh b) r 0).u then .error 40 else HN b (xE (Fh b) r):=by
 unfold AW FF;rw[GC (V7 h hs 0 0)];split;{rfl}
 show(match HN b (xE (Fh b) r)with
  | .error e=>((_,.error e):Nat×Except Int PA)
  | .ok d=>(_,.ok d)).2=_
 cases HN b (xE (Fh b) r)<;>rfl
noncomputable def uZ(b:Int)(l:List (ReM×Nat))(k:Nat):List (Nat×P_):=(l.take k).map λx=>(x.2,Fh b x.1)
def AjF(h:Dl ns r i l)(hs:∀z∈l,∃N,(EI b z.1 0).2= .ok N):Ka (Fh b) (uZ b l l.length) l:=λz v=>by
 have⟨N,x⟩:=hs z v;have e:Fh b z.1=N:=by unfold Fh;rw[x]
 rw[e];refine⟨?_,(JJ x).1,(JJ x).2⟩;have⟨t,D⟩:=xB v;have H:=(T_.1 D).1;have E:∀(u:Nat) (w:ReM×Nat),l[u]?=zY w->(uZ b l l.length)[u]?=zY (w.2,Fh b w.1):=λu w q=>by
  unfold uZ;rw[M',Y',q];rfl
 have A:∀n,n<=t->(∃d,d<n/\∃w:ReM×Nat,l[d]?=zY w/\w.2=z.2/\∀(a:Nat) (c:ReM×Nat),a<d->l[a]?=zY c->c.2≠z.2)\/∀(a:Nat) (c:ReM×Nat),a<n->l[a]?=zY c->c.2≠z.2:=λn=>by
  induction n with
  | zero=>intro _;exact .inr λa c h=>absurd h (Nat.not_lt_zero _)
  | succ n I=>
    intro L;rcases I zO with⟨d,j,g⟩ | j
    ·exact .inl ⟨d,zO,g⟩
    ·have⟨w,q⟩:=Ac (l:=l) (k:=n) zO;by_cases F:w.2=z.2
     ·exact .inl ⟨n,zO,w,q,F,j⟩
     ·refine .inr λa c m f=>?_;by_cases J:a=n
      ·subst J;rw[q]at f;cases f;exact F
      ·exact j a c zO f
 have fin:∃(d:Nat) (w:ReM×Nat),l[d]?=zY w/\w.2=z.2/\∀(a:Nat) (c:ReM×Nat),a<d->l[a]?=zY c->c.2≠z.2:=by
  rcases A t (M_ _)with⟨d,-,w,g,s,B⟩ | j
  ·exact⟨d,w,g,s,B⟩
  ·exact⟨t,z,D,rfl,j⟩
 have⟨d,w,g,s,B⟩:=fin;have C:=(h.at_ z v).2.1;have o:=(h.at_ w (d_ g)).2.1;have K:w.1=z.1:=by rw[s]at o;exact AO.inj o C
 refine⟨d,by rw[E d w g,s,K,e],λa y m G=>?_⟩;have p:a<l.length:=by have:=(T_.1 g).1;omega
 have⟨c,f⟩:=Ac p;rw[E a c f]at G;cases G;exact B a c m f
def AjU(a:k<=l.length):(uZ b l k).length=k:=by unfold uZ;rw[e_,wI];omega
def Ag4{z:ReM×Nat}(a:l[k]?=zY z):uZ b l k++[(z.2,Fh b z.1)]=uZ b l (k+1):=by unfold uZ;rw[Ab a,yV];rfl
def bO{la:List v_}(h:Fe S H (.agg la.toArray) D):∃ra rc na nc fa fc,la=AU D.cell (.slice ra D.reps.length rc) (.slice na D.next.length nc) (.slice fa D.final.length fc):=by obtain⟨a,ra,rc,na,nc,fa,fc,e,-,-,-⟩:=h;injection e with e;exact⟨ra,rc,na,nc,fa,fc,by simpa using congrArg Array.toList e⟩
def NT(b:Int)(r:ReM)(H H':Aa)(u:v_):Prop:=∃(la:List v_) (m:Int),la.length=259/\la.all (·.oneCell')=zW/\match(AW b r 0).2 with
 | .error _=>u= .tuple #[.agg la.toArray,A_ m,A_ 40]
 | .ok d=>u= .tuple #[.agg la.toArray,A_ m,A_ 0]/\∃D,Fe (Cr H H') H' (.agg la.toArray) D/\Pw D d
def NT.err{H':Aa}{la:List v_}{m:Int}(a:la.length=259)(c:la.all (·.oneCell')=zW)(h:∃e,(AW b r 0).2= .error e):NT b r H H' (.tuple #[.agg la.toArray,A_ m,A_ 40]):=by have⟨e,h⟩:=h;refine⟨la,m,a,c,?_⟩;rw[h]
def Rx(h:(AW b r 0).2= .ok d):d.Ok/\d.n<=4096:=by obtain⟨a,-,c⟩:=Ha (show AW b r 0=((AW b r 0).1,.ok d)from Prod.ext rfl h);exact⟨a,c⟩
def kO(S:Nat->Prop)(v:v_)(D:DM):Pc:=⟨S,λH=>Fe S H v D,λh hp=>hp.frame h⟩
noncomputable abbrev pD(p y:Nat)(na:Option Addr)(nn nc:Nat)(Ao:Int)(ma:Option Addr)(mc:Nat)(l:List (ReM×Nat))(SS:Nat->Prop)(a:Option Addr)(n c:Nat)(xs:List (Nat×P_))(rest:List Pc):List Pc:=
 pN oR SS 137 a n c xs::pB 32 p (zR (.slice na nn nc) Ao)::pB 43 y zD6::pS a_ 3 ma l.length mc (Dc l)::rest
def AhK(bd:1<=b)(be:b<=4096):∀(N:Nat) (r:ReM),r.nodes<=N->r.nodes<=2000->∀{S:Nat->Prop} {H:Aa} {v:v_} {ns:List h_} {Ao:Int} {i:Nat},(∀k,S k->k<H.size)->ReV S H v ns Ao->AO ns r i->
  Ai prog 29 #[v,A_ i,A_ b] H λu H'=>D_ (H_ H) H H'/\NT b r H H' u:=by
 intro N
 induction N with
 | zero=>intro r h;cases r<;>simp[ReM.nodes]at h
 | succ N ih=>
 intro r hN hn S H v ns Ao i hS t ht;obtain⟨hl,na,nc,rfl,h1⟩:=t;refine Ai.of_vcL func29 rfl (call29 _) (BI (zR (.slice na ns.length nc) Ao) rfl ?_);intro p H1 hp dj cj dk;have F_:=(St.nil H).box hp dj cj dk;refine Af _ zD6 rfl zX ?_;intro y H2 hy a4 ck a5;have a6:=F_.box hy a4 ck a5;clear F_;refine DO hl (a6.blk 0 rfl) Dv zA (h1.frame (a6.old.mono hS)) λv2 dl=>(Ae.mk (Ao9 r.nodes r (M_ _) zO (λk g=>a6.up (hS k g)) dl ht) ?_);rintro _ H3 ⟨a7,l,ma,mc,hm,rfl,W⟩;have f0:=hm.len;have cm:=Gf l;obtain⟨_,_,e1,bf⟩:=a6.got a7 W;injection e1 with e11 e12 e13
 subst e11;subst e13;rw[cm]at bf;clear a6;have co:St H H3 (pD p y na ns.length nc Ao ma mc l none_ zV 0 0 (uZ b l 0) []):=(bf.nils oR 137).pick [3,0,1,2] zQ;clear bf;(conv=>whnf);refine A0.mk [10,11,12] (λx:Option Addr×Nat×Int×Nat=>match x with | (a,c,m,k)=>[.slice a k c,A_ m,A_ k]) (λx G=>match x with | (a,c,m,k)=>k<=l.length/\(∀z∈l.take k,∃N,(EI b z.1 0).2= .ok N)/\∃SS,St H G (pD p y na ns.length nc Ao ma mc l SS a k c (uZ b l k) [])) (λx _=>l.length-x.2.2.2) ?_ ?_
 ·(conv=>whnf);exact⟨(zV,0,0,0),rfl,p_ _,(λz hz=>by cases hz),none_,co⟩
 ·clear co;rintro⟨a,c,m,k⟩ G ew ⟨g,Q,SS,Z⟩;have aq:=AjU (b:=b) g;by_cases dm:k<l.length
  ·have d1:zT ((k:Int)<(l.length:Int))=zW:=t_;(conv=>whnf);rw[d1];have⟨z,hz⟩:=Ac (l:=l) (k:=k) dm;have a8:=d_ hz;have⟨dn,dq,f1⟩:=hm.at_ z a8;have⟨x,y',d,ja,jb,cp,ends,hd,dr,dt,du,dv,ey,dw,dx,dy,ab⟩:=X3 dq dn;have ae:=dy b;have f2:=hm.nodes z a8;have cq:(Dc l)[k]?=zY (z.2:Int):=by unfold Dc;rw[Y',hz];rfl
   refine Ap.heldZ (H_ G) [9] (sq [0,1,2,3,4,5,6,7] (.f 8 (.f 9 .e))) rfl zX (fa E2 ?_);refine C_ (v:=.slice na ns.length nc) FB ((Z.blk 1 rfl).ce rfl) (Z.in_ 1 rfl rfl).2 ?_;refine zK (j:=k) AD Z 3 rfl cq rfl ?_;rintro b5 o5 c5 dz e0 ⟨rfl,-⟩;refine C_ E_ e0.one dz (U' (i:=z.2) HP (h1.frame (Z.old.mono hS)) hd rfl ?_);rintro b6 o6 c6 e3 e4 ⟨rfl,f3⟩;refine L_ (cs:=j_ d) (by rw[AS];exact Rd) e4 (Z.up (hS _ e3)) ?_;refine Af _ rnZ OJ rfl ?_;intro xb G1 cr ct cu az;have cw:=Z.box cr ct cu az;refine⟨az.mono λj hj=>by rw[cr];exact hj,?_⟩;refine AI (cs:=j_ d) cw 4 (by rw[AS];rfl) rfl (by rw[AS,Cq];decide) (D3 d) λG2 J=>?_;rw[Ar (show(j_ d).length=rnZ.length by rw[AS,Cq])]at J;clear Z cw;refine DO hl (J.blk 1 rfl) Dv zA (h1.frame (J.old.mono hS)) λv3 bg=>(fa Db ?_);refine C_ (v:=A_ d.l) E_ (by rw[(J.blk 4 rfl).cell,K_];exact JC d) zA ?_;rw[dr];refine Ae.mk (ih x zO zO (λk g=>J.up (hS k g)) bg du) ?_;rintro u Ga ⟨cx,la,mA,K,ar,hA⟩;cases a2:(AW b x 0).2 with
   | error e=>
     rw[a2]at hA;subst hA;have E:=J.call cx;refine Af _ zD6 rfl zX ?_;intro xa G3 bh bi bj a7;have R:=E.box bh bi bj a7;refine AI (cs:=la) R 5 (by rw[K];rfl) rfl (by rw[K];decide) ar λG5 n=>?_;rw[Ar (show la.length=zD6.length by rw[K];rfl)]at n;(conv=>whnf);refine L_ (cs:=la) (by rw[K];exact Ew) ((n.blk 5 rfl).cells λj v t=>by rw[K_];exact t) zA ?_;refine AI (cs:=la) n 2 (by rw[K];rfl) rfl (by rw[K];decide) ar λGz1 bm=>?_;rw[Ar (show la.length=zD6.length by rw[K];rfl)]at bm;refine L_ (cs:=la) (by rw[K];exact Ew) ((bm.blk 2 rfl).cells λj v t=>by rw[K_];exact t) zA ?_;(conv=>whnf);exact⟨bm.old,NT.err K ar (LM hm a8 (Aj4 ae a2))⟩
   | ok d1=>
   rw[a2]at hA;obtain⟨rfl,A,cy,bn⟩:=hA;have E:=J.add cx (kO (Cr G2 Ga) (.agg la.toArray) A) cy λk g=>g;generalize Cr G2 Ga=SA at E;clear J cy;refine Af _ zD6 rfl zX ?_;intro xa G3 bh bi bj a7;have R:=E.box bh bi bj a7;refine AI (cs:=la) R 6 (by rw[K];rfl) rfl (by rw[K];decide) ar λG5 n=>?_;rw[Ar (show la.length=zD6.length by rw[K];rfl)]at n;clear E R;refine DO hl (n.blk 1 rfl) Dv zA (h1.frame (n.old.mono hS)) λv4 bo=>(fa Jt ?_);refine C_ (v:=A_ d.r) E_ (by rw[(n.blk 4 rfl).cell,K_];exact VH d) zA ?_;rw[dt];refine Ae.mk (ih y' zO zO (λk g=>n.up (hS k g)) bo dv) ?_;rintro u Gb ⟨cz,lb,mB,L,au,hB⟩;cases ag:(AW b y' 0).2 with
   | error e=>
     rw[ag]at hB;subst hB;have q:=n.call cz;refine Af _ zD6 rfl zX ?_;intro xe G6 bp bq br bu;have C:=q.box bp bq br bu;refine AI (cs:=lb) C 7 (by rw[L];rfl) rfl (by rw[L];decide) au λG8 I=>?_;rw[Ar (show lb.length=zD6.length by rw[L];rfl)]at I;(conv=>whnf);refine L_ (cs:=lb) (by rw[L];exact Ew) ((I.blk 7 rfl).cells λj v t=>by rw[K_];exact t) zA ?_;refine AI (cs:=lb) I 2 (by rw[L];rfl) rfl (by rw[L];decide) au λGz3 bv=>?_;rw[Ar (show lb.length=zD6.length by rw[L];rfl)]at bv;refine L_ (cs:=lb) (by rw[L];exact Ew) ((bv.blk 2 rfl).cells λj v t=>by rw[K_];exact t) zA ?_;(conv=>whnf);exact⟨bv.old,NT.err L au (LM hm a8 (Aj5 ae a2 ag))⟩
   | ok d2=>
   rw[ag]at hB;obtain⟨rfl,Bd,d0,bw⟩:=hB;have q:=n.add cz (kO (Cr G5 Gb) (.agg lb.toArray) Bd) d0 λk g=>g;generalize Cr G5 Gb=SB at q;clear n d0;refine Af _ zD6 rfl zX ?_;intro xe G6 bp bq br bu;have C:=q.box bp bq br bu;refine AI (cs:=lb) C 8 (by rw[L];rfl) rfl (by rw[L];decide) au λG8 I=>?_;rw[Ar (show lb.length=zD6.length by rw[L];rfl)]at I;clear q C;(conv=>whnf);refine A7.cut (α:=Unit) [20] (λ_=>[A_ cp]) (λ_ G=>G=G8) ?_ ?_
   ·refine fa Dq ?_;refine C_ (v:=A_ d.op) E_ (by rw[(I.blk 4 rfl).cell];exact Fv d) zA ?_;rcases ab with⟨ab,rfl⟩ | ⟨ab,rfl⟩
    ·rw[ab];(conv=>whnf);exact⟨rfl,(),rfl,rfl⟩
    ·rw[ab];(conv=>whnf);exact⟨rfl,(),rfl,rfl⟩
   ·rintro _ G9 e5 rfl;refine L_ (cs:=la) (by rw[K];exact Ew) ((I.blk 6 rfl).cells λj v t=>by rw[K_];exact t) zA ?_;refine L_ (cs:=lb) (by rw[L];exact Ew) ((I.blk 8 rfl).cells λj v t=>by rw[K_];exact t) zA ?_;have e6:=(I.at_ 5 rfl:Fe SA _ _ _).mono λk g=>(I.in_ 5 rfl g).2;have e7:=(I.at_ 7 rfl:Fe SB _ _ _).mono λk g=>(I.in_ 7 rfl g).2;refine Ae.mk (Xs (m:=b) dw (λk g=>g) e6 e7 (HV bn.ok) (HV bw.ok) (HU (HV bn.ok)) (HU (HV bw.ok))) ?_;rintro _ Gp ⟨e8,vp,ep,rfl,⟨lp,rfl,M,a0⟩,hP⟩;have hP:=AoN dx bn bw (Rx a2).1 (Rx ag).1 hP;have aw:=I.call e8;clear I;have X:=AfA ae a2 ag;cases ax:wK b ends d1 d2 with
    | error e=>
      rw[ax]at hP X;have e9:ep=40:=hP.trans (iH bd be ax);subst e9;refine Af _ zD6 rfl zX ?_;intro xp G10 bx ah ai aj;have d3:=aw.box bx ah ai aj;refine AI (cs:=lp) d3 9 (by rw[M];rfl) rfl (by rw[M];decide) a0 λG11 B=>?_;rw[Ar (show lp.length=zD6.length by rw[M];rfl)]at B;(conv=>whnf);refine L_ (cs:=lp) (by rw[M];exact Ew) ((B.blk 9 rfl).cells λj v t=>by rw[K_];exact t) zA ?_;refine AI (cs:=lp) B 2 (by rw[M];rfl) rfl (by rw[M];decide) a0 λGz5 bz=>?_;rw[Ar (show lp.length=zD6.length by rw[M];rfl)]at bz;refine L_ (cs:=lp) (by rw[M];exact Ew) ((bz.blk 2 rfl).cells λj v t=>by rw[K_];exact t) zA ?_;(conv=>whnf);exact⟨bz.old,NT.err M a0 (LM hm a8 X)⟩
    | ok dp=>
      rw[ax]at hP X;obtain⟨rfl,P,c1,eb⟩:=hP;have ed:=Ml ax;obtain⟨F,-,-,-,-,d4,-,d5,-,-⟩:=ed;refine Af _ zD6 rfl zX ?_;intro xp G10 bx ah ai aj;have b0:=(St.nil Gp).box bx ah ai aj;refine AI (cs:=lp) b0 0 (by rw[M];rfl) rfl (by rw[M];decide) a0 λG11 O=>?_;rw[Ar (show lp.length=zD6.length by rw[M];rfl)]at O;have B:=aw.call O.old;have d6:=c1.frame O.old;have⟨q1,q2,q3,q4,q5,q6,d7⟩:=bO c1;have ee:=c1.len;have ef:∀V,Q_ (.slice a k c) V->V<Gp.size:=λV h=>(aw.in_ 0 rfl (.inl h)).2;clear aw b0;refine fa EQ ?_;refine C_ (v:=.slice q3 P.next.length q4) D7 (by rw[(O.blk 0 rfl).cell,K_,d7];exact Dp ee) zA ?_;refine Ap1 ?_;have a1:Fh b z.1=A9 dp:=by unfold Fh;rw[X]
      obtain⟨mb,rfl⟩:=B.adr 3 rfl (by rw[cm];omega);have eg:mb<G11.size/\¬Q_ (.slice a k c) mb:=⟨(B.in_ 3 rfl (.inl ⟨0,_,_,rfl⟩)).2,λh=>B.apart2 (i:=3) (j:=0) rfl rfl zQ mb (.inl ⟨0,_,_,rfl⟩) (.inl h)⟩;have d8:xp<G11.size/\¬Q_ (.slice a k c) xp:=⟨(O.in_ 0 rfl rfl).2,λh=>by have:=ef xp h;omega⟩;refine Ap.heldZ (λV=>V<G11.size/\¬Q_ (.slice a k c) V) [10] (sq [0,1,2,3,4,5] (.f 6 (sq [7] (.f 8 (.f 9 (.f 10 .e)))))) rfl zX (ix AD zO zO (C_ (v:=A_ (z.2:Int)) E_ (PH B 3 rfl cq) eg ?_));refine L_ (cs:=lp) (by rw[M];exact Ew) ((O.blk 0 rfl).cells λj v t=>by rw[K_];exact t) d8 ?_;refine Ae.mk (bG (S:=H_ Gp) (λk g=>O.up g) d6 eb d4 d5) ?_;rintro _ G12 ⟨Y,ea,ec,rfl,W⟩;refine⟨Y.mono λk g=>g.1,?_⟩;have d9:=Lh d5;obtain⟨_,_,e1,eh,-⟩:=W.view (S':=λk=>SS k\/Q_ (.slice ea (A9 dp).edges.length ec) k) (λb hb=>.inr hb) (λb hb=>hb.elim);injection e1 with e11 e12 e13
      subst e11;subst e13;obtain⟨_,_,e1,b4⟩:=B.got Y W;injection e1 with e11 e12 e13
      subst e11;subst e13;have b7:=B_.absorbG (b4.pick [0,9,1,2,3] zQ);clear B b4 O;refine Au underlying137 rfl (Tryz.t137.zero.getD undef) rfl (.int .i64 (z.2:Int)::s_ (A9 dp) (.slice ea (A9 dp).edges.length ec)) rfl (Aj Ze (.int .i64 (z.2:Int)::s_ (A9 dp) (.slice ea (A9 dp).edges.length ec)) rfl rfl zQ zQ ?_);intro qd G13 ei ez da ak;have db:=b7.skip ei ak;have am:D_ (λV=>V<G11.size/\¬Q_ (.slice a k c) V) G11 G13:=(Y.mono λk g=>g.1).trans (ak.mono λk g=>by have:=An Y g.1;omega);refine⟨am,?_⟩;have dc:=eh.frame (ak.mono λk g=>by have:=(b7.in_ 0 rfl (.inr g)).2;omega);refine AnE (x:=(z.2,A9 dp)) db Ze (da.cells (o:=0) (cs:=.int .i64 (z.2:Int)::s_ (A9 dp) (.slice ea (A9 dp).edges.length ec)) λj v t=>by rw[K_];exact t) ⟨ea,ec,rfl,d9,dc⟩ rfl (λu hu=>yC.1 (show(Value.int .i64 (z.2:Int)::s_ (A9 dp) (.slice ea (A9 dp).edges.length ec)).all (·.oneCell')=zW from rfl) u hu) zO zQ λa9 c9 G14 b8 de=>?_;refine⟨am.trans (de.mono λk g=>⟨by have:=An Y g.1;omega,g.2⟩),?_⟩;(conv=>whnf);rw[R_ k zO];rw[aq];rw[aq,show(z.2,A9 dp)=(z.2,Fh b z.1) by rw[a1],Ag4 hz]at b8;exact⟨rfl,(a9,c9,_,k+1),rfl,⟨zO,(λw hw=>by
       rw[Ab hz]at hw;rcases k_.1 hw with hw | hw
       ·exact Q w hw
       ·rw[V_.1 hw];exact⟨_,X⟩),_,b8⟩,by simp only;omega⟩
  ·have d1:zT ((k:Int)<(l.length:Int))=zU:=g_;obtain rfl:k=l.length:=zO
   rw[M']at Q;(conv=>whnf);rw[d1];have T:=Z7 hm Q;have a1:=AjF hm Q;refine DO hl (Z.blk 1 rfl) Dv zA (h1.frame (Z.old.mono hS)) λv3 bg=>?_;have hw:=AgW (S:=H_ G) hn (λk g=>g) (bg.mono λk g=>Z.up (hS k g)) (Z.view 0 rfl) (by rw[aq];omega) ht hm a1;rw[aq]at hw;refine Ae.mk hw ?_;rintro u Gw ⟨df,hW⟩;unfold XO at hW;by_cases hu:65536<(Bp (Fh b) r 0).u
   ·rw[J_ hu]at hW T;obtain⟨lw,c2,ej,rfl⟩:=hW;have ay:=Z.call df;refine Af _ JV LG rfl ?_;intro xw G2 c3 a4 c4 a5;have J:=ay.box c3 a4 c4 a5;refine AI (cs:=lw) J 4 (by rw[c2];rfl) rfl (by rw[c2];decide) ej λG3 E=>?_;rw[Ar (show lw.length=JV.length by rw[c2];rfl)]at E;refine Ae.mk (K5 G3) ?_;rintro v4 G4 ⟨ek,-,bo⟩;obtain⟨ao,x1,x2,x3,x4,x5,x6,rfl,-,-,-⟩:=bo;have R:=E.call ek;refine AI (cs:=AU AJ.cell (.slice x1 AJ.reps.length x2) (.slice x3 AJ.next.length x4) (.slice x5 AJ.final.length x6)) R 2 (by rw[Av ao];rfl) rfl (by rw[Av ao];decide) (Be rfl rfl rfl) λG5 n=>?_;rw[Bu (by rw[Av ao];rfl)]at n;refine L_ (cs:=AU AJ.cell (.slice x1 AJ.reps.length x2) (.slice x3 AJ.next.length x4) (.slice x5 AJ.final.length x6)) (by rw[Av ao];exact Ew) ((n.blk 2 rfl).cells λj v t=>by rw[K_];exact t) zA ?_;(conv=>whnf);exact⟨n.old,NT.err (Av ao) (Be rfl rfl rfl) ⟨_,T⟩⟩
   ·rw[I_ hu]at hW T;obtain⟨ea,ec,rfl,W⟩:=hW;obtain⟨_,_,e1,ay⟩:=Z.got df W;injection e1 with e11 e12 e13
    subst e11;subst e13;have el:=V7 hm Q 0 0;obtain⟨i1,i2,i3,i4,-,-⟩:=Gl hm a1 0;have en:=Qu (show AY b r 0 0=((AY b r 0 0).1,.ok (Bp (Fh b) r 0))from Prod.ext rfl el);have dg:(xE (Fh b) r).Rng:=⟨BJ zO,BJ zO,BJ zO⟩;have dh:(xE (Fh b) r).edges.length<=33554432:=by show(Bp (Fh b) r 0).es.length<=_;omega
    refine Af _ JV LG rfl ?_;intro xw G2 c3 a4 c4 a5;have J:=ay.box c3 a4 c4 a5;refine AI (cs:=s_ (xE (Fh b) r) (.slice ea (xE (Fh b) r).edges.length ec)) J 5 rfl rfl (M_ _) rfl λG3 E=>?_;rw[Ar (show(s_ (xE (Fh b) r) (.slice ea (xE (Fh b) r).edges.length ec)).length=JV.length from rfl)]at E;clear Z ay J;refine L_ (cs:=s_ (xE (Fh b) r) (.slice ea (xE (Fh b) r).edges.length ec)) My ((E.blk 5 rfl).cells λj v t=>by rw[K_];exact t) zA ?_;refine Ae.mk (AgZ (S:=H_ G3) bd be (λk g=>g) ⟨dg,dh,ea,ec,rfl,E.view 4 rfl⟩) ?_;rintro u Gd ⟨di,ld,s,a3,⟨y1,y2,y3,b9⟩,hD⟩;cases c7:HN b (xE (Fh b) r)with
    | error e=>
      rw[c7]at hD T;have he:=Yg bd be c7;subst he;subst hD;have R:=E.call di;refine Af _ zD6 rfl zX ?_;intro xd G5 c8 cd ce cg;have n:=R.box c8 cd ce cg;refine AI (cs:=ld) n 6 (by rw[s];rfl) rfl (by rw[s];decide) a3 λG6 q=>?_;rw[Ar (show ld.length=zD6.length by rw[s];rfl)]at q;clear n;have ap:xd<G6.size/\xd≠y:=⟨(q.in_ 6 rfl rfl).2,λe=>q.apart2 (i:=6) (j:=2) rfl rfl zQ xd rfl e⟩;refine Ap.heldZ (λV=>V<G6.size/\V≠y) [] (sq [0,1,2,3,4,5,6] (.f 7 (.f 8 (.f 9 .e)))) rfl zX ?_;refine L_ (cs:=ld) (by rw[s];exact Ew) ((q.blk 6 rfl).cells λj v t=>by rw[K_];exact t) ap ?_;refine fa EQ ?_;refine C_ (v:=.slice y1 y2 y3) D7 (by rw[(q.blk 6 rfl).cell,K_];exact b9) ap ?_;refine Wi ?_;refine BH (cs:=ld) q 2 (by rw[s];rfl) rfl (by rw[s];decide) a3 λG7 C ch eo=>?_;rw[Ar (show ld.length=zD6.length by rw[s];rfl)]at C;have U:D_ (λV=>V<G6.size/\V≠y) G6 G7:=ch.mono λk g=>g.2;refine⟨U,?_⟩;(conv=>whnf);refine⟨U,?_⟩;(conv=>whnf);refine⟨U,?_⟩;refine L_ (cs:=ld) (by rw[s];exact Ew) ((C.blk 2 rfl).cells λj v t=>by rw[K_];exact t) zA ?_;(conv=>whnf);exact⟨C.old,NT.err s a3 ⟨_,T⟩⟩
    | ok d=>
      rw[c7]at hD T;obtain⟨rfl,D,eu,ev⟩:=hD;have R:=E.add di (kO (Cr G3 Gd) (.agg ld.toArray) D) eu λk g=>g;generalize Cr G3 Gd=SD at R;refine Af _ zD6 rfl zX ?_;intro xd G5 c8 cd ce cg;have n:=R.box c8 cd ce cg;refine AI (cs:=ld) n 7 (by rw[s];rfl) rfl (by rw[s];decide) a3 λG6 q=>?_;rw[Ar (show ld.length=zD6.length by rw[s];rfl)]at q;clear n;have ap:xd<G6.size/\xd≠y:=⟨(q.in_ 7 rfl rfl).2,λe=>q.apart2 (i:=7) (j:=2) rfl rfl zQ xd rfl e⟩;refine Ap.heldZ (λV=>V<G6.size/\V≠y) [] (sq [0,1,2,3,4,5,6] (.f 7 (.f 8 (.f 9 .e)))) rfl zX ?_;refine L_ (cs:=ld) (by rw[s];exact Ew) ((q.blk 7 rfl).cells λj v t=>by rw[K_];exact t) ap ?_;refine fa EQ ?_;refine C_ (v:=.slice y1 y2 y3) D7 (by rw[(q.blk 7 rfl).cell,K_];exact b9) ap ?_;refine Wi ?_;refine BH (cs:=ld) q 2 (by rw[s];rfl) rfl (by rw[s];decide) a3 λG7 C ch eo=>?_;rw[Ar (show ld.length=zD6.length by rw[s];rfl)]at C;have U:D_ (λV=>V<G6.size/\V≠y) G6 G7:=ch.mono λk g=>g.2;refine⟨U,?_⟩;(conv=>whnf);refine⟨U,?_⟩;(conv=>whnf);refine⟨U,?_⟩;refine L_ (cs:=ld) (by rw[s];exact Ew) ((C.blk 2 rfl).cells λj v t=>by rw[K_];exact t) zA ?_;(conv=>whnf);refine⟨C.old,ld,if m<(y2:Int)then(y2:Int)else m,s,a3,?_⟩;rw[T];exact⟨rfl,D,(C.at_ 6 rfl:Fe SD _ _ _).mono λk g=>⟨St.ge C 6 rfl g,(C.in_ 6 rfl g).2⟩,ev⟩
noncomputable def L6(b:Int)(r:ReM):Int:=if b<1\/4096<b then 2 else if 2000<r.nodes then 24 else match(AW b r 0).2 with
 | .error _=>40
 | .ok _=>0
def Ag6(b:Int)(r:ReM)(H H':Aa)(u:v_):Prop:=∃(la:List v_) (m:Int),la.length=259/\la.all (·.oneCell')=zW/\u= .tuple #[.agg la.toArray,A_ m,A_ (L6 b r)]
def R5(r:ReM)(R:r.nodes<=1000000000)(O:∀k,S k->k<H.size)(x:ReV S H v ns (i:Int))(ht:AO ns r i):Ai prog 8 #[v,A_ b] H λu H'=>D_ (H_ H) H H'/\Ag6 b r H H' u:=by
 obtain⟨hl,na,nc,rfl,h1⟩:=x;refine Ai.of_vcL func8 rfl (call8 _) (BI (zR (.slice na ns.length nc) (i:Int)) rfl ?_);intro p H1 hp T U V;have F_:=(St.nil H).box hp T U V;refine Af _ zD6 rfl zX ?_;intro y H2 hy W X Y;have z:=F_.box hy W X Y;clear F_;by_cases Z:b<1;{have P:zT (b<(1:Int))=zW:=r_ Z;(conv=>whnf);rw[P];refine Ae.mk (K5 _) ?_;rintro v4 Gn ⟨g,-,h⟩;obtain⟨a,l,n,o,q,s,t,rfl,-,-,-⟩:=h;have w:=z.call g;refine AI (cs:=AU AJ.cell (.slice l AJ.reps.length n) (.slice o AJ.next.length q) (.slice s AJ.final.length t)) w 1 (by rw[Av a];rfl) rfl (by rw[Av a];decide) (Be rfl rfl rfl) λGo c=>?_;rw[Bu (by rw[Av a];rfl)]at c;refine L_ (cs:=AU AJ.cell (.slice l AJ.reps.length n) (.slice o AJ.next.length q) (.slice s AJ.final.length t)) (by rw[Av a];exact Ew) ((c.blk 1 rfl).cells λj v x=>by rw[K_];exact x) zA ?_;(conv=>whnf);have F:L6 b r=2:=by{unfold L6;rw[J_ (.inl Z)]};refine⟨c.old,AU AJ.cell (.slice l AJ.reps.length n) (.slice o AJ.next.length q) (.slice s AJ.final.length t),0,Av a,Be rfl rfl rfl,?_⟩;rw[F];rfl};have P:zT (b<(1:Int))=zU:=n_ Z;by_cases G:4096<b;{have d2:zT ((4096:Int)<b)=zW:=r_ G;(conv=>whnf);rw[P];(conv=>whnf);rw[d2];refine Ae.mk (K5 _) ?_;rintro v4 Gn ⟨g,-,h⟩;obtain⟨a,l,n,o,q,s,t,rfl,-,-,-⟩:=h;have w:=z.call g;refine AI (cs:=AU AJ.cell (.slice l AJ.reps.length n) (.slice o AJ.next.length q) (.slice s AJ.final.length t)) w 1 (by rw[Av a];rfl) rfl (by rw[Av a];decide) (Be rfl rfl rfl) λGo c=>?_;rw[Bu (by rw[Av a];rfl)]at c;refine L_ (cs:=AU AJ.cell (.slice l AJ.reps.length n) (.slice o AJ.next.length q) (.slice s AJ.final.length t)) (by rw[Av a];exact Ew) ((c.blk 1 rfl).cells λj v x=>by rw[K_];exact x) zA ?_;(conv=>whnf);have F:L6 b r=2:=by{unfold L6;rw[J_ (.inr G)]};refine⟨c.old,AU AJ.cell (.slice l AJ.reps.length n) (.slice o AJ.next.length q) (.slice s AJ.final.length t),0,Av a,Be rfl rfl rfl,?_⟩;rw[F];rfl};have d2:zT ((4096:Int)<b)=zU:=n_ G;(conv=>whnf);rw[P];(conv=>whnf);rw[d2];refine DO hl (z.blk 0 rfl) Dv zA (h1.frame (z.old.mono O)) λv2 a0=>(Al (Af4 R (λk hk=>z.up (O k hk)) a0 ht) λH3 a1=>?_);have A:=z.call a1;by_cases hn:2000<r.nodes;{have d3:zT ((2000:Int)<(r.nodes:Int))=zW:=t_;(conv=>whnf);rw[d3];refine Ae.mk (K5 _) ?_;rintro v4 Gn ⟨g,-,h⟩;obtain⟨a,l,n,o,q,s,t,rfl,-,-,-⟩:=h;have w:=A.call g;refine AI (cs:=AU AJ.cell (.slice l AJ.reps.length n) (.slice o AJ.next.length q) (.slice s AJ.final.length t)) w 1 (by rw[Av a];rfl) rfl (by rw[Av a];decide) (Be rfl rfl rfl) λGo c=>?_;rw[Bu (by rw[Av a];rfl)]at c;refine L_ (cs:=AU AJ.cell (.slice l AJ.reps.length n) (.slice o AJ.next.length q) (.slice s AJ.final.length t)) (by rw[Av a];exact Ew) ((c.blk 1 rfl).cells λj v x=>by rw[K_];exact x) zA ?_;(conv=>whnf);have F:L6 b r=24:=by{unfold L6;rw[I_ zO,J_ hn]};refine⟨c.old,AU AJ.cell (.slice l AJ.reps.length n) (.slice o AJ.next.length q) (.slice s AJ.final.length t),0,Av a,Be rfl rfl rfl,?_⟩;rw[F];rfl};have d3:zT ((2000:Int)<(r.nodes:Int))=zU:=g_
 have D:L6 b r=match(AW b r 0).2 with
   | .error _=>40
   | .ok _=>0:=by unfold L6;rw[I_ zO,I_ hn]
 (conv=>whnf);rw[d3];refine DO hl (A.blk 0 rfl) Dv zA (h1.frame (A.old.mono O)) λv3 a2=>(fa Te ?_);refine lT (v:=A_ i) E_ ((A.blk 0 rfl).ce rfl) ?_;refine Ae.mk (AhK zO zO r.nodes r (M_ _) zO (λk hk=>A.up (O k hk)) a2 ht) ?_;rintro u H4 ⟨a3,la,m,f,E,Q⟩;have N:=A.call a3;cases hx:(AW b r 0).2 with|error e=>rw[hx]at Q D;subst Q;refine Af _ zD6 rfl zX ?_;intro xa G3 I J K C;have L:=N.box I J K C;refine AI (cs:=la) L 2 (by rw[f];rfl) rfl (by rw[f];decide) E λG4 B=>?_;rw[Ar (show la.length=zD6.length by rw[f];rfl)]at B;refine Ae.mk (K5 _) ?_;rintro v4 Gn ⟨g,-,h⟩;obtain⟨a,l,n,o,q,s,t,rfl,-,-,-⟩:=h;have w:=B.call g;refine AI (cs:=AU AJ.cell (.slice l AJ.reps.length n) (.slice o AJ.next.length q) (.slice s AJ.final.length t)) w 1 (by rw[Av a];rfl) rfl (by rw[Av a];decide) (Be rfl rfl rfl) λGo c=>?_;rw[Bu (by rw[Av a];rfl)]at c;refine L_ (cs:=AU AJ.cell (.slice l AJ.reps.length n) (.slice o AJ.next.length q) (.slice s AJ.final.length t)) (by rw[Av a];exact Ew) ((c.blk 1 rfl).cells λj v x=>by rw[K_];exact x) zA ?_;(conv=>whnf);have F:L6 b r=40:=by{exact D};refine⟨c.old,AU AJ.cell (.slice l AJ.reps.length n) (.slice o AJ.next.length q) (.slice s AJ.final.length t),0,Av a,Be rfl rfl rfl,?_⟩;rw[F];rfl|ok d=>rw[hx]at Q D;obtain⟨rfl,-⟩:=Q;refine Af _ zD6 rfl zX ?_;intro xa G3 I J K C;have L:=N.box I J K C;refine AI (cs:=la) L 2 (by rw[f];rfl) rfl (by rw[f];decide) E λG4 B=>?_;rw[Ar (show la.length=zD6.length by rw[f];rfl)]at B;refine L_ (cs:=la) (by rw[f];exact Ew) ((B.blk 2 rfl).cells λj v x=>by rw[K_];exact x) zA ?_;refine AI (cs:=la) B 1 (by rw[f];rfl) rfl (by rw[f];decide) E λG5 M=>?_;rw[Ar (show la.length=zD6.length by rw[f];rfl)]at M;refine L_ (cs:=la) (by rw[f];exact Ew) ((M.blk 1 rfl).cells λj v x=>by rw[K_];exact x) zA ?_;(conv=>whnf);refine⟨M.old,la,m,f,E,?_⟩;rw[D];rfl
def bT(h:Df b r= .error e):L6 b r=e:=by unfold Df at h;unfold L6;split at h;{rename_i a;cases h;rw[J_ a]};rename_i a;rw[I_ a];split at h;{rename_i c;cases h;rw[J_ c]};rename_i c;rw[I_ c];cases g:AW b r 0 with|mk s f=>{rw[g]at h;cases f with|error i=>simp only at h;cases h;exact(ID zO zO r _ _ _ g).symm|ok d=>simp only at h;cases h}
end
open Go.Lib
section
attribute [local irreducible] Bs AE Ak FD Dt
def Rb(b:Int)(r:ReM)(S:Nat->Prop)(H:Aa)(x:v_)(f:Int):Prop:=(f=0/\∃A d m,Df b r= .ok (d,m)/\Bm S H x (zY A)/\Cg (zY A)/\FR (zY A) d)\/(f≠0/\Df b r= .error f/\x= .pointer zV)
def Rb.frame{H':Aa}{x:v_}{f:Int}(h:Rb b r S H x f)(k:D_ S H H'):Rb b r S H' x f:=by rcases h with⟨h,A,d,m,a,c,e⟩ | h;{exact .inl ⟨h,A,d,m,a,c.frame k,e⟩};exact .inr h
def qA(b:Int)(r:ReM)(S:Nat->Prop)(x:v_)(f:Int):Pc:=⟨S,λH=>Rb b r S H x f,λh hp=>hp.frame h⟩
def Rb.err{x:v_}{f:Int}(h:Rb b r S H x f):L6 b r=f:=by rcases h with⟨rfl,A,d,m,a,-⟩ | ⟨-,a,-⟩;{have⟨e,g,i,c⟩:=Lw a;unfold L6;rw[I_ zO,I_ zO,c]};exact bT a
def S6(s t w:ByteArray)(H:Aa)(hw:w.size<=1048576)(a1:Iw prog H)(hE:I6 H):BK prog 3 #[.string s,.string t,.string w] H (.bool zW):=by
 refine Ai.of_vc func3 rfl (call3 _) (Al (X7 H) λH1 cr=>?_);have F_:=(St.nil H).call cr;refine Ae.mk (YW (t:=s) (FO hE hE.2 F_.old)) ?_;rintro _ H2 ⟨ct,ap⟩;obtain⟨n1,c1,p1,i1,rfl,V,cu⟩:=iG ap;have aq:=F_.call ct;refine Af (.agg (xK 0 0).toArray) (xK 0 0) oN rfl ?_;intro q1 H3 cw cx cy cz;have ar:=aq.box cw cx cy cz;refine AI (cs:=xK c1 p1) ar 0 rfl rfl (M_ _) rfl λH4 W=>?_;rw[show Ah (xK 0 0) 0 (xK c1 p1)=xK c1 p1 from Bo rfl]at W;refine Ae.mk (YW (t:=t) (FO hE hE.2 W.old)) ?_;rintro _ H5 ⟨d0,au⟩;obtain⟨n2,c2,p2,i2,rfl,X,d3⟩:=iG au;have aw:=W.call d0;refine Af (.agg (xK 0 0).toArray) (xK 0 0) oN rfl ?_;intro q2 H6 d4 d5 d6 d7;have ax:=aw.box d4 d5 d6 d7;refine AI (cs:=xK c2 p2) ax 1 rfl rfl (M_ _) rfl λH7 ai=>?_;rw[show Ah (xK 0 0) 0 (xK c2 p2)=xK c2 p2 from Bo rfl]at ai;clear F_ aq ar W aw ax;refine Ae.mk (UY s H7) ?_;rintro _ H8 ⟨d8,d9⟩;obtain⟨K,rfl,F,da,db⟩:=cu d9;have ay:=ai.add d8 (Rm _ s K) db λk a=>a;refine Af _ L' OI rfl ?_;intro q3 H9 dc de df dg;have az:=ay.box dc de df dg;refine AI (cs:=K) az 3 (by rw[F];rfl) rfl (by rw[F];exact M_ _) da λH10 M=>?_;rw[Bo (show K.length=L'.length by rw[F];rfl)]at M;refine Ae.mk (UY t H10) ?_;rintro _ H11 ⟨q,dh⟩;obtain⟨L,rfl,I,di,dj⟩:=d3 dh;have a2:=M.add q (Rm _ t L) dj λk a=>a;refine Af _ L' OI rfl ?_;intro q4 H12 b0 b4 b5 b6;have a3:=a2.box b0 b4 b5 b6;refine AI (cs:=L) a3 5 (by rw[I];rfl) rfl (by rw[I];exact M_ _) di λH13 m=>?_;rw[Bo (show L.length=L'.length by rw[I];rfl)]at m;clear ai ay az M a2 a3;refine L_ (cs:=xK c1 p1) P5 (gE (m.blk 0 rfl)) zA (Au underlying27 rfl _ oN (xK 0 0) rfl ?_);refine hV (c:=c1) (p:=p1) (c':=0) (p':=0) (by have:=V.c30;omega) V.pk zQ (BJ (x:=0) zQ) ?_;rw[V.dec];refine pP underlying4 (z:=zU) zZ (L_ (cs:=xK c2 p2) P5 (gE (m.blk 1 rfl)) zA (Au underlying27 rfl _ oN (xK 0 0) rfl ?_));refine hV (c:=c2) (p:=p2) (c':=0) (p':=0) (by have:=X.c30;omega) X.pk zQ (BJ (x:=0) zQ) ?_;rw[X.dec];refine pP underlying4 (z:=zU) zZ ?_;(conv=>whnf);by_cases aj:i1=0;(case neg=>have e1:(i1 != 0)=zW:=bne_iff_ne.2 aj;(conv=>whnf);rw[e1];(conv=>whnf);exact⟨rfl,m.old⟩);have e1:(i1 != 0)=zU:=by rw[aj];rfl
 (conv=>whnf);rw[e1];by_cases ak:i2=0;(case neg=>have e2:(i2 != 0)=zW:=bne_iff_ne.2 ak;(conv=>whnf);rw[e2];(conv=>whnf);exact⟨rfl,m.old⟩);have e2:(i2 != 0)=zU:=by rw[ak];rfl
 (conv=>whnf);rw[e2];obtain⟨T,b7,e3,rfl⟩:=V.ok aj;obtain⟨U,b8,e4,rfl⟩:=X.ok ak;refine Ae.mk (NB (b:=60) T zO (a1.agr m.old)) ?_;rintro _ H14 ⟨b9,bd⟩;obtain⟨x1,f1,rfl,A⟩:=Rz bd;have N:=m.add b9 (qA 60 T _ x1 f1) A λk a=>a;refine Ae.mk (NB (b:=60) U zO (a1.agr N.old)) ?_;rintro _ H15 ⟨be,bf⟩;obtain⟨x2,f2,rfl,B⟩:=Rz bf;have C:=N.add be (qA 60 U _ x2 f2) B λk a=>a;have dk:L6 60 T=f1:=Rb.err A;have dl:L6 60 U=f2:=Rb.err B;clear m N A B bd bf;have f:=C.blk 3 rfl;have⟨e5,e6,Y,dm⟩:=He.tree (C.at_ (p:=Rm _ s K) 2 rfl) b7;refine L_ (cs:=K) (by rw[F];exact Dv) (f.cells λj v J=>by rw[K_];exact J) zA ?_;refine Ae.mk (R5 (b:=60) T zO (λk a=>(C.in_ (p:=Rm _ s K) 2 rfl (k:=k) a).2) Y dm) ?_;rintro _ H16 ⟨bg,dn,k1,a4,bh,rfl⟩;have a5:=C.call bg;rw[dk];refine Af _ zD6 rfl zX ?_;intro q5 H17 bi bj bm bn;have a6:=a5.box bi bj bm bn;refine AI (cs:=dn) a6 8 (by rw[a4];rfl) rfl (by rw[a4];decide) bh λH18 D=>?_;clear C a5 a6 Y f;have g:=D.blk 5 rfl;have⟨e7,e8,Z,dp⟩:=He.tree (D.at_ (p:=Rm _ t L) 4 rfl) b8;refine L_ (cs:=L) (by rw[I];exact Dv) (g.cells λj v J=>by rw[K_];exact J) zA ?_;refine Ae.mk (R5 (b:=60) U zO (λk a=>(D.in_ (p:=Rm _ t L) 4 rfl (k:=k) a).2) Z dp) ?_;rintro _ H19 ⟨bo,dq,k2,a7,bp,rfl⟩;have a8:=D.call bo;rw[dl];refine Af _ zD6 rfl zX ?_;intro q6 H20 bq br bu bv;have a9:=a8.box bq br bu bv;refine AI (cs:=dq) a9 9 (by rw[a7];rfl) rfl (by rw[a7];decide) bp λH21 o=>?_;clear D a8 a9 Z g;have z1:(f1 != f1)=zU:=zZ;have z2:(f2 != f2)=zU:=zZ;(conv=>whnf);rw[z1];(conv=>whnf);rw[z2];(conv=>whnf);have A:Rb 60 T _ H21 x1 f1:=o.at_ (p:=qA 60 T _ x1 f1) 6 rfl;have B:Rb 60 U _ H21 x2 f2:=o.at_ (p:=qA 60 U _ x2 f2) 7 rfl;rcases A with⟨rfl,A1,d1,m1,am,bw,dr,bx⟩ | ⟨bz,am,-⟩;(case inr=>have g1:(f1 != 0)=zW:=bne_iff_ne.2 bz;(conv=>whnf);rw[g1];(conv=>whnf);exact⟨rfl,o.old⟩);rcases B with⟨rfl,A2,d2,m2,ao,c3,dt,c4⟩ | ⟨c5,ao,-⟩;(case inr=>have g2:(f2 != 0)=zW:=bne_iff_ne.2 c5;(conv=>whnf);rw[g2];(conv=>whnf);exact⟨rfl,o.old⟩);have sA:Bm (H_ H21) H21 x1 (zY A1):=bw.mono λk a=>(o.in_ (p:=qA 60 T _ x1 0) 6 rfl (k:=k) a).2;have sB:Bm (H_ H21) H21 x2 (zY A2):=c3.mono λk a=>(o.in_ (p:=qA 60 U _ x2 0) 7 rfl (k:=k) a).2;have a0:∀x:ByteArray,DU (zY A1) x=OF (m_ x) T/\DU (zY A2) x=OF (m_ x) U:=λx=>⟨Ry bx am x,Ry c4 ao x⟩;have ab:stN (zY A1)<=60/\stN (zY A2)<=60:=by{have g1:=(Ha (Lw am).2.2.2).2.1;have g2:=(Ha (Lw ao).2.2.2).2.1;rw[bx.n,c4.n];omega};refine Ae.mk (hC (S:=H_ H21) (λk a=>a) sA sB dr.ok dt.ok) ?_;rintro _ H22 ⟨c6,u,i,j,ok,rfl,ae,e9⟩;have ag:=o.call c6;refine Af _ (yW ⟨#[]⟩ 0 0) Lv rfl ?_;intro q7 H23 c7 c8 c9 cd;have ah:=ag.box c7 c8 c9 cd;refine AI (cs:=yW u i j) ah 10 rfl rfl (zQ:0+3<=3) rfl λH24 d=>?_;rw[show Ah (yW ⟨#[]⟩ 0 0) 0 (yW u i j)=yW u i j from rfl]at d;clear o ag ah bw c3;have q8:=d.blk 10 rfl;have f:=d.blk 3 rfl;have g:=d.blk 5 rfl;have⟨ea,eb,Y,du⟩:=He.tree (d.at_ (p:=Rm _ s K) 2 rfl) b7;have⟨ec,ed,Z,dv⟩:=He.tree (d.at_ (p:=Rm _ t L) 4 rfl) b8;have ce:=λk a=>(d.in_ (p:=Rm _ s K) 2 rfl (k:=k) a).2;have cg:=λk a=>(d.in_ (p:=Rm _ t L) 4 rfl (k:=k) a).2;have O:∀{x:ByteArray} {G:Aa},x.size<=4194303->D_ (H_ H24) H24 G->BK prog 10 #[.agg K.toArray,.string x] G (.bool (OF (m_ x) T)):=λhx hg=>Vy (λk a=>An hg (ce k a)) (Y.frame (hg.mono λk a=>ce k a)) du hx;have P:∀{x:ByteArray} {G:Aa},x.size<=4194303->D_ (H_ H24) H24 G->BK prog 10 #[.agg L.toArray,.string x] G (.bool (OF (m_ x) U)):=λhx hg=>Vy (λk a=>An hg (cg k a)) (Z.frame (hg.mono λk a=>cg k a)) dv hx;have fin:∀{G:Aa},D_ (H_ H24) H24 G->D_ (H_ H) H G:=λh=>d.old.trans (h.mono λk a=>An d.old a);have E:YtelngokgpnphfaaGreatDoor.cell H24 q7 (0+0)=zY (.string u):=by rw[q8.cell];rfl
 have ch:YtelngokgpnphfaaGreatDoor.cell H24 q7 (0+1)=zY (.int .i64 (i:Int)):=by rw[q8.cell];rfl
 have cj:YtelngokgpnphfaaGreatDoor.cell H24 q7 (0+2)=zY (.int .i64 (j:Int)):=by rw[q8.cell];rfl
 have dw:St H24 H24 []:=St.nil H24;cases ok with|true=>obtain⟨u',dx,dy,h1,h2,h3,h4,-,-⟩:=ae.1 rfl;have ee:u.size=u'.length:=by{rw[dx,KT]};have cp:=ZB sA.steps sB.steps ab.1 ab.2 dy;have b1:zT ((i:Int)<0)=zU:=g_;have b2:zT ((j:Int)<=(i:Int))=zU:=g_;have b3:zT ((u.size:Int)<(j:Int))=zU:=g_;unfold Ev at h3 h4;rw[Bool.and_eq_true,(a0 _).1,(a0 _).2]at h3 h4;refine fa AlR (C_ E_ ch zA (fa AlS (C_ E_ cj zA ?_)));(conv=>whnf);rw[b1];(conv=>whnf);rw[b2];refine fa PZ (C_ wG E zA ?_);(conv=>whnf);rw[b3];refine Ap.quiet (H_ H24) rfl zX ?_;refine L_ (cs:=K) (by rw[F];exact Dv) (f.cells λj v J=>by rw[K_];exact J) f.lt ?_;refine fa PZ (C_ wG E q8.lt (Up Uk zO zO ?_));rw[O'];refine Nb (λH' Q=>O (by simp only[ByteArray.size_extract];omega) Q) ?_;rw[h3.1];refine L_ (cs:=L) (by rw[I];exact Dv) (g.cells λj v J=>by rw[K_];exact J) g.lt ?_;refine fa PZ (C_ wG E q8.lt (Uq Uk zO zO ?_));rw[O'];refine Nb (λH' Q=>P (by simp only[ByteArray.size_extract];omega) Q) ?_;rw[h3.2];refine L_ (cs:=K) (by rw[F];exact Dv) (f.cells λj v J=>by rw[K_];exact J) f.lt ?_;refine fa PZ (C_ wG E q8.lt (Up Uk zO zO ?_));rw[O'];refine Nb (λH' Q=>O (by simp only[ByteArray.size_extract];omega) Q) ?_;rw[h4.1];refine L_ (cs:=L) (by rw[I];exact Dv) (g.cells λj v J=>by rw[K_];exact J) g.lt ?_;refine fa PZ (C_ wG E q8.lt (Uq Uk zO zO ?_));rw[O'];refine Nb (λH' Q=>P (by simp only[ByteArray.size_extract];omega) Q) ?_;rw[h4.2];(conv=>whnf);intro H25 ck;(conv=>whnf);exact⟨rfl,fin ck⟩|false=>{have dz:=(ae.2 rfl).2.2.2;have e0:Jj (zY A1) (zY A2) w (w.size+1)<2:=by{by_cases h:Jj (zY A1) (zY A2) w (w.size+1)<2;{exact h};have⟨x,y,h1,h2,h3,h4⟩:=bD (by omega:2<=Jj (zY A1) (zY A2) w (w.size+1));exact absurd ⟨Ao,rfl,cD h1 zO h3 h4⟩ (dz (rA w) (Sp w))};(conv=>whnf);refine A0.mk [31,32] (λk:Nat=>[A_ (Jj (zY A1) (zY A2) w k:Int),A_ k]) (λk H10=>k<=w.size+1/\D_ (H_ H24) H24 H10) (λk _=>w.size+1-k) ?_ ?_;{(conv=>whnf);exact⟨0,rfl,p_ _,D_.refl _ _⟩};rintro k H10 cq ⟨a,l⟩;have ef:=AgS (zY A1) (zY A2) w k;have cm:S_ H10 q3 32 K:=f.agr l f.lt;have co:S_ H10 q4 32 L:=g.agr l g.lt;refine AB.m2 (λhz=>?_) (λhz=>?_);{have r:=ZD (zY A1) (zY A2) w k;unfold Ev at r;rw[(a0 _).1,(a0 _).2]at r;refine A7.run (Ap.quiet (H_ H10) rfl zX ?_);refine L_ (cs:=K) (by rw[F];exact Dv) (cm.cells λj v J=>by rw[K_];exact J) cm.lt ?_;refine Up Uk zO zO ?_;rw[O'];refine Nb (λH' Q=>O (by simp only[ByteArray.size_extract];omega) (l.trans (Q.mono λj hj=>An l hj))) ?_;cases A:OF (m_ (w.extract 0 k)) T with|false=>rw[A,Bool.false_and]at r;have e:Jj (zY A1) (zY A2) w (k+1)=Jj (zY A1) (zY A2) w k:=r;(conv=>whnf);intro H11 q;have R:D_ (H_ H24) H24 H11:=l.trans (q.mono λj hj=>An l hj);(conv=>whnf);rw[R_ k zO];exact⟨rfl,k+1,by simp only[e];rfl,⟨zO,R⟩,zO⟩|true=>rw[A,Bool.true_and]at r;refine L_ (cs:=L) (by rw[I];exact Dv) (co.cells λj v J=>by rw[K_];exact J) co.lt ?_;refine Uq Uk zO zO ?_;rw[O'];refine Nb (λH' Q=>P (by simp only[ByteArray.size_extract];omega) (l.trans (Q.mono λj hj=>An l hj))) ?_;cases B:OF (m_ (w.extract k w.size)) U;(case' false=>rw[B]at r;have e:Jj (zY A1) (zY A2) w (k+1)=Jj (zY A1) (zY A2) w k:=r;(conv=>whnf);intro H11 q;have R:D_ (H_ H24) H24 H11:=l.trans (q.mono λj hj=>An l hj));(case' true=>rw[B]at r;have e:Jj (zY A1) (zY A2) w (k+1)=Jj (zY A1) (zY A2) w k+1:=r;(conv=>whnf);intro H11 q;have R:D_ (H_ H24) H24 H11:=l.trans (q.mono λj hj=>An l hj);(conv=>whnf);rw[W_ (x:=(Jj (zY A1) (zY A2) w k:Int)+1) zO]);all_goals (conv=>whnf);rw[R_ k zO];exact⟨rfl,k+1,by simp only[e];rfl,⟨zO,R⟩,zO⟩};obtain rfl:k=w.size+1:=zO;have d2:zT ((Jj (zY A1) (zY A2) w (w.size+1):Int)<2)=zW:=t_;(conv=>whnf);rw[d2];(conv=>whnf);exact⟨rfl,fin l⟩}
def S7(s t w:ByteArray)(S:Nat->Prop)(H:Aa)(hs:s.size<=1048576)(d:t.size<=1048576)(a:w.size<=1048576)(b:Iw prog H)(c:I6 H):BK prog 3 #[.string s,.string t,.string w] H (.bool zW):=S6 s t w H a b c
end
def AoL:prog.globalNamed AeN=zY 1:=zX
def AmI:(prog.globals[1]?).map (·.type)=zY 308:=zX
def AoK:prog.cellsOf 308=20:=zX
def AmH:prog.cellsOf 106=1:=zX
def aY:(Rows.laid_internal_strconv_uint64pow10:DataW Unit)=tabData .u64 pow10Tab:=zX
def AoX:List Int:=[0,1,28,2,29,14,24,3,30,22,20,15,25,17,4,8,31,27,13,23,21,19,16,7,26,12,18,6,11,5,10,9]
def AmT:Array v_:=(AoX.map (Value.int .u8)).toArray
def AoY:List Int:=[0,1,56,2,57,49,28,3,61,58,42,50,38,29,17,4,62,47,59,36,45,43,51,22,53,39,33,30,24,18,12,5,63,55,48,27,60,41,37,16,46,35,44,21,52,32,23,11,54,26,40,15,34,20,31,10,25,14,19,9,13,8,7,6]
def AmU:Array v_:=(AoY.map (Value.int .u8)).toArray
def AmV:List Int:=[1,10,100,1000,10000,100000,1000000,10000000,100000000,1000000000,10000000000,100000000000,1000000000000,10000000000000,100000000000000,1000000000000000,10000000000000000,100000000000000000,1000000000000000000,10000000000000000000]
def AjI:Array v_:=(AmV.map (Value.int .u64)).toArray
def TS(vs:Array v_):Obj->Obj | .cells _ t frozen=>.cells vs t frozen | o=>o
noncomputable def gC(os:Os):y_:={World.holding prog os ⟨#[], #[],[]⟩with heap:=(((World.holding prog os ⟨#[], #[],[]⟩).heap.modify 3 (TS AmT)).modify 4 (TS AmU)).modify 1 (TS AjI)}
section
open Go.ChangeShapes Go.WideShapes Go.ChangeAt Go.RowKit
def Ad2:prog.globalNamed "loupe/class.escapes" =zY 0:=zX
def AlO:(prog.globals[0]?).map (·.type)=zY 304:=zX
def AnU:prog.cellsOf 304=6:=zX
def jM:prog.cellsOf 303=2:=zX
def AnV:prog.underlying 304=zY (.array 3 303):=zX
def TM{w:y_}{c:Nat}{held:Bool}{d:Nat}{cs:List v_}{a:Int}(h:DataW.trod enc prog w c sp held d 303 cs=zY (.agg [.lit (.int .u8 a),.lit (.int .u8 b)],p)):cs=[.int .u8 a,.int .u8 b]:=by have⟨r,s,m,e,i,j,k⟩:=trod_struct2 underlying303 h;obtain⟨l,f,n,-⟩:=DataW.trod_int underlying5 j;obtain⟨o,g,q,-⟩:=DataW.trod_int underlying5 k;subst n;subst q;injection e with e2 e3;injection e2 with e2;simp only[ApM.injEq,DataW.lit.injEq,Lit.int.injEq,true_and,and_true]at e2;rw[jM]at i;match cs,i with|[x,y],_=>{have f:[x]=[Value.int .u8 l]:=f;have g:[y]=[Value.int .u8 o]:=g;injection f with f;injection g with g;rw[f,g,<-e2.1,<-e2.2]}
def ZJ{w:y_}{held:Bool}{j:Nat}{cs:List v_}(h:DataW.trod enc prog w i sp held j 304 cs=zY (Rows.laid_loupe_class_escapes,p)):cs=Ad0:=by obtain⟨xs,m,-,e,q,u,o⟩:=DataW.trod_array AnV h;rw[AnU]at q;injection e with g e2;have g:(Rows.laid_loupe_class_escapes:DataW Unit)= .agg (xs.map (·.1)):=g;unfold Rows.laid_loupe_class_escapes at g;injection g with g;match xs,u with|[x0,x1,x2],_=>{simp only[List.map_cons,List.map_nil,ApM.injEq,and_true]at g;have⟨v,x,y⟩:=g;have r:=o 0 zQ;have s:=o 1 zQ;have t:=o 2 zQ;rw[jM]at r s t;have k:=TM (p:=x0.2) (r.trans (by rw[v];rfl));have l:=TM (p:=x1.2) (s.trans (by rw[x];rfl));have n:=TM (p:=x2.2) (t.trans (by rw[y];rfl));match cs,q with|[a,b,c,d,e,f],_=>have k:[a,b]=_:=k;have l:[c,d]=_:=l;have n:[e,f]=_:=n;simp only[ApM.injEq,and_true]at k l n;obtain⟨rfl,rfl⟩:=k;obtain⟨rfl,rfl⟩:=l;obtain⟨rfl,rfl⟩:=n;rfl}
def Nm(h:laidMetH prog Rows.ambigTextsUptoRow.laid W):Iw prog W.heap/\I6 W.heap:=by obtain⟨ps,⟨D,E,m,F,G,H,n,o,p,hd0,⟨g1,I,q,J,p1,K,r,s,t,u,⟨g2,L,x,M,p2,N,c,d,e,b,⟨O,P,f,Q,R,S,g,i,a,l,-,-⟩,-⟩,-⟩,-⟩,-⟩:=h;constructor;{have y:TabIs prog W AeN .u64 pow10Tab:=by{obtain rfl:=Ap2.inj (AoL.symm.trans c);obtain rfl:=Ap2.inj (AmI.symm.trans d);rw[aY]at b;unfold TabIs;rw[e,<-cells_of_tab underlying308 underlying106 AmH AoK b]};intro w z;exact Zr y λk _=>by rw[z]};obtain rfl:=Ap2.inj (Ad2.symm.trans g);obtain rfl:=Ap2.inj (AlO.symm.trans i);have A:=ZJ l;refine⟨λj v B=>?_,?_⟩;{have:=World.var?_cell Ad2 a j;rw[K_];have C:f[j]?=zY v:=by{rw[<-Array.getElem?_toList,A];exact B};rw[C]at this;exact this};unfold World.var? at a;rw[Ad2]at a;apply Classical.byContradiction;intro T;simp only[wA]at a;rw[Array.getElem?_eq_none zO]at a;simp at a
noncomputable def WY(os:Os):y_:={gC os with heap:=(gC os).heap.modify 0 (TS Ad0.toArray)}
end
section
open Go.Proofs.YtelngokgpnphfaaGreatDoor.Rows (uptoBulk uptoBulkAll)
def InW(W:y_)(k:Nat):Prop:=k<W.heap.size
def sU{α:Type}(sz:α->Nat):List α->Nat | []=>1 | x::xs=>sz x+sU sz xs
def AfK{α:Type}(sz:α->Nat)(x:α):∀xs:List α,sU sz (xs++[x])=sU sz xs+sz x | []=>by simp[sU];omega | y::ys=>by simp only[List.cons_append,sU,AfK sz x ys];omega
def Zaf{α:Type}{sz:α->Nat}(h:∀x,1<=sz x):∀xs:List α,xs.length+1<=sU sz xs | []=>M_ _ | y::ys=>by have:=Zaf h ys;have:=h y;simp only[List.length_cons,sU];omega
end
section
open Go
structure TableV(W:y_)(v:v_)(cells:List (BitVec 256))(next:List (List Int))(final:List Bool):Prop where
 rep:∃ca na fa cc nc fc,v= .agg #[.slice ca cells.length cc,.slice na next.length nc,.slice fa final.length fc]/\Y_ CA (InW W) W.heap ca cc cells/\Y_ IZ (InW W) W.heap na nc next/\Y_ Ay (InW W) W.heap fa fc final
end
section
open Go.ChangeShapes Go.WideShapes Go.ChangeAt Go.RowKit
def Vp{a:MemPlace->Prop}(b:l_ W W')(h:D_ (H_ W.heap) W.heap W'.heap):W.keptBut W' a:=by refine⟨b.os,b.output,λi c=>?_⟩;rw[h i c];split<;>simp_all
def Rj(h:D_ (H_ W.heap) W.heap W'.heap)(a:Addr)(b:a.block<W.heap.size):W'.frozen? a=W.frozen? a:=by unfold World.frozen?;rw[h a.block b]
def Rp(h:D_ (H_ W.heap) W.heap W'.heap):∀p:MemPlace,p.block<W.heap.size->W.sameAt W' p | .cell b o,hb=>by show W'.cell? ⟨b,o,zV⟩=W.cell? ⟨b,o,zV⟩;rw[Hm,Hm];exact OR (h b hb)| .map b,hb=>h b hb
def U6{H:Type}{enc:x_×v_->H}{P:w_}{W W':y_}{sp:Nat->Bool}(e:laidOutB P=zW)(f:D_ (H_ W.heap) W.heap W'.heap):∀{c:List x_} {vs:List v_} {ds:List (DataW H)} {ps:List MemPlace},(∀t∈c,P.readableRec t=zW/\t<P.types.size)->
  DataW.TrodAll enc P W 0 (λ_=>zW) zW c vs ds ps->(∀p∈ps,p.block<W.heap.size)->(∀p∈ps,sp p.block=zW)->DataW.TrodAll enc P W' 0 sp zW c vs ds ps
 | [],vs,ds,ps,_,h,_,_=>by
   obtain⟨rfl,rfl,rfl⟩:=trodAll_nil h;exact trodAll_mk0
 | t::c,vs,ds,ps,ht,h,hlt,hsp=>by
   obtain⟨v,g,d,i,p,q,rfl,rfl,rfl,j,k⟩:=trodAll_cons h;have b:=ht t List.mem_cons_self;exact trodAll_cons_mk (WideElems.Trod_stays e b.1 b.2 j (λx a=>Rp f x (hlt x (yO _ a))) λx a=>hsp x (yO _ a))
    (U6 e f (λx a=>ht x (List.mem_cons_of_mem _ a)) k (λx a=>hlt x (xX _ a)) λx a=>hsp x (xX _ a))
section
variable{H:Type}{enc:x_×v_->H}
def AmW{w:y_}{a:Nat}{c:Bool}{b:Bool}(h:P.underlying t=zY .bool):DataW.Trod enc P w a sp c t (.bool b) (.lit (.bool b)) []:=⟨1,by simp[DataW.trod,Value.cells,h]⟩
def dE{f:Func}{s:ChangeSpec}{apart h c i:Bool}{d:Array v_}{ds w:List (DataW H)}{a:List MemPlace}{bt:x_}(x:DataW.Whole enc P f.params.toList s.vars apart W d.toList ds w a) (G:s.vars=[]) (y:(s.fn H (ds++w)).results=[.lit (.bool zW)]/\(s.fn H (ds++w)).args=ds/\(s.fn H (ds++w)).vars=[])(M:laidOutB P=zW) (e:f.params.toList.all (λt=>P.readableRec t&&zT (t<P.types.size))=zW) (I:f.resultTypes= #[bt]) (J:P.underlying bt=zY .bool)(N:l_ W W') (z:D_ (H_ W.heap) W.heap W'.heap):s.post enc P f apart h c i W d (.bool zW) W':=by have k:=x.lt;have A:=x;have⟨pa,U,O,K,n,Q,R⟩:=x;rw[G]at K;obtain⟨rfl,rfl⟩:=trodVars_none K;rw[yU]at n;subst n;have⟨o,l,m⟩:=y;have S:W.keptBut W' (λ_=>False):=Vp N z;have B:∀t∈f.params.toList,P.readableRec t=zW/\t<P.types.size:=λt T=>by{have:=yC.1 e t T;simpa using this};have q:∀g:Nat->Bool,(∀p∈a,g p.block=zW)->DataW.TrodAll enc P W' 0 g zW f.params.toList d.toList (s.fn H (ds++[])).args a:=λg C=>by{rw[l];exact U6 M z B O k C};have u:∀(b:Nat) (g:Nat->Bool) (L:Bool),DataW.TrodAll enc P W' b g L f.resultTypes.toList ((Value.bool zW).resultList f.resultTypes.size) (s.fn H (ds++[])).results []:=λb g L=>by{rw[o,I];exact trodAll_mk1 (AmW J)};have v:∀g:Nat->Bool,DataW.TrodVars enc P W' g s.vars (s.fn H (ds++[])).vars []:=λg=>by{rw[m,G];rfl};have D:∀(j:Nat) (t:x_) (r:v_),f.resultTypes[j]?=zY t->((Value.bool zW).resultList f.resultTypes.size)[j]?=zY r->Value.okWide P W' .any 0 t r:=ok_one I rfl (okWide_bool_mk J zW);refine⟨ds,[],a,[],a,[],A,u _ _ _,q _ (λp e=>r_ (k p e)),v _,World.keptBut_mono (λp e=>e.elim) S,λ_=>?_⟩;refine⟨D,_,_,([]++a)++[],⟨[]++a,[],trodAll_append (q _ (λ_ _=>rfl)) (u _ _ _),v _,rfl,?_,?_⟩,?_⟩;{intro b E e;simp only[rN,yU]at e;rw[Rj z _ (k _ e)];exact Q b E e};{intro F;have:=R F;simpa using this};intro p e _;simpa using e
end
end
def kN:ownKnob prog.godebug=zV:=zX
def Ao8:laidOutB prog=zW:=zX
def AfG{H:Type}{ds:List (DataW H)}(h:Rows.uptoSmall H ds=zW):Rows.uptoBulkAll ds<=1048576:=by simpa [Rows.uptoSmall]using h
end Go.Proofs.YtelngokgpnphfaaGreatDoor
