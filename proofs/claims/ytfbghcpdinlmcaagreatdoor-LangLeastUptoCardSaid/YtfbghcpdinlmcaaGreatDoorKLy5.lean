import Derived.Test.YtfbghcpdinlmcaaGreatDoorKLy4
import Derived.Recover
set_option maxHeartbeats 0
open Array renaming replicate -> AjO, map -> Al4
open List renaming replicate -> Ai5, range -> Ak8
set_option maxRecDepth 100000
open Go.Proofs.Tryz
open Go renaming Value -> v_, Program -> w_, World -> y_, Operand -> z_, TypeId -> x_
open Option renaming some -> zY, none -> zV
open Bool renaming true -> zW, false -> zU
open Decidable renaming decide -> zT
set_option linter.unusedVariables false
set_option linter.unusedSimpArgs false
set_option linter.defProp false
namespace Go.Proofs.YtfbghcpdinlmcaaGreatDoor
variable{i b n j:Nat}{B S:Nat->Prop}{H H0:Aa}{m x:Int}{v va:v_}{l:List Nat}{f:FuncId}{N:P_}{R K E' R':v_->Aa->Prop}{P:w_}{fr:Fr}{a:Act}{ds:List Deferred}{o:Oper}{w:y_}{E:Fr->v_->Aa->Prop}{vs:Array v_}{all:List Oper}{c y:Code}{X:List (Nat×(Fr->Aa->Prop))}{kr kn:Fr->Aa->Prop}{Q:Exit->Fr->Aa->Prop}{ps:List Pc}{e:x_}{cs:List v_}{t:ByteArray}{r:ReM}
section
attribute [local irreducible] Bt AH Am
abbrev zD6:List v_:=AX (Ai5 256 0) (.slice zV 0 0) (.slice zV 0 0) (.slice zV 0 0)
def HB:Nat->Bool->Bool->Bool
 | 0,p,q=>p&&q
 | 1,p,q=>p|| q
 | _,p,q=>p&& !q
def YR(A B:DM):List Int:=U' (Am (C6 A++C6 B) 256).2
def YS(A B:DM):(YR A B).length=256:=by unfold YR U';rw[k_];exact(CP _ 256).plen
def Mh{by_:List Nat}{a:List Int}{A B:DM}{c:Option Addr}{d:Nat}(hby:by_=Kl A B)(b:a=YR A B)(e:n=(C6 A++C6 B).length)(f:∀k,S k->k<H.size)(g:b_ tB S H c d (C6 A++C6 B))(j:(C6 A++C6 B).length<=4194304):
  Aj prog 61 #[.slice c n d] H λv H'=>C_ (H_ H) H H'/\∃ra rc,v= .agg (AX a (.slice ra by_.length rc) (.slice zV 0 0) (.slice zV 0 0)).toArray/\b_ tI (C8 H H') H' ra rc (U' by_):=by subst e;subst hby;subst b;refine(Pr c d _ S H f g zO).mono ?_;rintro v H' ⟨h,-,ra,rc,rfl,i⟩;exact⟨h,ra,rc,rfl,i⟩
def O2(A B:DM)(a b:Option AM)(kind:Nat)(m:Int)(H':Aa)(v:v_)(e:Int):Prop:=
 if m<1\/4096<m then e=2 else
 match CS m.toNat (Bm a b) (Kl A B) ((0,0):Int×Int)with
 | none=>e=40
 | some (F,rows)=>e=0/\Fb (H_ H') H' v ⟨YR A B,U' (Kl A B),rows.map AK,F.map λx=>HB kind (Bk a x.1) (Bk b x.2)⟩
def Vz{vB:v_}{a b:Option AM}{A B:DM}{I:Nat}(gs:I<3)(hS:∀k,S k->k<H.size)(c9:Fb S H va A)(cd:Fb S H vB B)(ha:U2 a A)(hb:U2 b B)(sa:Iw a)(sb:Iw b):
  Aj prog 24 #[A_ I,va,vB,A_ m] H λr H'=>C_ (H_ H) H H'/\∃v e,r= .tuple #[v,A_ e]/\(∃la:List v_,v= .agg la.toArray/\la.length=259/\la.all (·.oneCell')=zW)/\O2 A B a b I m H' v e:=by
 have ce:=ha.ok;have be:=hb.ok;have gt:=ce.fl;have gu:=be.fl;have gq:=OI A;have b4:=OI B;have dj:∀x,Lx a b x->Re x:=λx hx=>by
  have h1:=sa.n2;have h2:=sb.n2;obtain⟨⟨x1,x2⟩,x3,x4⟩:=hx;exact⟨⟨x1,zO⟩,x3,zO⟩
 have eh:∀x c,Lx a b x->Lx a b (Bm a b x c):=λx c hx=>by
  unfold Bm;split
  ·rename_i h;exact⟨sa.step x.1 c hx.1 h,sb.step x.2 c hx.2 h⟩
  ·exact hx
 obtain⟨by_,hby⟩:∃x,x=Kl A B:=⟨_,rfl⟩;obtain⟨Y,ae⟩:∃x,x=YR A B:=⟨_,rfl⟩;have d:Y.length=256:=by rw[ae];exact YS A B
 have dk:∀c∈by_,c<256:=by rw[hby];exact gR A B
 have gv:by_.length<=256:=by rw[hby];exact XU A B
 have cw:(U' by_).length=by_.length:=by unfold U';rw[k_]
 have dl:∀(k r:Nat),by_[k]?=zY r->(U' by_)[k]?=zY (r:Int):=λk r h=>by unfold U';rw[I',h];rfl
 have D:∀rv nv fv,(AX Y rv nv fv).length=259:=λrv nv fv=>Aq d;have cg:∀{H':Aa} {ps:List Pc},St H H' ps->∀k,S k->k<H'.size:=λst k N=>st.up (hS k N);refine Aj.of_vc func24 rfl (call24 _) (K5 c9 λra rc na nc ei fc he a1 a2 a3=>?_);subst he;intro p1 H1 ej ek el en;have J_:=(St.nil H).box ej ek el en;refine K5 (cd.frame (J_.old.mono hS)) λdm dn eo ep dp eu he b1 b2 b3=>?_;subst he;intro p2 H2 ev ew ey ez;have f0:=J_.box ev ew ey ez;have f1:=(Wj c9);have f2:=(Wj cd);generalize AX A.cell (.slice ra A.reps.length rc) (.slice na A.next.length nc) (.slice ei A.final.length fc)=la at*;generalize AX B.cell (.slice dm B.reps.length dn) (.slice eo B.next.length ep) (.slice dp B.final.length eu)=lb at*;have⟨f3,fA,cA,ax,f4⟩:=f1;have⟨f5,fB,cB,bf,f6⟩:=f2;have cm:∀{H':Aa} {ps:List Pc} (S0:Nat->Prop) {K:v_->Prop} (st:St H H' ps),ps[0]?=zY (pB 43 p1 la)->S0 p1->K (.agg la.toArray)->AO prog (Instr.loadAt 43 (Y_ p1)) S0 H' K:=λS0 K st hp cx hK=>
  L_ (cs:=la) (by rw[f3];exact Ec) ((st.blk 0 hp).cells λj v hv=>by rw[K_];exact hv) cx hK
 have co:∀{H':Aa} {ps:List Pc} (S0:Nat->Prop) {K:v_->Prop} (st:St H H' ps),ps[1]?=zY (pB 43 p2 lb)->S0 p2->K (.agg lb.toArray)->AO prog (Instr.loadAt 43 (Y_ p2)) S0 H' K:=λS0 K st hp cx hK=>
  L_ (cs:=lb) (by rw[f5];exact Ec) ((st.blk 1 hp).cells λj v hv=>by rw[K_];exact hv) cx hK
 have dq:∀{H':Aa} {ps:List Pc},St H H' ps->∀{q:Int} {c:Nat},c<256->BZ prog 64 #[.agg la.toArray,A_ q,.int .u8 (c:Int)] H' (.int .i64 (AR a q c)):=λst q c hc=>by
  rw[ha.step q c hc];exact KJ (cg st) (c9.frame (st.old.mono hS)) ce hc
 have dr:∀{H':Aa} {ps:List Pc},St H H' ps->∀{q:Int} {c:Nat},c<256->BZ prog 64 #[.agg lb.toArray,A_ q,.int .u8 (c:Int)] H' (.int .i64 (AR b q c)):=λst q c hc=>by
  rw[hb.step q c hc];exact KJ (cg st) (cd.frame (st.old.mono hS)) be hc
 refine Ag _ zD6 rfl zX ?_;intro p3 H3 f7 f8 f9 fe;have ag:=f0.box f7 f8 f9 fe;by_cases cy:m<1
 ·have d1:zT (m<1)=zW:=m_ cy;(conv=>whnf);rw[d1];refine Ae.mk (Jl H3) ?_;rintro v3 Hy ⟨bg,-,bh⟩;obtain⟨P,x1,x2,x3,x4,x5,x6,rfl,-,-,-⟩:=bh;have bi:=ag.call bg;refine A9 (cs:=AX AC.cell (.slice x1 AC.reps.length x2) (.slice x3 AC.next.length x4) (.slice x5 AC.final.length x6)) bi 2 (by rw[Aq P];rfl) rfl (by rw[Aq P];decide) (Bb rfl rfl rfl) λHz ah=>?_;rw[Br (by rw[Aq P];rfl)]at ah;refine L_ (cs:=AX AC.cell (.slice x1 AC.reps.length x2) (.slice x3 AC.next.length x4) (.slice x5 AC.final.length x6)) (by rw[Aq P];exact Ec) ((ah.blk 2 rfl).cells λj v hv=>by rw[K_];exact hv) zA ?_;refine⟨ah.old,_,2,rfl,⟨_,rfl,Aq P,Bb rfl rfl rfl⟩,?_⟩;unfold O2;rw[I_ (.inl cy)]
 ·have d1:zT (m<1)=zU:=j_ cy;by_cases cz:4096<m
  ·have d2:zT (4096<m)=zW:=m_ cz;(conv=>whnf);rw[d1];(conv=>whnf);rw[d2];refine Ae.mk (Jl H3) ?_;rintro v3 Hy ⟨bg,-,bh⟩;obtain⟨P,x1,x2,x3,x4,x5,x6,rfl,-,-,-⟩:=bh;have bi:=ag.call bg;refine A9 (cs:=AX AC.cell (.slice x1 AC.reps.length x2) (.slice x3 AC.next.length x4) (.slice x5 AC.final.length x6)) bi 2 (by rw[Aq P];rfl) rfl (by rw[Aq P];decide) (Bb rfl rfl rfl) λHz ah=>?_;rw[Br (by rw[Aq P];rfl)]at ah;refine L_ (cs:=AX AC.cell (.slice x1 AC.reps.length x2) (.slice x3 AC.next.length x4) (.slice x5 AC.final.length x6)) (by rw[Aq P];exact Ec) ((ah.blk 2 rfl).cells λj v hv=>by rw[K_];exact hv) zA ?_;refine⟨ah.old,_,2,rfl,⟨_,rfl,Aq P,Bb rfl rfl rfl⟩,?_⟩;unfold O2;rw[I_ (.inr cz)]
  ·have d2:zT (4096<m)=zU:=j_ cz;obtain⟨n,rfl⟩:=xK (zO:0<=m);have ff:1<=n:=zO
   have gw:n<=4096:=zO
   (conv=>whnf);rw[d1];(conv=>whnf);rw[d2];have hA:Fb (H_ H3) H3 (.agg la.toArray) A:=(c9.frame (ag.old.mono hS)).mono (cg ag);have hB:Fb (H_ H3) H3 (.agg lb.toArray) B:=(cd.frame (ag.old.mono hS)).mono (cg ag);refine Ap.cut [10] (λp:Nat=>[Y_ p]) (λp H'=>∃ra rc S',St H3 H' [pB 43 p (AX Y (.slice ra by_.length rc) (.slice zV 0 0) (.slice zV 0 0)),pV ra rc (U' by_) S']) ?_ ?_
   ·refine Ap.held (H_ H3) 7 (sq [0,2] (.b 1 (.b 3 (.b 4 (.b 5 (.f 6 (.f 7 .e)) 6 (.f 5 (.f 7 .e))) 6 (.f 4 (.f 5 (.f 7 .e)))) 6 (.f 3 (.f 4 (.f 5 (.f 7 .e))))) 6 (.f 1 (.f 3 (.f 4 (.f 5 (.f 7 .e))))))) rfl zX (cm _ ag rfl (ag.in_ 0 rfl rfl).2 (co _ ag rfl (ag.in_ 1 rfl rfl).2 ?_));have ch:=St.nil H3;refine⟨?_,?_⟩
    ·
     refine Ae.mk (IP (S:=H_ H3) (λk N=>Af ch.old N) (hA.frame ch.old) ce) ?_;rintro _ G1 ⟨d0,fg⟩;obtain⟨gx,gy,rfl,am⟩:=ch.got d0 fg;refine⟨am.old,?_⟩;refine⟨?_,?_⟩
     ·
      refine Ae.mk (IP (S:=H_ H3) (λk N=>Af am.old N) (hB.frame am.old) be) ?_;rintro _ G2 ⟨bj,d3⟩;obtain⟨fh,fj,rfl,a5⟩:=am.got bj d3;refine⟨a5.old,?_⟩;refine⟨?_,?_⟩
      ·
       refine SK a5 0 1 Ss rfl rfl b4.1 Ov zO zQ λdt du G3 a6 _=>(⟨a6.old,?_⟩);refine⟨?_,?_⟩
       ·
        refine Ae.mk (Mh hby ae M_.symm (λk N=>N) (a6.view 0 rfl) (by rw[M_];omega)) ?_;rintro _ G4 ⟨d6,ra,rc,rfl,fk⟩;have O:=a6.add d6 (pV ra rc (U' (by_)) (C8 G3 G4)) fk (λk N=>N);refine⟨O.old,?_⟩;refine Ag _ (AX (Ai5 256 0) (.slice zV 0 0) (.slice zV 0 0) (.slice zV 0 0)) rfl zX ?_;intro pp G5 fm fo fp ao;have Z:=O.box fm fo fp ao;refine⟨Z.old,?_⟩;refine A9 (cs:=AX Y (.slice ra (by_).length rc) (.slice zV 0 0) (.slice zV 0 0)) Z 3 (by rw[Aq d];rfl) rfl (by rw[Aq d];decide) (Bb rfl rfl rfl) λGF sf=>?_;rw[Br (by rw[Aq d];rfl)]at sf;(conv=>whnf);exact⟨rfl,pp,rfl,ra,rc,_,sf.pick [3,2] zQ⟩
       ·
        refine Ag _ (AX (Ai5 256 0) (.slice zV 0 0) (.slice zV 0 0) (.slice zV 0 0)) rfl zX ?_;intro pp G4 fq fu fw d6;have O:=a6.box fq fu fw d6;refine⟨O.old,?_⟩;refine Ae.mk (Mh hby ae M_.symm (λk N=>N) (O.view 0 rfl) (by rw[M_];omega)) ?_;rintro _ G5 ⟨ao,ra,rc,rfl,ay⟩;have Z:=O.add ao (pV ra rc (U' (by_)) (C8 G4 G5)) ay (λk N=>N);refine⟨Z.old,?_⟩;refine A9 (cs:=AX Y (.slice ra (by_).length rc) (.slice zV 0 0) (.slice zV 0 0)) Z 2 (by rw[Aq d];rfl) rfl (by rw[Aq d];decide) (Bb rfl rfl rfl) λGF sf=>?_;rw[Br (by rw[Aq d];rfl)]at sf;(conv=>whnf);exact⟨rfl,pp,rfl,ra,rc,_,sf.pick [2,3] zQ⟩
      ·
       refine Ag _ (AX (Ai5 256 0) (.slice zV 0 0) (.slice zV 0 0) (.slice zV 0 0)) rfl zX ?_;intro pp G3 fx fy fz bm;have a6:=a5.box fx fy fz bm;refine⟨a6.old,?_⟩;refine SK a6 0 1 Ss rfl rfl b4.1 Ov zO zQ λdv dw G4 O _=>(⟨O.old,?_⟩);refine Ae.mk (Mh hby ae M_.symm (λk N=>N) (O.view 0 rfl) (by rw[M_];omega)) ?_;rintro _ G5 ⟨ao,ra,rc,rfl,ay⟩;have Z:=O.add ao (pV ra rc (U' (by_)) (C8 G4 G5)) ay (λk N=>N);refine⟨Z.old,?_⟩;refine A9 (cs:=AX Y (.slice ra (by_).length rc) (.slice zV 0 0) (.slice zV 0 0)) Z 2 (by rw[Aq d];rfl) rfl (by rw[Aq d];decide) (Bb rfl rfl rfl) λGF sf=>?_;rw[Br (by rw[Aq d];rfl)]at sf;(conv=>whnf);exact⟨rfl,pp,rfl,ra,rc,_,sf.pick [2,3] zQ⟩
     ·
      refine Ag _ (AX (Ai5 256 0) (.slice zV 0 0) (.slice zV 0 0) (.slice zV 0 0)) rfl zX ?_;intro pp G2 g0 g3 g4 bj;have a5:=am.box g0 g3 g4 bj;refine⟨a5.old,?_⟩;refine Ae.mk (IP (S:=H_ H3) (λk N=>Af a5.old N) (hB.frame a5.old) be) ?_;rintro _ G3 ⟨bm,d7⟩;obtain⟨dt,du,rfl,a6⟩:=a5.got bm d7;refine⟨a6.old,?_⟩;refine SK a6 0 2 Ss rfl rfl b4.1 Ov zO zQ λdv dw G4 O _=>(⟨O.old,?_⟩);refine Ae.mk (Mh hby ae M_.symm (λk N=>N) (O.view 0 rfl) (by rw[M_];omega)) ?_;rintro _ G5 ⟨ao,ra,rc,rfl,ay⟩;have Z:=O.add ao (pV ra rc (U' (by_)) (C8 G4 G5)) ay (λk N=>N);refine⟨Z.old,?_⟩;refine A9 (cs:=AX Y (.slice ra (by_).length rc) (.slice zV 0 0) (.slice zV 0 0)) Z 1 (by rw[Aq d];rfl) rfl (by rw[Aq d];decide) (Bb rfl rfl rfl) λGF sf=>?_;rw[Br (by rw[Aq d];rfl)]at sf;(conv=>whnf);exact⟨rfl,pp,rfl,ra,rc,_,sf.pick [1,3] zQ⟩
    ·
     refine Ag _ (AX (Ai5 256 0) (.slice zV 0 0) (.slice zV 0 0) (.slice zV 0 0)) rfl zX ?_;intro pp G1 g5 g6 g7 d0;have am:=ch.box g5 g6 g7 d0;refine⟨am.old,?_⟩;refine Ae.mk (IP (S:=H_ H3) (λk N=>Af am.old N) (hA.frame am.old) ce) ?_;rintro _ G2 ⟨bj,d3⟩;obtain⟨fh,fj,rfl,a5⟩:=am.got bj d3;refine⟨a5.old,?_⟩;refine Ae.mk (IP (S:=H_ H3) (λk N=>Af a5.old N) (hB.frame a5.old) be) ?_;rintro _ G3 ⟨bm,d7⟩;obtain⟨dt,du,rfl,a6⟩:=a5.got bm d7;refine⟨a6.old,?_⟩;refine SK a6 1 2 Ss rfl rfl b4.1 Ov zO zQ λdv dw G4 O _=>(⟨O.old,?_⟩);refine Ae.mk (Mh hby ae M_.symm (λk N=>N) (O.view 1 rfl) (by rw[M_];omega)) ?_;rintro _ G5 ⟨ao,ra,rc,rfl,ay⟩;have Z:=O.add ao (pV ra rc (U' (by_)) (C8 G4 G5)) ay (λk N=>N);refine⟨Z.old,?_⟩;refine A9 (cs:=AX Y (.slice ra (by_).length rc) (.slice zV 0 0) (.slice zV 0 0)) Z 0 (by rw[Aq d];rfl) rfl (by rw[Aq d];decide) (Bb rfl rfl rfl) λGF sf=>?_;rw[Br (by rw[Aq d];rfl)]at sf;(conv=>whnf);exact⟨rfl,pp,rfl,ra,rc,_,sf.pick [0,3] zQ⟩
   ·rintro p4 H6 g8 ⟨ra,rc,S',g9⟩;have ga:=ag.cat g9;refine Az underlying127 rfl _ AjL (Ai5 1025 (.slice zV 0 0)) rfl (cU ga λpp H7 gb=>(Y1 (n:=(0,0)) gb 5 rfl zZ List.nodup_nil ⟨⟨zQ,zQ⟩,zQ,zQ⟩ zQ λdx H8 d8 dy=>?_));replace d8:St H H8 [pB 43 p1 la,pB 43 p2 lb,pB 43 p3 zD6,pB 43 p4 (AX Y (.slice ra by_.length rc) (.slice zV 0 0) (.slice zV 0 0)),pV ra rc (U' by_) S',NF pp dx [(0,0)],pN (zC a_) none_ 41 zV 0 0 [],pS AI 4 zV 0 0 []]:=(d8.nils (zC a_) 41).nils AI 4;(conv=>whnf);refine Ay.mk [12] (λx:Nat×List (Int×Int)×List (List Nat)=>match x with | (i,F,rows)=>[A_ i])
     (λx H4=>match x with | (i,F,rows)=>i<=F.length/\F.length<=n/\F.Nodup/\(∀x∈F,Lx a b x)/\rows.length=i/\By n (Bm a b) by_ ((0,0):Int×Int) i=zY (F,rows)/\∃vs Sn xa xc ya yc,vs.length=1025/\St H H4 [pB 43 p1 la,pB 43 p2 lb,pB 43 p3 zD6,pB 43 p4 (AX Y (.slice ra by_.length rc) (.slice xa i xc) (.slice ya i yc)),pV ra rc (U' by_) S',NF pp vs F,pN (zC a_) Sn 41 xa i xc (rows.map AK),pS AI 4 ya i yc ((F.take i).map λx=>HB I (Bk a x.1) (Bk b x.2))]) (λx _=>n-x.1) ?_ ?_
    ·(conv=>whnf);exact⟨(0,[(0,0)],[]),rfl,q_ _,by simpa using ff,zZ,λx hx=>by
      rw[g_]at hx;subst hx;have h1:=sa.n1;have h2:=sb.n1;exact⟨⟨oP _,by simp only;omega⟩,oP _,by simp only;omega⟩,rfl,rfl,dx,none_,zV,0,zV,0,dy,d8⟩
    ·rintro⟨i,F,rows⟩ H9 gc ⟨gz,dz,gd,e0,a9,cp,d9,Sn,xa,xc,ya,yc,e3,az⟩;have⟨v0,ci⟩:=Ab (l:=d9) (k:=0) zO;have cj:R_ H9 pp 127 d9:=az.fblk 5 rfl;obtain⟨a0,c0,rfl,da⟩:=az.fview 5 rfl ci (xs:=F) (T:=tLp) (e:=129) rfl;refine F_ Gg ?_;refine D_ (v:=.slice a0 F.length c0) KY (by rw[cj.cell];exact ci) zA ?_;refine AD.m2 (λhz=>?_) (λhz=>?_)
     ·have⟨x,hx⟩:=Ab (l:=F) (k:=i) zO;have bn:=e0 x (e_ hx);have J:By n (Bm a b) by_ ((0,0):Int×Int) (i+1)=(by_.foldl (C4 n (Bm a b) x) (zY (F,[]))).map λr=>(r.1,rows++[r.2]):=by
       show(By n (Bm a b) by_ (0,0) i).bind _=_;rw[cp];simp only[Option.bind_some,hx]
      refine Ap.lex rfl zX (F_ Gg ?_);refine D_ (v:=.slice a0 F.length c0) KY (by rw[cj.cell];exact ci) zA ?_;refine EK (i:=i) (x:=x) QK da rfl hx rfl ?_;rintro b8 o8 h0 h4 bo rfl;refine s_ CW zQ zQ (D_ (v:=A_ x.1) E_ (bo 0 _ rfl) zA (F_ Gg ?_));refine D_ (v:=.slice a0 F.length c0) KY (by rw[cj.cell];exact ci) zA ?_;refine EK (i:=i) (x:=x) QK da rfl hx rfl ?_;rintro b9 o9 h5 h6 gf rfl;refine s_ CW zQ zQ (D_ (v:=A_ x.2) E_ (gf 1 _ rfl) zA ?_);have G:=az.nils a_ 3;(conv=>whnf);refine Ay.mk [15,16] (λy:Nat×List (Int×Int)×List Nat×Option Addr×Nat=>match y with | (j,F',row,r1,r2)=>[.slice r1 row.length r2,A_ j])
       (λy H7=>match y with | (j,F',row,r1,r2)=>j<=by_.length/\F'.length<=n/\F'.Nodup/\(∀x∈F',Lx a b x)/\F <+: F'/\row.length=j/\(by_.take j).foldl (C4 n (Bm a b) x) (zY (F,[]))=zY (F',row)/\∃vs,vs.length=1025/\St H H7 [pB 43 p1 la,pB 43 p2 lb,pB 43 p3 zD6,pB 43 p4 (AX Y (.slice ra by_.length rc) (.slice xa i xc) (.slice ya i yc)),pV ra rc (U' by_) S',NF pp vs F',pN (zC a_) Sn 41 xa i xc (rows.map AK),pS AI 4 ya i yc ((F.take i).map λx=>HB I (Bk a x.1) (Bk b x.2)),pS a_ 3 r1 row.length r2 (AK row)]) (λy _=>by_.length-y.1) ?_ ?_
      ·(conv=>whnf);exact⟨(0,F,[],zV,0),rfl,q_ _,dz,gd,e0,List.prefix_refl _,rfl,rfl,d9,e3,G⟩
      ·clear G az da cj;rintro⟨j,F',row,r1,r2⟩ H10 eg ⟨hj,W,X,ab,b5,bp,bq,a4,L,G⟩;refine F_ HD ?_;refine D_ (v:=.slice ra by_.length rc) C9 (by rw[(G.blk 3 rfl).cell];exact ET d) zA ?_;refine AD.m2 (λgg=>?_) (λgg=>?_)
       ·have⟨c,hc⟩:=Ab (l:=by_) (k:=j) zO;have bo:=dk c (e_ hc);refine Ap.held (H_ H10) 9 (sq [0,1,2,3,4,5,6,7] (.f 8 (.f 9 .e))) rfl zX (cm _ G rfl (G.in_ 0 rfl rfl).2 (F_ HD ?_));refine D_ (v:=.slice ra by_.length rc) C9 (by rw[(G.blk 3 rfl).cell];exact ET d) (G.in_ 3 rfl rfl).2 ?_;refine EK (i:=j) (x:=(c:Int)) AB (G.at_ 4 rfl) cw.symm (dl j c hc) rfl ?_;rintro gh gi e4 br bu ⟨rfl,-⟩;refine D_ (v:=A_ c) E_ bu.one (G.in_ 4 rfl br).2 ?_;(conv=>whnf);rw[w8 (x:=(c:Int)) zO zO];refine Al (dq G bo) λH11 bv=>?_;have Q:=G.call bv;refine⟨bv,?_⟩;refine Ap.held (H_ H11) 9 (sq [0,1,2,3,4,5,6,7] (.f 8 (.f 9 .e))) rfl zX (co _ Q rfl (Q.in_ 1 rfl rfl).2 (F_ HD ?_));refine D_ (v:=.slice ra by_.length rc) C9 (by rw[(Q.blk 3 rfl).cell];exact ET d) (Q.in_ 3 rfl rfl).2 ?_;refine EK (i:=j) (x:=(c:Int)) AB (Q.at_ 4 rfl) cw.symm (dl j c hc) rfl ?_;rintro gh gi e4 br bu ⟨rfl,-⟩;refine D_ (v:=A_ c) E_ bu.one (Q.in_ 4 rfl br).2 ?_;(conv=>whnf);rw[w8 (x:=(c:Int)) zO zO];refine Al (dr Q bo) λH12 bw=>?_;have bx:=Q.call bw;refine⟨bw,?_⟩;have e6:Bm a b x c=(AR a x.1 c,AR b x.2 c):=I_ bo;have db:Lx a b (AR a x.1 c,AR b x.2 c):=by rw[<-e6];exact eh x c bn
        have a7:(by_.take (j+1)).foldl (C4 n (Bm a b) x) (zY (F,[]))=(L' n F' (AR a x.1 c,AR b x.2 c)).map λr=>(r.1,row++[r.2]):=by
         rw[Ac hc,xP,bq,<-e6];rfl
        refine dG (n:=(AR a x.1 c,AR b x.2 c)) bx 5 rfl L X (dj _ db) zO λH13 E=>?_;cases bz:F'.findIdx? (·=(AR a x.1 c,AR b x.2 c))with
        | some t=>
          have c1:TQ F' (AR a x.1 c,AR b x.2 c)=(t:Int):=by unfold TQ;rw[bz]
          have e7:L' n F' (AR a x.1 c,AR b x.2 c)=zY (F',t):=by unfold L';rw[bz]
          have h7:=(Rk e7 W).2;rw[e7]at a7;have d5:zT ((t:Int)<0)=zU:=Z_;rw[c1];refine Au.run (As AB [A_ t] rfl rfl zQ zQ ?_);intro gj H15 c2 e8 c3 c4;refine GI (x:=(t:Int)) (E.skip c2 c4) 8 AB rfl c3 ⟨rfl,HF ⟨zO,zO⟩⟩ rfl (by unfold AK;rw[k_];omega) zQ λdc de H16 aq _=>?_;have e1:(AK row).length+1=(row++[t]).length:=by unfold AK;simp
          have e2:AK row++[(t:Int)]=AK (row++[t]):=by unfold AK;simp
          rw[e1,e2]at aq;rw[e1];(conv=>whnf);rw[Q_ j zO];exact⟨rfl,(j+1,F',row++[t],dc,de),zZ,⟨zO,W,X,ab,b5,by simp[bp],a7,a4,L,aq⟩,by simp only;omega⟩
        | none=>
          have c1:TQ F' (AR a x.1 c,AR b x.2 c)= -1:=by unfold TQ;rw[bz]
          rw[c1];refine Au.run ?_;have⟨v1,e9⟩:=Ab (l:=a4) (k:=0) zO;have ea:R_ H13 pp 127 a4:=E.fblk 5 rfl;obtain⟨gk,gl,rfl,-⟩:=E.fview 5 rfl e9 (xs:=F') (T:=tLp) (e:=129) rfl;refine F_ Gg ?_;refine D_ (v:=.slice gk F'.length gl) KY (by rw[ea.cell];exact e9) zA ?_;by_cases eb:F'.length=n
          ·have d4:((F'.length:Int)==(n:Int))=zW:=by rw[eb];simp
           have c5:L' n F' (AR a x.1 c,AR b x.2 c)=zV:=by
            unfold L';rw[bz];simp only;rw[G_ zO]
           rw[c5]at a7;have df:by_.foldl (C4 n (Bm a b) x) (zY (F,[]))=zV:=by
            have h3:=(List.take_append_drop (j+1) by_).symm;rw[h3,xP,a7];exact Fp x _
           have c6:CS n (Bm a b) by_ ((0,0):Int×Int)=zV:=K4 (n:=i) (by rw[J,df];rfl) zO;(conv=>whnf);rw[d4];refine Ae.mk (Jl H13) ?_;rintro v3 Hy ⟨bg,-,bh⟩;obtain⟨P,x1,x2,x3,x4,x5,x6,rfl,-,-,-⟩:=bh;have bi:=E.call bg;refine A9 (cs:=AX AC.cell (.slice x1 AC.reps.length x2) (.slice x3 AC.next.length x4) (.slice x5 AC.final.length x6)) bi 2 (by rw[Aq P];rfl) rfl (by rw[Aq P];decide) (Bb rfl rfl rfl) λHz ah=>?_;rw[Br (by rw[Aq P];rfl)]at ah;refine L_ (cs:=AX AC.cell (.slice x1 AC.reps.length x2) (.slice x3 AC.next.length x4) (.slice x5 AC.final.length x6)) (by rw[Aq P];exact Ec) ((ah.blk 2 rfl).cells λj v hv=>by rw[K_];exact hv) zA ?_;refine⟨ah.old,_,40,rfl,⟨_,rfl,Aq P,Bb rfl rfl rfl⟩,?_⟩;unfold O2;rw[G_ zO,zB,<-hby,c6]
          ·have d4:((F'.length:Int)==(n:Int))=zU:=beq_eq_false_iff_ne.2 zO;have c5:L' n F' (AR a x.1 c,AR b x.2 c)=zY (F'++[(AR a x.1 c,AR b x.2 c)],F'.length):=by
            unfold L';rw[bz];simp only;rw[I_ zO]
           rw[c5]at a7;have ec:=(IA c5 W X).2.2.1;have gm:=(Rk c5 W).1;(conv=>whnf);rw[d4];refine Y1 (n:=(AR a x.1 c,AR b x.2 c)) E 5 rfl L X (dj _ db) zO λcq H14 g dg=>?_;replace g:St H H14 [pB 43 p1 la,pB 43 p2 lb,pB 43 p3 zD6,pB 43 p4 (AX Y (.slice ra by_.length rc) (.slice xa i xc) (.slice ya i yc)),pV ra rc (U' by_) S',NF pp cq (F'++[(AR a x.1 c,AR b x.2 c)]),pN (zC a_) Sn 41 xa i xc (rows.map AK),pS AI 4 ya i yc ((F.take i).map λx=>HB I (Bk a x.1) (Bk b x.2)),pS a_ 3 r1 row.length r2 (AK row)]:=g;refine As AB [A_ (F'.length:Int)] rfl rfl zQ zQ ?_;intro gj H15 c2 e8 c3 c4;refine GI (x:=(F'.length:Int)) (g.skip c2 c4) 8 AB rfl c3 ⟨rfl,HF ⟨zO,zO⟩⟩ rfl (by unfold AK;rw[k_];omega) zQ λdc de H16 aq _=>?_;have e1:(AK row).length+1=(row++[F'.length]).length:=by unfold AK;simp
           have e2:AK row++[(F'.length:Int)]=AK (row++[F'.length]):=by unfold AK;simp
           rw[e1,e2]at aq;rw[e1];(conv=>whnf);rw[Q_ j zO];exact⟨rfl,(j+1,F'++[(AR a x.1 c,AR b x.2 c)],row++[F'.length],dc,de),zZ,⟨zO,gm,ec,(λy hy=>(X'.1 hy).elim (ab y) (λh=>(g_.1 h) ▸ db)),b5.trans (List.prefix_append _ _),by simp[bp],a7,cq,dg,aq⟩,by simp only;omega⟩
       ·obtain rfl:j=by_.length:=zO
        have dh:by_.foldl (C4 n (Bm a b) x) (zY (F,[]))=zY (F',row):=by
         rw[<-bq,List.take_of_length_le (N_ _)]
        rw[dh]at J;simp only[wB]at J;have ed:=E8 b5 hx;have gn:(AK row).length=row.length:=by unfold AK;rw[k_]
        have ar:(rows.map AK).length=i:=by rw[k_];exact a9
        have M:((F'.take (i+1)).map λx=>HB I (Bk a x.1) (Bk b x.2))=((F.take i).map λx=>HB I (Bk a x.1) (Bk b x.2))++[HB I (Bk a x.1) (Bk b x.2)]:=by
         obtain⟨t,rfl⟩:=b5;rw[List.take_append_of_le_length zO,Ac hx,List.map_append];rfl
        have s:((F.take i).map λx=>HB I (Bk a x.1) (Bk b x.2)).length=i:=by rw[k_,List.length_take];omega
        have b6:i+1<=F'.length:=by
         have:=(V_.1 ed).1;omega
        obtain⟨dm,dn,er,di,-⟩:=(G.at_ 8 rfl).1.view (S':=O_ (.slice r1 row.length r2)) (λb hb=>hb) (λb hb=>hb.elim);injection er with er1 er2 er3
        subst er1;subst er3;have Q:=B_.absorb (G.pick [6,8,0,1,2,3,4,5,7] zQ);refine F_ El ?_;refine D_ (v:=.slice xa i xc) DC (by rw[(Q.blk 4 rfl).cell,K_];exact Do d) zA ?_;refine As Dt [.slice r1 row.length r2] rfl rfl zQ zQ ?_;intro h8 H12 ee gr ef cr;have bx:=Q.skip ee cr;have ck:b_ a_ (λk=>Sn k\/O_ (.slice r1 row.length r2) k) H12 r1 r2 (AK row):=(di.frame (cr.mono λk N=>by
         have:=(G.in_ 8 rfl (.inl N)).2;omega)).mono λk N=>.inr N
        refine SJ (row:=AK row) bx Dt (ef.cells λj v hv=>by rw[K_];exact hv) ⟨r1,r2,by rw[gn],ck⟩ rfl (λu hu=>by cases g_.1 hu;rfl) (by rw[ar];omega) zQ λb7 bd H13 E=>?_;have e5:rows.map AK++[AK row]=(rows++[row]).map AK:=zZ
        rw[ar,e5]at E;rw[ar];refine F_ El ?_;refine AZ E 4 DC rfl (by rw[D];decide) rfl λH14 g=>?_;rw[K_,JP d]at g;have ct:0<=x.1/\x.1<A.final.length:=⟨bn.1.1,by have:=bn.1.2;rw[ha.n]at this;omega⟩;have cu:0<=x.2/\x.2<B.final.length:=⟨bn.2.1,by have:=bn.2.2;rw[hb.n]at this;omega⟩;have w:∀(S0:Nat->Prop) (K:v_->Prop),(∀p o,YtfbghcpdinlmcaaGreatDoor.cell H14 p o=zY (.bool (Bk a x.1))->K (.pointer (zY ⟨p,o,zV⟩)))->AO prog (Instr.indexAt 36 (.slice fA A.final.length cA) (.int .i64 x.1)) S0 H14 K:=λS0 K hK=>
         Zs (f4.frame (g.old.mono hS)) ct.1 ct.2 λp o _ hc=>hK p o (by rw[hc,ha.fin])
        have ai:∀(S0:Nat->Prop) (K:v_->Prop),(∀p o,YtfbghcpdinlmcaaGreatDoor.cell H14 p o=zY (.bool (Bk b x.2))->K (.pointer (zY ⟨p,o,zV⟩)))->AO prog (Instr.indexAt 36 (.slice fB B.final.length cB) (.int .i64 x.2)) S0 H14 K:=λS0 K hK=>
         Zs (f6.frame (g.old.mono hS)) cu.1 cu.2 λp o _ hc=>hK p o (by rw[hc,hb.fin])
        have b0:R_ H14 p1 43 la:=g.blk 1 rfl;have c7:R_ H14 p2 43 lb:=g.blk 2 rfl;have gp:I=0\/I=1\/I=2:=zO
        rcases gp with rfl | rfl | rfl
        ·refine F_ Cl ?_;refine D_ (v:=.slice fA A.final.length cA) Dn (by rw[b0.cell];exact ax) zA ?_;refine w _ _ λq1 o1 a8=>(D_ M' a8 zA ?_);cases au:Bk a x.1 with
         | true=>
           rw[au]at w M;refine F_ Cl ?_;refine D_ (v:=.slice fB B.final.length cB) Dn (by rw[c7.cell];exact bf) zA ?_;refine ai _ _ λq2 o2 ap=>(D_ M' ap zA (Au.run (Au.run (F_ Cl ?_))));refine D_ (v:=.slice ya i yc) Dn (by rw[(g.blk 4 rfl).cell,K_];exact Ek d) zA ?_;refine As C7 [.bool (Bk b x.2)] rfl rfl zQ zQ ?_;intro c8 H17 R aw U V;refine GI (x:=Bk b x.2) (g.skip R V) 7 C7 rfl U rfl rfl (by rw[s];omega) zQ λaj ak H18 z _=>?_;rw[s]at z;rw[s];refine F_ Cl ?_;refine AZ z 4 Dn rfl (by rw[D];decide) rfl λH19 C=>?_;rw[K_,DE d]at C;(conv=>whnf);rw[Q_ i zO];refine⟨rfl,(i+1,F',rows++[row]),zZ,⟨b6,W,X,ab,by simp[a9],J,a4,(λk=>Sn k\/O_ (.slice r1 row.length r2) k),b7,bd,aj,ak,L,?_⟩,by simp only;omega⟩;rw[M];exact C.pick [1,2,3,4,5,6,0,7] zQ
         | false=>
           rw[au]at w M;refine Au.run (Au.run (F_ Cl ?_));refine D_ (v:=.slice ya i yc) Dn (by rw[(g.blk 4 rfl).cell,K_];exact Ek d) zA ?_;refine As C7 [.bool (zU)] rfl rfl zQ zQ ?_;intro c8 H17 R aw U V;refine GI (x:=zU) (g.skip R V) 7 C7 rfl U rfl rfl (by rw[s];omega) zQ λaj ak H18 z _=>?_;rw[s]at z;rw[s];refine F_ Cl ?_;refine AZ z 4 Dn rfl (by rw[D];decide) rfl λH19 C=>?_;rw[K_,DE d]at C;(conv=>whnf);rw[Q_ i zO];refine⟨rfl,(i+1,F',rows++[row]),zZ,⟨b6,W,X,ab,by simp[a9],J,a4,(λk=>Sn k\/O_ (.slice r1 row.length r2) k),b7,bd,aj,ak,L,?_⟩,by simp only;omega⟩;rw[M];exact C.pick [1,2,3,4,5,6,0,7] zQ
        ·refine F_ Cl ?_;refine D_ (v:=.slice fA A.final.length cA) Dn (by rw[b0.cell];exact ax) zA ?_;refine w _ _ λq1 o1 a8=>(D_ M' a8 zA ?_);cases au:Bk a x.1 with
         | true=>
           rw[au]at w M;refine F_ Cl ?_;refine D_ (v:=.slice fB B.final.length cB) Dn (by rw[c7.cell];exact bf) zA ?_;refine ai _ _ λq2 o2 ap=>(D_ M' ap zA (Au.run (F_ Cl ?_)));refine D_ (v:=.slice fA A.final.length cA) Dn (by rw[b0.cell];exact ax) zA ?_;refine w _ _ λq1 o1 a8=>(D_ M' a8 zA (Au.run (F_ Cl ?_)));refine D_ (v:=.slice ya i yc) Dn (by rw[(g.blk 4 rfl).cell,K_];exact Ek d) zA ?_;refine As C7 [.bool (zW)] rfl rfl zQ zQ ?_;intro c8 H17 R aw U V;refine GI (x:=zW) (g.skip R V) 7 C7 rfl U rfl rfl (by rw[s];omega) zQ λaj ak H18 z _=>?_;rw[s]at z;rw[s];refine F_ Cl ?_;refine AZ z 4 Dn rfl (by rw[D];decide) rfl λH19 C=>?_;rw[K_,DE d]at C;(conv=>whnf);rw[Q_ i zO];refine⟨rfl,(i+1,F',rows++[row]),zZ,⟨b6,W,X,ab,by simp[a9],J,a4,(λk=>Sn k\/O_ (.slice r1 row.length r2) k),b7,bd,aj,ak,L,?_⟩,by simp only;omega⟩;rw[M];exact C.pick [1,2,3,4,5,6,0,7] zQ
         | false=>
           rw[au]at w M;refine Au.run (F_ Cl ?_);refine D_ (v:=.slice fA A.final.length cA) Dn (by rw[b0.cell];exact ax) zA ?_;refine w _ _ λq1 o1 a8=>(D_ M' a8 zA (F_ Cl ?_));refine D_ (v:=.slice fB B.final.length cB) Dn (by rw[c7.cell];exact bf) zA ?_;refine ai _ _ λq2 o2 ap=>(D_ M' ap zA (Au.run (F_ Cl ?_)));refine D_ (v:=.slice ya i yc) Dn (by rw[(g.blk 4 rfl).cell,K_];exact Ek d) zA ?_;refine As C7 [.bool (Bk b x.2)] rfl rfl zQ zQ ?_;intro c8 H17 R aw U V;refine GI (x:=Bk b x.2) (g.skip R V) 7 C7 rfl U rfl rfl (by rw[s];omega) zQ λaj ak H18 z _=>?_;rw[s]at z;rw[s];refine F_ Cl ?_;refine AZ z 4 Dn rfl (by rw[D];decide) rfl λH19 C=>?_;rw[K_,DE d]at C;(conv=>whnf);rw[Q_ i zO];refine⟨rfl,(i+1,F',rows++[row]),zZ,⟨b6,W,X,ab,by simp[a9],J,a4,(λk=>Sn k\/O_ (.slice r1 row.length r2) k),b7,bd,aj,ak,L,?_⟩,by simp only;omega⟩;rw[M];exact C.pick [1,2,3,4,5,6,0,7] zQ
        ·refine F_ Cl ?_;refine D_ (v:=.slice fA A.final.length cA) Dn (by rw[b0.cell];exact ax) zA ?_;refine w _ _ λq1 o1 a8=>(D_ M' a8 zA ?_);cases au:Bk a x.1 with
         | true=>
           rw[au]at w M;refine F_ Cl ?_;refine D_ (v:=.slice fB B.final.length cB) Dn (by rw[c7.cell];exact bf) zA ?_;refine ai _ _ λq2 o2 ap=>(D_ M' ap zA (Au.run (Au.run (F_ Cl ?_))));refine D_ (v:=.slice fA A.final.length cA) Dn (by rw[b0.cell];exact ax) zA ?_;refine w _ _ λq1 o1 a8=>(D_ M' a8 zA (F_ Cl ?_));refine D_ (v:=.slice fB B.final.length cB) Dn (by rw[c7.cell];exact bf) zA ?_;refine ai _ _ λq2 o2 ap=>(D_ M' ap zA (F_ Cl ?_));refine D_ (v:=.slice ya i yc) Dn (by rw[(g.blk 4 rfl).cell,K_];exact Ek d) zA ?_;refine As C7 [.bool (!Bk b x.2)] rfl rfl zQ zQ ?_;intro c8 H17 R aw U V;refine GI (x:= !Bk b x.2) (g.skip R V) 7 C7 rfl U rfl rfl (by rw[s];omega) zQ λaj ak H18 z _=>?_;rw[s]at z;rw[s];refine F_ Cl ?_;refine AZ z 4 Dn rfl (by rw[D];decide) rfl λH19 C=>?_;rw[K_,DE d]at C;(conv=>whnf);rw[Q_ i zO];refine⟨rfl,(i+1,F',rows++[row]),zZ,⟨b6,W,X,ab,by simp[a9],J,a4,(λk=>Sn k\/O_ (.slice r1 row.length r2) k),b7,bd,aj,ak,L,?_⟩,by simp only;omega⟩;rw[M];exact C.pick [1,2,3,4,5,6,0,7] zQ
         | false=>
           rw[au]at w M;refine Au.run (Au.run (F_ Cl ?_));refine D_ (v:=.slice fA A.final.length cA) Dn (by rw[b0.cell];exact ax) zA ?_;refine w _ _ λq1 o1 a8=>(D_ M' a8 zA (F_ Cl ?_));refine D_ (v:=.slice ya i yc) Dn (by rw[(g.blk 4 rfl).cell,K_];exact Ek d) zA ?_;refine As C7 [.bool (zU)] rfl rfl zQ zQ ?_;intro c8 H17 R aw U V;refine GI (x:=zU) (g.skip R V) 7 C7 rfl U rfl rfl (by rw[s];omega) zQ λaj ak H18 z _=>?_;rw[s]at z;rw[s];refine F_ Cl ?_;refine AZ z 4 Dn rfl (by rw[D];decide) rfl λH19 C=>?_;rw[K_,DE d]at C;(conv=>whnf);rw[Q_ i zO];refine⟨rfl,(i+1,F',rows++[row]),zZ,⟨b6,W,X,ab,by simp[a9],J,a4,(λk=>Sn k\/O_ (.slice r1 row.length r2) k),b7,bd,aj,ak,L,?_⟩,by simp only;omega⟩;rw[M];exact C.pick [1,2,3,4,5,6,0,7] zQ
     ·obtain rfl:i=F.length:=zO
      rw[List.take_length]at az;have c6:=K3 cp rfl dz;have ar:(rows.map AK).length=F.length:=by rw[k_];exact a9
      have s:(F.map λx=>HB I (Bk a x.1) (Bk b x.2)).length=F.length:=k_ _;refine L_ (cs:=AX Y (.slice ra by_.length rc) (.slice xa F.length xc) (.slice ya F.length yc)) (by rw[D];exact Ec) ((az.blk 3 rfl).cells λj v hv=>by rw[K_];exact hv) zA ?_;refine A9 (cs:=AX Y (.slice ra by_.length rc) (.slice xa F.length xc) (.slice ya F.length yc)) az 2 (by rw[D];rfl) rfl (by rw[D];decide) (Bb rfl rfl rfl) λH13 E=>?_;rw[Br (by rw[D];rfl)]at E;refine L_ (cs:=AX Y (.slice ra by_.length rc) (.slice xa F.length xc) (.slice ya F.length yc)) (by rw[D];exact Ec) ((E.blk 2 rfl).cells λj v hv=>by rw[K_];exact hv) zA ?_;refine⟨E.old,_,0,rfl,⟨_,rfl,Aq d,Bb rfl rfl rfl⟩,?_⟩;unfold O2;rw[G_ zO,zB,<-hby,c6,<-ae];refine⟨rfl,d,ra,rc,xa,xc,ya,yc,?_,(E.at_ 4 rfl).mono λk N=>(E.in_ 4 rfl N).2,E.view 6 rfl,E.view 7 rfl⟩;rw[cw,ar,s]
end
def TR{c:Nat}(a:b<256):(I3 c).getLsbD b=zT (b=c):=by unfold I3 tS;simp only[List.foldl_cons,List.foldl_nil];rw[BitVec.getLsbD_or,BitVec.getLsbD_twoPow];rw[Bool.eq_iff_iff];simp;constructor;{rintro⟨-,h⟩;exact h.symm};{rintro rfl;exact⟨a,rfl⟩}
def Jv:∀(l:List Nat),l≠[]->Z' (Bp l)=2*l.length/\(BY (Bp l) 0).1=0/\(BY (Bp l) 0).2.1=2*l.length-1/\
  ∀e,e∈(BY (Bp l) 0).2.2↔(∃(i c:Nat),l[i]?=zY c/\e=Cy (2*i) (2*i+1) (I3 c))\/∃i:Nat,i+1<l.length/\e=AP (2*i+1) (2*i+2):=λl=>by
 induction l using bJ with
 | h0=>exact λh=>absurd rfl h
 | hs l c k=>
   intro _;by_cases f:l=[]
   ·subst f;refine⟨rfl,rfl,rfl,λe=>?_⟩;show e∈[Cy 0 1 (I3 c)]↔_;rw[g_];constructor
    ·rintro rfl;exact .inl ⟨0,c,rfl,rfl⟩
    ·rintro(⟨i,d,b,rfl⟩ | ⟨i,b,rfl⟩)
     ·have:=(V_.1 b).1;obtain rfl:i=0:=by simpa using this
      cases b;rfl
     ·simp at b
   ·have⟨b,m,n,o⟩:=k f;have j:0<l.length:=mR.2 f;rw[PM f];refine⟨?_,?_,?_,λe=>?_⟩
    ·show Z' (Bp l)+2=_;rw[b,M_,i_];omega
    ·exact m
    ·show 0+Z' (Bp l)+1=_;rw[b,M_,i_];omega
    ·show e∈(BY (Bp l) 0).2.2++[Cy (0+Z' (Bp l)) (0+Z' (Bp l)+1) (I3 c)]++[AP (BY (Bp l) 0).2.1 (0+Z' (Bp l))]↔_;rw[X',X',g_,g_,o,b,n,K_];constructor
     ·rintro(((⟨i,d,a,rfl⟩ | ⟨i,a,rfl⟩) | rfl) | rfl)
      ·exact .inl ⟨i,d,by rw[zR (V_.1 a).1];exact a,rfl⟩
      ·exact .inr ⟨i,by rw[M_];omega,rfl⟩
      ·exact .inl ⟨l.length,c,zZ,rfl⟩
      ·refine .inr ⟨l.length-1,by rw[M_,i_];omega,?_⟩;rw[(zO:2*(l.length-1)+1=2*l.length-1),(zO:2*(l.length-1)+2=2*l.length)]
     ·rintro(⟨i,d,a,rfl⟩ | ⟨i,a,rfl⟩)
      ·by_cases g:i<l.length
       ·rw[zR g]at a;exact .inl (.inl (.inl ⟨i,d,a,rfl⟩))
       ·have:=(V_.1 a).1;rw[M_,i_]at this;obtain rfl:i=l.length:=zO
        simp at a;subst a;exact .inl (.inr rfl)
      ·rw[M_,i_]at a;by_cases g:i+1<l.length
       ·exact .inl (.inl (.inr ⟨i,g,rfl⟩))
       ·obtain rfl:i=l.length-1:=zO
        refine .inr ?_;rw[(zO:2*(l.length-1)+1=2*l.length-1),(zO:2*(l.length-1)+2=2*l.length)]
def xH(n i:Nat):PS:=λq=>if n=0 then q=0\/q=1 else(0<i/\q=2*(i:Int)-1)\/(i<n/\q=2*(i:Int))
noncomputable def vI(n i:Nat):List Int:=Da (xH n i)
def bZ(a:n<=30000)(b:i<=n):∀q,xH n i q->0<=q/\q<65536:=λq h=>by
 unfold xH at h;split at h
 ·omega
 ·omega
def Jw(a:n<=30000)(b:i<=n)(q:Int):q∈vI n i↔xH n i q:=F0 (bZ a b) q
def AhP(b:n<=30000)(d:i<j)(c:j<=n):vI n i≠vI n j:=λe=>by
 have a:(2*(i:Int))∈vI n i:=(Jw b zO _).2 (by unfold xH;rw[G_ zO];exact .inr ⟨zO,rfl⟩);rw[e,Jw b c]at a;unfold xH at a;rw[G_ zO]at a;omega
def bY(a:n<=30000)(b:i<=n):vI n i≠[]:=λe=>by
 have f:∃q,q∈vI n i:=by
  by_cases c:n=0
  ·exact⟨0,(Jw a b _).2 (by unfold xH;rw[I_ c];exact .inl rfl)⟩
  ·by_cases h:i<n
   ·exact⟨2*(i:Int),(Jw a b _).2 (by unfold xH;rw[G_ c];exact .inr ⟨h,rfl⟩)⟩
   ·exact⟨2*(i:Int)-1,(Jw a b _).2 (by unfold xH;rw[G_ c];exact .inl ⟨zO,rfl⟩)⟩
 have⟨q,d⟩:=f;rw[e]at d;cases d
def PN:Bx (Bp [])=⟨2,0,1,[AP 0 1]⟩:=rfl
def bW(a:l≠[]):(Bx (Bp l)).st=2*(l.length:Int):=by show((Z' (Bp l):Nat):Int)=_;rw[(Jv l a).1];omega
def Ku(d:l.length<=30000){q:Int}:(Bx (Bp l)).has q=zW↔0<=q/\q<if l=[]then 2 else 2*(l.length:Int):=by rw[P_.has_iff];by_cases a:l=[];{subst a;rw[PN];simp};{rw[bW a,G_ a];constructor;{rintro⟨b,c,-⟩;exact⟨b,c⟩};{rintro⟨b,c⟩;exact⟨b,c,zO⟩}}
def QU(a:l≠[])(e:t_):e∈(Bx (Bp l)).edges↔(∃(i c:Nat),l[i]?=zY c/\e=Cy (2*i) (2*i+1) (I3 c))\/∃i:Nat,i+1<l.length/\e=AP (2*i+1) (2*i+2):=(Jv l a).2.2.2 e
def fL(g:l.length<=30000)(q:Int):Gm (Bx (Bp l)) q↔xH l.length 0 q:=by by_cases b:l=[];{subst b;unfold xH;rw[I_ (show([]:List Nat).length=0 from rfl)];constructor;{refine E2 (Y:=λq=>q=0\/q=1) (λq h=>.inl h.1) (λe f hs j h=>?_) q;rw[PN,g_]at f;subst f;exact .inr rfl};{have a:Gm (Bx (Bp [])) 0:=OJ ⟨rfl,(Ku zZ).2 zQ⟩;rintro(rfl | rfl);{exact a};{exact LL _ _ (AP 0 1) (g_.2 rfl) rfl ((Ku zZ).2 zQ) a}}};{have d:0<l.length:=mR.2 b;have a:(Bx (Bp l)).start=0:=by{show(((BY (Bp l) 0).1:Nat):Int)=0;rw[(Jv l b).2.1];rfl};unfold xH;rw[G_ zO];constructor;{intro h;refine .inr ⟨d,?_⟩;refine E2 (Y:=λq=>q=2*((0:Nat):Int)) (λq h=>by rw[h.1,a];rfl) (λe f hs j h=>?_) q h;rcases(QU b e).1 f with⟨i,c,-,rfl⟩ | ⟨i,-,rfl⟩;{cases hs};{have h:((2*i+1:Nat):Int)=2*((0:Nat):Int):=h;omega}};{rintro(⟨h,-⟩ | ⟨-,rfl⟩);{omega};{exact OJ ⟨by rw[a];rfl,by rw[a];exact(Ku g).2 ⟨oP _,by rw[G_ b];omega⟩⟩}}}
def bV(t:l.length<=30000)(w:∀c∈l,c<256)(z:i<=l.length)(u:b<256)(q:Int):sH (Bx (Bp l)) (xH l.length i) b q↔l[i]?=zY b/\xH l.length (i+1) q:=by
 by_cases m:l=[];{subst m;simp only[List.getElem?_nil,reduceCtorEq,false_and,iff_false];intro h;refine E2 (Y:=λ_=>False) (λq h=>?_) (λe k hs x h=>h) q h;obtain⟨e,k,hs,-⟩:=h;rw[PN,g_]at k;subst k;cases hs};{
 have v:0<l.length:=mR.2 m;have g:=QU m;constructor;{intro h;refine E2 (Y:=λq=>l[i]?=zY b/\xH l.length (i+1) q) (λq h=>?_) (λe k hs x h=>?_) q h;{obtain⟨e,k,hs,a,n,A,rfl⟩:=h;rcases(g e).1 k with⟨j,c,o,rfl⟩ | ⟨j,-,rfl⟩;{have a:(I3 c).getLsbD b=zW:=a;rw[TR u,yD]at a;subst a;unfold xH at n;rw[G_ zO]at n;have n:(0<i/\((2*j:Nat):Int)=2*(i:Int)-1)\/(i<l.length/\((2*j:Nat):Int)=2*(i:Int)):=n;obtain rfl:j=i:=zO;refine⟨o,?_⟩;unfold xH;rw[G_ zO];refine .inl ⟨zO,?_⟩;show((2*j+1:Nat):Int)=2*((j+1:Nat):Int)-1;omega};{cases hs}};{have⟨p,d⟩:=h;refine⟨p,?_⟩;rcases(g e).1 k with⟨j,c,o,rfl⟩ | ⟨j,o,rfl⟩;{cases hs};{unfold xH at d ⊢;rw[G_ zO]at d ⊢;have d:(0<i+1/\((2*j+1:Nat):Int)=2*((i+1:Nat):Int)-1)\/(i+1<l.length/\((2*j+1:Nat):Int)=2*((i+1:Nat):Int)):=d;obtain rfl:j=i:=zO;refine .inr ⟨o,?_⟩;show((2*j+2:Nat):Int)=2*((j+1:Nat):Int);omega}}};{
 rintro⟨p,d⟩;have r:=(V_.1 p).1;have s:(Bx (Bp l)).has (((2*i+1:Nat):Int))=zW:=(Ku t).2 ⟨zO,by rw[G_ m];omega⟩;have f:sH (Bx (Bp l)) (xH l.length i) b (((2*i+1:Nat):Int)):=OJ ⟨Cy (2*i) (2*i+1) (I3 b),(g _).2 (.inl ⟨i,b,p,rfl⟩),rfl,by
  show(I3 b).getLsbD b=zW;rw[TR u];simp,by
  show xH l.length i (((2*i:Nat):Int));unfold xH;rw[G_ zO];exact .inr ⟨r,zO⟩,s,rfl⟩
 unfold xH at d;rw[G_ zO]at d;rcases d with⟨-,d⟩ | ⟨y,d⟩;{rw[d,(zO:2*((i+1:Nat):Int)-1=((2*i+1:Nat):Int))];exact f};{
 rw[d,(zO:2*((i+1:Nat):Int)=((2*i+2:Nat):Int))];exact LL _ _ (AP (2*i+1) (2*i+2)) ((g _).2 (.inr ⟨i,y,rfl⟩)) rfl ((Ku t).2 ⟨by
  show(0:Int)<=((2*i+2:Nat):Int);omega,by
  show((2*i+2:Nat):Int)<_;rw[G_ m];omega⟩) f}}}
def MZ(a:l.length<=30000):HQ (Bx (Bp l))=vI l.length 0:=by show Da _=Da _;rw[show Gm (Bx (Bp l))=xH l.length 0 from funext λq=>propext (fL a q)]
def KP(d:l.length<=30000)(a:∀c∈l,c<256)(f:i<=l.length)(g:b<256):Be (Bx (Bp l)) (vI l.length i) b=if l[i]?=zY b then vI l.length (i+1)else []:=by unfold Be;have e:(λq=>q∈vI l.length i)=xH l.length i:=funext λq=>propext (Jw d f q);rw[e];have e2:sH (Bx (Bp l)) (xH l.length i) b=λq=>l[i]?=zY b/\xH l.length (i+1) q:=funext λq=>propext (bV d a f g q);rw[e2];split;{rename_i h;unfold vI;congr 1;funext q;exact propext ⟨λh=>h.2,λj=>⟨h,j⟩⟩};{rename_i h;unfold Da;rw[List.filter_eq_nil_iff];intro q _;simp[h]}
def ZO(a:P_)(b:Nat):Be a [] b=[]:=by have h:∀q,sH a (λq=>q∈([]:List Int)) b q->False:=E2 (Y:=λ_=>False) (λq ⟨e,_,_,_,c,_⟩=>by cases c) λe _ _ _ h=>h;rw[List.eq_nil_iff_forall_not_mem];intro q d;exact h q ((F0 (DZ (Oe a _ b)) q).1 d)
def KG{K:Type} [DecidableEq K]:∀{L M:List K},L.Nodup->(∀x∈L,x∈M)->L.length<=M.length
 | [],M,_,_=>q_ _
 | x::L,M,hn,h=>by
   have a:=hZ.1 hn;have d:=KG (M:=M.erase x) a.2 λy b=>(List.mem_erase_of_ne λe:y=x=>a.1 (by rw[<-e];exact b)).2 (h y (by simp[b]));have c:=h x zZ;have f:=List.length_erase_of_mem c;have g:=List.length_pos_of_mem c;rw[List.length_cons];omega
noncomputable def Ip(n:Nat):List (List Int):=[]::(Ak8 (n+1)).map (vI n)
def QY(n:Nat):(Ip n).length=n+2:=by simp[Ip]
def fQ(c:n<=30000):(Ip n).Nodup:=by unfold Ip;refine hZ.2 ⟨λh=>?_,?_⟩;{have⟨i,a,e⟩:=yQ.1 h;have:=yG.1 a;exact bY c zO e};{unfold List.Nodup;rw[List.pairwise_map];refine wF.2 λi j a d b=>?_;rw[rK]at a d;rw[hY,hY];exact AhP c b zO}
def Uv(a:i<=n):vI n i∈Ip n:=xQ _ (yQ.2 ⟨i,yG.2 zO,rfl⟩)
def VH(f:l.length<=30000)(a:∀c∈l,c<256){x:List Int}(d:x∈Ip l.length)(g:b<256):Be (Bx (Bp l)) x b∈Ip l.length:=by rcases xU.1 d with rfl | d;{rw[ZO];exact xY};{obtain⟨i,e,rfl⟩:=yQ.1 d;have e:=yG.1 e;rw[KP f a zO g];split;{rename_i h;have:=(V_.1 h).1;exact Uv zO};{exact xY}}
section
attribute [local irreducible] Bt AH Am
inductive PA.Live(d:PA):Nat->Prop
 | fin {q:Nat}:q<d.n->d.fi q=zW->d.Live q
 | step {q b:Nat}:q<d.n->b<256->d.Live (d.st q b)->d.Live q
variable{d:PA}
def PA.Live.lt{q:Nat}(h:d.Live q):q<d.n:=by cases h<;>assumption
open Classical in
noncomputable def PA.use(d:PA)(q:Nat):Bool:=zT (d.Live q)
def PA.use_iff{q:Nat}:d.use q=zW↔d.Live q:=by unfold PA.use;simp
def PA.use_lt{q:Nat}(h:d.use q=zW):q<d.n:=(PA.use_iff.1 h).lt
noncomputable def PA.place(d:PA)(q:Nat):Nat:=((Ak8 q).filter d.use).length
noncomputable def PA.count(d:PA):Nat:=d.place d.n
noncomputable def PA.set(d:PA)(q t:Nat):BitVec 256:=sF λb=>zT (d.st q b=t)
noncomputable def PA.hopsTo(d:PA)(q k:Nat):List t_:=(Ak8 k).filterMap λt=>if(d.use t&&(d.set q t != 0#256))=zW then zY (Cy (d.place q) (d.place t) (d.set q t))else zV
noncomputable def PA.endE(d:PA)(q:Nat):List t_:=if d.fi q=zW then [AP (d.place q) d.count]else []
noncomputable def PA.edgesTo(d:PA)(k:Nat):List t_:=(Ak8 k).flatMap λq=>if d.use q=zW then d.hopsTo q d.n++d.endE q else []
noncomputable def AN(d:PA):P_:=if d.use 0=zW then⟨d.count+1,0,d.count,d.edgesTo d.n⟩else⟨2,0,1,[]⟩
def PA.place_succ(q:Nat):d.place (q+1)=d.place q+if d.use q=zW then 1 else 0:=by unfold PA.place;rw[wG,List.filter_append,M_];cases h:d.use q<;>simp[h]
def PA.place_mono{q t:Nat}(h:q<=t):d.place q<=d.place t:=by obtain⟨k,rfl⟩:=Nat.exists_eq_add_of_le h;clear h;induction k with|zero=>exact N_ _|succ k a=>rw[<-Nat.add_assoc,PA.place_succ];omega
def PA.place_lt{q t:Nat}(a:d.use q=zW)(h:q<t):d.place q<d.place t:=by have b:=PA.place_succ (d:=d) q;rw[I_ a]at b;have c:=PA.place_mono (d:=d) (show q+1<=t from h);omega
def PA.place_count{q:Nat}(a:d.use q=zW):d.place q<d.count:=PA.place_lt a (PA.use_lt a)
def PA.place_le(q:Nat):d.place q<=q:=by unfold PA.place;have:=List.length_filter_le d.use (Ak8 q);rwa [rK]at this
def PA.count_le:d.count<=d.n:=PA.place_le _
def PA.set_bit{q t c:Nat}:(d.set q t).getLsbD c=zW↔c<256/\d.st q c=t:=by unfold PA.set;constructor;{intro h;have a:=BitVec.lt_of_getLsbD h;rw[IX _ a]at h;exact⟨a,by simpa using h⟩};{rintro⟨a,h⟩;rw[IX _ a];simpa using h}
def PA.mem_edges{e:t_}:e∈d.edgesTo d.n↔∃q,d.use q=zW/\((∃t,d.use t=zW/\d.set q t≠0#256/\e=Cy (d.place q) (d.place t) (d.set q t))\/(d.fi q=zW/\e=AP (d.place q) d.count)):=by unfold PA.edgesTo;rw[List.mem_flatMap];constructor;{rintro⟨q,i,a⟩;split at a;{rename_i f;refine⟨q,f,?_⟩;rcases X'.1 a with a | a;{unfold PA.hopsTo at a;have⟨t,j,b⟩:=qG.1 a;split at b;{rename_i c;rw[O',bne_iff_ne]at c;exact .inl ⟨t,c.1,c.2,(Option.some.inj b).symm⟩};{cases b}};{unfold PA.endE at a;split at a;{rename_i g;exact .inr ⟨g,g_.1 a⟩};{cases a}}};{cases a}};{rintro⟨q,f,h⟩;refine⟨q,yG.2 (PA.use_lt f),?_⟩;rw[I_ f];rcases h with⟨t,b,c,rfl⟩ | ⟨b,rfl⟩;{refine yS _ ?_;unfold PA.hopsTo;refine qG.2 ⟨t,yG.2 (PA.use_lt b),?_⟩;rw[I_ (by rw[O',bne_iff_ne];exact⟨b,c⟩)]};{refine List.mem_append_right _ ?_;unfold PA.endE;rw[I_ b];exact g_.2 rfl}}
def X9(g:d.n<=65535):(AN d).has (AN d).start=zW/\(AN d).has (AN d).fin=zW/\∀e∈(AN d).edges,(AN d).has e.fr=zW/\(AN d).has e.to=zW:=by have h:=PA.count_le (d:=d);unfold AN;split;{refine⟨P_.has_iff.2 ⟨oP _,by show(0:Int)<(d.count:Int)+1;omega,by show(d.count:Int)+1<=65536;omega⟩,P_.has_iff.2 ⟨by show(0:Int)<=(d.count:Int);omega,by show(d.count:Int)<(d.count:Int)+1;omega,by show(d.count:Int)+1<=65536;omega⟩,λe b=>?_⟩;have a:∀k:Nat,k<=d.count->P_.has ⟨d.count+1,0,d.count,d.edgesTo d.n⟩ (k:Int)=zW:=λk i=>P_.has_iff.2 ⟨zO,by show(k:Int)<(d.count:Int)+1;omega,by show(d.count:Int)+1<=65536;omega⟩;obtain⟨q,c,⟨t,f,j,rfl⟩ | ⟨f,rfl⟩⟩:=PA.mem_edges.1 b;{exact⟨a _ (mS (PA.place_count c)),a _ (mS (PA.place_count f))⟩};{exact⟨a _ (mS (PA.place_count c)),a _ (N_ _)⟩}};{exact⟨zQ,zQ,λe b=>by cases b⟩}
def Np(a:d.n<=65535):ES (AN d)=zW:=E1.2 (X9 a)
def aH(a b:Option AM)(ends:Bool->Bool->Bool)(F:List (Int×Int))(p:Option AM):Prop:=
 Cw p/\U5 (Bm a b) (λx:Int×Int=>ends (Bk a x.1) (Bk b x.2)) F (AR p) (Bk p)/\stN p=F.length
def Nc(a b:Option AM)(ends:Bool->Bool->Bool)(m:Int)(H H':Aa)(r:v_):Prop:=
 if m<1\/4096<m then r= .tuple #[.pointer zV,A_ 2]else
 match oV a b m.toNat with
 | none=>r= .tuple #[.pointer zV,A_ 40]
 | some F=>∃v A,r= .tuple #[v,A_ 0]/\Bi (λk=>H.size<=k/\k<H'.size) H' v (zY A)/\aH a b ends F (zY A)
def SN{o:Option AM}(h:Bi S H v o):v.cells=[v].toArray:=by cases o with|none=>obtain rfl:=h;rfl|some A=>obtain⟨p,rfl,-⟩:=h;rfl
def QB{vb:v_}{a b:Option AM}{ends:Bool->Bool->Bool}(hS:∀k,S k->k<H.size)(q:Bi S H va a)(s:Bi S H vb b)(ha:Cw a)(V:Cw b)(hf:∀(G:Aa) (x y:Bool),BZ prog f #[.bool x,.bool y] G (.bool (ends x y))):
  Aj prog 57 #[va,vb,A_ m,.func (.func f) #[] #[]] H λr H'=>C_ (H_ H) H H'/\Nc a b ends m H H' r:=by have sa:=ha.steps;have sb:=V.steps;have ar:=LK q;have au:=LK s;have W:0<(A8 b).length:=by{have⟨ls,h⟩:=V.ok;exact Xr h};refine Aj.of_vc func57 rfl (call57 _) (Cd [va] (SN q) ?_);intro pa H1 X Y Z a0;have J_:=(St.nil H).box X Y Z a0;refine Cd [vb] (SN s) ?_;intro pb H2 M a1 a2 a5;have a6:=J_.box M a1 a2 a5;refine Cd [.func (.func f) #[] #[]] rfl ?_;intro pf H3 a7 a8 a9 ab;have c:=a6.box a7 a8 a9 ab;unfold Nc;by_cases D:m<1;{have T:zT (m<1)=zW:=m_ D;(conv=>whnf);rw[T];(conv=>whnf);exact⟨c.old,by rw[I_ (.inl D)]⟩};{have T:zT (m<1)=zU:=j_ D;by_cases E:4096<m;{have d2:zT (m>4096)=zW:=m_ E;(conv=>whnf);rw[T];(conv=>whnf);rw[d2];(conv=>whnf);exact⟨c.old,by rw[I_ (.inr E)]⟩};{have d2:zT (m>4096)=zU:=j_ E;obtain⟨n,rfl⟩:=xK (zO:0<=m);have I:1<=n:=zO;have ae:n<=4096:=zO;(conv=>whnf);rw[T];(conv=>whnf);rw[d2];have u:∀{G:Aa} {ps:List Pc},St H3 G ps->C_ S H G:=λst=>(c.old.trans (st.old.mono λk o=>Af c.old o)).mono hS;have J:∀{G:Aa} {ps:List Pc},St H3 G ps->∀k,S k->k<G.size:=λst k o=>Af st.old (c.up (hS k o));have K:=St.nil H3;refine Ap.heldZ (H_ H3) [] (sq [0,2] (.f 1 (.f 3 (.f 4 (.f 5 (.f 6 .e)))))) rfl zX ?_;refine D_ (v:=va) Xv ((c.blk 0 rfl).ce rfl) (c.blk 0 rfl).lt ?_;refine D_ (v:=vb) Xv ((c.blk 1 rfl).ce rfl) (c.blk 1 rfl).lt ?_;refine Ae.mk (Ru (J K) (q.frame (u K))) ?_;rintro _ G1 ⟨ag,-,ah⟩;obtain⟨aa,ac,rfl,w⟩:=K.got ag ah;refine⟨w.old,?_⟩;refine Ae.mk (Ru (J w) (s.frame (u w))) ?_;rintro _ G2 ⟨ai,-,aj⟩;obtain⟨ba,bc,rfl,N⟩:=w.got ai aj;refine⟨N.old,?_⟩;refine SK N 0 1 Dz rfl rfl W QS zO zQ λa3 c3 G3 A _=>(⟨A.old,?_⟩);obtain⟨sets,g⟩:∃sets,sets=A8 a++A8 b:=⟨_,rfl⟩;have O:(A8 a).length+(A8 b).length=sets.length:=by{rw[g,M_]};rw[O,<-g]at A;rw[O];refine Ae.mk (OK (S:=H_ G3) (λk o=>o) (A.view 0 rfl) zO) ?_;rintro _ G4 ⟨ak,a4,c4,rfl,h4⟩;have d:=A.call ak;refine⟨d.old,?_⟩;(conv=>whnf);refine⟨d.old,?_⟩;have am:=reps_len sets;have i:=Aj0 ha V;rw[<-g]at i;have b1:=(c.blk 0 rfl).agr d.old (c.blk 0 rfl).lt;have b2:=(c.blk 1 rfl).agr d.old (c.blk 1 rfl).lt;have b3:=(c.blk 2 rfl).agr d.old (c.blk 2 rfl).lt;have cl:∀{p t:Nat} {l:List v_},R_ G4 p t l->Bn G4 p 0 l:=λh=>h.cells λj v U=>by{rw[K_];exact U};have hold:∀k,S k->H_ G4 k:=λk o=>J d k o;have P:Ox (H_ G4) G4 pa pb va vb a b:=⟨b1.lt,b2.lt,cl b1,cl b2,(q.frame (u d)).mono hold,(s.frame (u d)).mono hold⟩;refine Az underlying224 rfl (wN (0,0)) RZ (yN (0,0)) rfl (Ae.mk (UT (S:=H_ G4) (l0:=(0,0)) (most:=n) (λk o=>o) P b3.lt (cl b3) hf h4 am sa sb i.beg I ae) ?_);rintro r G5 ⟨ao,L⟩;have ap:=d.call ao;have C:C_ (H_ H) H G5:=c.old.trans (ap.old.mono λk o=>Af c.old o);rw[show Ca (BX sets)=F8 sets from rfl]at L;have B:=i.detA I;have Q:oV a b ((n:Int)).toNat=Du n (Bm a b) (0,0):=by{rw[zB];rfl};cases hd:CS n (Bm a b) (F8 sets) (0,0)with|none=>rw[hd]at L B;simp only at L;subst L;(conv=>whnf);refine⟨C,?_⟩;rw[G_ zO,Q,<-B]<;>rfl|some z=>have⟨F,rows⟩:=z;rw[hd]at L B;obtain⟨v,rfl,U⟩:=L;have⟨R,hL,hN⟩:=AiH (fin:=λx:Int×Int=>ends (Bk a x.1) (Bk b x.2)) i I zO hd;rw[I_ R]at U;(conv=>whnf);refine⟨C,?_⟩;rw[G_ zO,Q,<-B];have aw:=Bl c.old;have aq:=Bl d.old;exact⟨v,_,rfl,U.mono λk o=>⟨zO,o.2⟩,⟨BX sets,rows.map AK,F.map λx=>ends (Bk a x.1) (Bk b x.2),by{unfold Fc;rw[k_,I_ R]}⟩,hL,hN⟩}}
def PV(x y:Bool):Bool:=x&&y
def cD(G:Aa)(x y:Bool):BZ prog 58 #[.bool x,.bool y] G (.bool (PV x y)):=by refine Aj.of_vc func58 rfl (call58 _) ?_;cases x<;>((conv=>whnf);exact⟨rfl,C_.refl _ _⟩)
def dX(G:Aa)(x y:Bool):BZ prog 60 #[.bool x,.bool y] G (.bool (Qa x y)):=by refine Aj.of_vc func60 rfl (call60 _) ?_;cases x<;>((conv=>whnf);exact⟨rfl,C_.refl _ _⟩)
def Nu{a b:Option AM}{ends:Bool->Bool->Bool}{H':Aa}{r:v_}(h:Nc a b ends m H H' r):∃x y,r= .tuple #[x,y]:=by unfold Nc at h;split at h;{exact⟨_,_,h⟩};{split at h;{exact⟨_,_,h⟩};{obtain⟨v,A,h,-⟩:=h;exact⟨_,_,h⟩}}
section
variable{vb:v_}{a b:Option AM}
def cE(g:∀k,S k->k<H.size)(c:Bi S H va a)(d:Bi S H vb b)(h:Cw a)(i:Cw b):
  Aj prog 21 #[va,vb,A_ m] H λr H'=>C_ (H_ H) H H'/\Nc a b PV m H H' r:=by refine Aj.of_vc func21 rfl (call21 _) (Ae.mk (QB g c d h i cD) ?_);rintro r H1 ⟨e,f⟩;obtain⟨x,y,rfl⟩:=Nu f;(conv=>whnf);exact⟨e,f⟩
def dY(g:∀k,S k->k<H.size)(c:Bi S H va a)(d:Bi S H vb b)(h:Cw a)(i:Cw b):
  Aj prog 23 #[va,vb,A_ m] H λr H'=>C_ (H_ H) H H'/\Nc a b Qa m H H' r:=by refine Aj.of_vc func23 rfl (call23 _) (Ae.mk (QB g c d h i dX) ?_);rintro r H1 ⟨e,f⟩;obtain⟨x,y,rfl⟩:=Nu f;(conv=>whnf);exact⟨e,f⟩
end
end
def ID{a:P_}{b:Int}(h:tT S H v a)(l:b<1\/4096<b):
  BZ prog 38 #[v,A_ b] H (.tuple #[.pointer zV,A_ 2]):=by refine Aj.of_vc func38 rfl (call38 _) (RV h λm n c o=>?_);subst c;intro p H1 j d e f;have J_:=(St.nil H).box j d e f;by_cases i:b<1;{have g:zT (b<(1:Int))=zW:=m_ i;(conv=>whnf);rw[g];(conv=>whnf);exact⟨rfl,J_.old⟩};{have g:zT (b<(1:Int))=zU:=j_ i;have k:zT ((4096:Int)<b)=zW:=l_;(conv=>whnf);rw[g];(conv=>whnf);rw[k];(conv=>whnf);exact⟨rfl,J_.old⟩}
section
attribute [local irreducible] Bt AH Am
noncomputable def FQ(a:P_)(b:Int):Except Int (List (List Int)):=if b<1\/4096<b then .error 2 else match JN a b.toNat with
 | none=>.error 40
 | some F=>.ok F
def Ti{a:P_}{b:Int}(h:b<1\/4096<b):FQ a b= .error 2:=by unfold FQ;rw[I_ h]
def NM{a:P_}(c:1<=b)(d:b<=4096):FQ a (b:Int)=match JN a b with
 | none=>.error 40
 | some F=>.ok F:=by unfold FQ;rw[G_ zO,zB]
def OQ{a:P_}{b e:Int}(h:FQ a b= .error e):e≠0/\0<=e/\e<=40:=by unfold FQ at h;split at h;{injection h with h;omega};{split at h;{injection h with h;omega};{cases h}}
def Rx{a:P_}{b:Int}{F:List (List Int)}(h:FQ a b= .ok F):∃m:Nat,b=(m:Int)/\1<=m/\m<=4096/\JN a m=zY F:=by unfold FQ at h;split at h;{cases h};{rename_i d;refine⟨b.toNat,zO,zO,zO,?_⟩;split at h;{cases h};{rename_i F' c;injection h with h;rw[c,h]}}
end
variable{d:PA}{g:Nat->Nat×Except Int PA}
section
attribute [local irreducible] Bt AH Am Du
section
variable{K:Type} [DecidableEq K]{step:K->Nat->K}{fin:K->Bool}{F:List K}
def uF(step:K->Nat->K)(fin:K->Bool)(F:List K):PA:=⟨F.length,λq b=>((F[q]?).bind λx=>F.findIdx? (·=step x b)).getD 0,λq=>((F[q]?).map fin).getD zU⟩
structure Qe(step:K->Nat->K)(F:List K):Prop where
 nd:F.Nodup
 pos:1<=F.length
 cl:∀x∈F,∀b,b<256->step x b∈F
omit [DecidableEq K]in
def ZP{F:List K}(a:F.Nodup){t u:Nat}{x:K}(f:F[t]?=zY x)(g:F[u]?=zY x):t=u:=by have⟨b,c⟩:=V_.1 f;have⟨d,e⟩:=V_.1 g;rcases Nat.lt_trichotomy t u with h | h | h;{exact absurd (c.trans e.symm) (wF.1 a t u b d h)};{exact h};{exact absurd (e.trans c.symm) (wF.1 a u t d b h)}
def Tt{x:K}(h:x∈F):∃i,F.findIdx? (·=x)=zY i/\F[i]?=zY x:=by cases a:F.findIdx? (·=x)with|none=>rw[List.findIdx?_eq_none_iff]at a;have:=a x h;simp at this|some i=>obtain⟨b,c,-⟩:=List.findIdx?_eq_some_iff_getElem.1 a;exact⟨i,rfl,by rw[yI b];simpa using c⟩
def ZV(h:Qe step F){q b:Nat}{x:K}(a:F[q]?=zY x)(c:b<256):F[(uF step fin F).st q b]?=zY (step x b):=by have⟨i,d,f⟩:=Tt (h.cl x (e_ a) b c);have e:(uF step fin F).st q b=i:=by{show((F[q]?).bind λx=>F.findIdx? (·=step x b)).getD 0=i;rw[a];show(F.findIdx? (·=step x b)).getD 0=i;rw[d];rfl};rw[e];exact f
def Ah5{q:Nat}{x:K}(a:F[q]?=zY x):(uF step fin F).fi q=fin x:=by show((F[q]?).map fin).getD zU=fin x;rw[a];rfl
def ZU(h:Qe step F):(uF step fin F).Ok:=⟨h.pos,λq b a c=>by
 have⟨x,d⟩:=Ab (l:=F) (k:=q) a;exact(V_.1 (ZV (fin:=fin) h d c)).1⟩
def KM{most:Nat}{start:K}(c:1<=most)(h:Du most step start=zY F):Qe step F/\F[0]?=zY start/\F.length<=most:=by have⟨m,n,o,p⟩:=JO c h;refine⟨⟨o,m,?_⟩,p,n⟩;unfold Du at h;cases d:CS most step (Ak8 256) start with|none=>rw[d]at h;cases h|some z=>have⟨G,rows⟩:=z;rw[d]at h;simp only[wB,Option.some.injEq]at h;subst h;have e:=Kn c G.length G rows (LM c d) λj r=>r;intro x s b g;have⟨q,i⟩:=List.getElem?_of_mem s;have⟨row,a⟩:=Ab (l:=rows) (k:=q) (by rw[e.rl];exact(V_.1 i).1);have f:=e.cols row (e_ a);have⟨t,u⟩:=Ab (l:=row) (k:=b) (by rw[f];simpa using g);exact e_ (e.ok q b row b t x a (List.getElem?_range g) u i)
def Mb{K':Type}{step':K'->Nat->K'}{fin':K'->Bool}{f:K->K'}(h:Qe step F)(c:∀x∈F,∀y∈F,f x=f y->x=y)(g:∀x∈F,∀b,b<256->step' (f x) b=f (step x b))(i:∀x∈F,fin' (f x)=fin x){s1:Int->Nat->Int}{f1:Int->Bool}
  (j:∀(q b:Nat) (x:K'),(F.map f)[q]?=zY x->b<256->∃t:Nat,s1 (q:Int) b=(t:Int)/\(F.map f)[t]?=zY (step' x b)) (m:∀(q:Nat) (x:K'),(F.map f)[q]?=zY x->f1 (q:Int)=fin' x):
  (∀q b:Nat,q<F.length->b<256->s1 (q:Int) b=((uF step fin F).st q b:Int))/\∀q:Nat,q<F.length->f1 (q:Int)=(uF step fin F).fi q:=by constructor;{intro q b n e;have⟨x,a⟩:=Ab (l:=F) (k:=q) n;have d:=e_ a;have⟨t,r,e2⟩:=j q b (f x) (by rw[I',a];rfl) e;rw[I']at e2;have⟨y,o,p⟩:=Option.map_eq_some_iff.1 e2;rw[g x d b e]at p;have s:y=step x b:=c y (e_ o) _ (h.cl x d b e) p;rw[s]at o;rw[r,ZP h.nd o (ZV (fin:=fin) h a e)]};{intro q n;have⟨x,a⟩:=Ab (l:=F) (k:=q) n;rw[m q (f x) (by rw[I',a];rfl),i x (e_ a),Ah5 a]}
end
structure JH(o:Option AM)(d:PA):Prop where
 n:stN o=d.n
 st:∀q b:Nat,q<d.n->b<256->AR o (q:Int) b=(d.st q b:Int)
 fi:∀q:Nat,q<d.n->Bk o (q:Int)=d.fi q
noncomputable def FF(b:Int)(a:P_):Except Int PA:=match FQ a b with
 | .error e=>.error e
 | .ok F=>.ok (uF (Be a) (λX=>zT (a.fin∈X)) F)
def Io(d1 d2:PA)(x:Nat×Nat)(c:Nat):Nat×Nat:=if c<256 then(d1.st x.1 c,d2.st x.2 c)else x
def tA(d1 d2:PA)(m:Nat):Option (List (Nat×Nat)):=Du m (Io d1 d2) (0,0)
def pO(ends:Bool->Bool->Bool)(d1 d2:PA)(x:Nat×Nat):Bool:=ends (d1.fi x.1) (d2.fi x.2)
def xL(b:Int)(ends:Bool->Bool->Bool)(d1 d2:PA):Except Int PA:=if b<1\/4096<b then .error 2 else match tA d1 d2 b.toNat with
 | none=>.error 40
 | some F=>.ok (uF (Io d1 d2) (pO ends d1 d2) F)
noncomputable def FG(b:Int)(x:Nat×Except Int BR):Nat×Except Int PA:=BD x λA s=>if 65536<A.u then(s,.error 40)else match FF b ⟨A.u,A.p,A.q,A.es⟩with
 | .error e=>(s,.error e)
 | .ok d=>(max s d.n,.ok d)
noncomputable def CI(b:Int)(ends:Bool->Bool->Bool)(f g:Nat->Nat×Except Int PA)(s:Nat):Nat×Except Int P_:=BD (f s) λd1 s1=>BD (g s1) λd2 s2=>match xL b ends d1 d2 with
 | .error e=>(s2,.error e)
 | .ok d=>(max s2 d.n,.ok (AN d))
noncomputable def Bf(b:Int):ReM->Nat->Nat->Nat×Except Int BR
 | .eps,n,s=>(s,.ok ⟨n,n+1,2,[AP n (n+1)]⟩)
 | .cls t,n,s=>(s,.ok ⟨n,n+1,2,[Cy n (n+1) t]⟩)
 | .cat x y,n,s=>BD (Bf b x n s) λA s1=>BD (Bf b y (n+A.u) s1) λC s2=>(s2,.ok (SY A C))
 | .alt x y,n,s=>BD (Bf b x (n+1) s) λA s1=>BD (Bf b y (n+1+A.u) s1) λC s2=>(s2,.ok (SH n A C))
 | .star x,n,s=>BD (Bf b x (n+1) s) λA s1=>(s1,.ok (N2 n A))
 | .and_ x y,n,s=>DG (CI b PV (λs=>FG b (Bf b x 0 s)) (λs=>FG b (Bf b y 0 s)) s) n
 | .minus x y,n,s=>DG (CI b Qa (λs=>FG b (Bf b x 0 s)) (λs=>FG b (Bf b y 0 s)) s) n
noncomputable def EP(b:Int):ReM->Nat->Nat×Except Int P_
 | .and_ x y,s=>CI b PV (λs=>FG b (Bf b x 0 s)) (λs=>FG b (Bf b y 0 s)) s
 | .minus x y,s=>CI b Qa (λs=>FG b (Bf b x 0 s)) (λs=>FG b (Bf b y 0 s)) s
 | _,s=>(s,.error 2)
noncomputable def AS(b:Int)(r:ReM)(s:Nat):Nat×Except Int PA:=FG b (Bf b r 0 s)
def Ev(b:Int):∀(r:ReM) (n s:Nat),Bf b r n s=BS (EP b) r n s
 | .eps,n,s=>rfl
 | .cls t,n,s=>rfl
 | .cat x y,n,s=>by
   simp only[Bf,BS];rw[Ev b x n s]
   congr 1
   funext A s1;rw[Ev b y _ s1];rfl
 | .alt x y,n,s=>by
   simp only[Bf,BS];rw[Ev b x _ s]
   congr 1
   funext A s1;rw[Ev b y _ s1];rfl
 | .star x,n,s=>by
   simp only[Bf,BS];rw[Ev b x _ s];rfl
 | .and_ x y,n,s=>rfl
 | .minus x y,n,s=>rfl
def Ry{b:Int}{a:P_}(h:FF b a= .ok d):∃F,FQ a b= .ok F/\d=uF (Be a) (λX=>zT (a.fin∈X)) F/\Qe (Be a) F/\F[0]?=zY (HQ a)/\d.Ok/\(d.n:Int)<=b/\d.n<=4096:=by unfold FF at h;cases c:FQ a b with|error e=>rw[c]at h;cases h|ok F=>{rw[c]at h;injection h with h;obtain⟨m,rfl,g,k,i⟩:=Rx c;have⟨f,j,l⟩:=KM g i;subst h;exact⟨F,rfl,rfl,f,j,ZU f,by show(F.length:Int)<=(m:Int);omega,by show F.length<=4096;omega⟩}
def OR{b:Int}{a:P_}{e:Int}(h:FF b a= .error e):FQ a b= .error e/\e≠0:=by unfold FF at h;cases c:FQ a b with|error d=>{rw[c]at h;injection h with h;subst h;exact⟨rfl,(OQ c).1⟩}|ok F=>rw[c]at h;cases h
section
variable{b:Int}{ends:Bool->Bool->Bool}{a c:PA}
def Ki(h:xL b ends a c= .ok d):∃F,tA a c b.toNat=zY F/\d=uF (Io a c) (pO ends a c) F/\Qe (Io a c) F/\F[0]?=zY (0,0)/\d.Ok/\(d.n:Int)<=b/\d.n<=4096/\1<=b/\b<=4096:=by unfold xL at h;split at h;{cases h};{rename_i i;cases e:tA a c b.toNat with|none=>rw[e]at h;cases h|some F=>{rw[e]at h;injection h with h;have⟨f,g,j⟩:=KM zO e;subst h;exact⟨F,rfl,rfl,f,g,ZU f,by show(F.length:Int)<=b;omega,by show F.length<=4096;omega,zO,zO⟩}}
def On{e:Int}(h:xL b ends a c= .error e):e=2\/e=40:=by unfold xL at h;split at h;{injection h with h;exact .inl h.symm};{cases d:tA a c b.toNat with|none=>{rw[d]at h;injection h with h;exact .inr h.symm}|some F=>rw[d]at h;cases h}
end
def PA.edges_len(d:PA)(h:d.n<=4096):(d.edgesTo d.n).length<=16785408:=by
 have a:∀q k,(d.hopsTo q k).length<=k:=λq k=>by{unfold PA.hopsTo;have:=List.length_filterMap_le (λt=>if(d.use t&&(d.set q t != 0#256))=zW then zY (Cy (d.place q) (d.place t) (d.set q t))else zV) (Ak8 k);rwa [rK]at this};have b:∀q,(d.endE q).length<=1:=λq=>by unfold PA.endE;split<;>simp
 have c:∀k,(d.edgesTo k).length<=k*4097:=λk=>by{induction k with|zero=>simp[PA.edgesTo]|succ k f=>have e:d.edgesTo (k+1)=d.edgesTo k++(if d.use k=zW then d.hopsTo k d.n++d.endE k else []):=by{unfold PA.edgesTo;rw[wG,List.flatMap_append];simp};rw[e,M_];have:=a k d.n;have:=b k;have:(if d.use k=zW then d.hopsTo k d.n++d.endE k else []).length<=4097:=by{split;{rw[M_];omega};{simp}};omega};have:=c d.n;omega
def IK(h:d.n<=4096):(AN d).edges.length<=33554432:=by unfold AN;split;{exact Nat.le_trans (PA.edges_len d h) zQ};{simp}
def AQ{σ α β:Type}{x:σ×Except Int α}{f:α->σ->σ×Except Int β}{s:σ}{e:Int}(h:BD x f=(s,.error e)):x=(s,.error e)\/∃b a,x=(b,.ok a)/\f a b=(s,.error e):=by have⟨b,r⟩:=x;cases r with|error c=>have h:((b,.error c):σ×Except Int β)=(s,.error e):=h;cases h;exact .inl rfl|ok a=>exact .inr ⟨b,a,rfl,h⟩
def Mq{b:Int}{ends:Bool->Bool->Bool}{f:Nat->Nat×Except Int PA}{s m:Nat}(h:CI b ends f g s=(m,.ok N)):∃i a j c d,f s=(i,.ok a)/\g i=(j,.ok c)/\xL b ends a c= .ok d/\N=AN d/\m=max j d.n:=by have⟨i,a,o,p⟩:=Bv h;have⟨j,c,q,k⟩:=Bv p;cases l:xL b ends a c with|error e=>simp only[l]at k;cases k|ok d=>simp only[l]at k;cases k;exact⟨i,a,j,c,d,o,q,l,rfl,rfl⟩
def Wr{b:Int}{x:Nat×Except Int BR}{g:Nat}(h:FG b x=(g,.ok d)):∃c A,x=(c,.ok A)/\A.u<=65536/\FF b ⟨A.u,A.p,A.q,A.es⟩= .ok d/\g=max c d.n:=by have⟨c,A,i,a⟩:=Bv h;split at a;{cases a};{rename_i j;cases f:FF b ⟨A.u,A.p,A.q,A.es⟩with|error e=>simp only[f]at a;cases a|ok d=>simp only[f]at a;cases a;exact⟨c,A,i,zO,f,rfl⟩}
def Un(b:Int){ends:Bool->Bool->Bool}{f:Nat->Nat×Except Int PA}{s a:Nat}{e:Int}(c:∀s a e,f s=(a,.error e)->e≠0)(d:∀s a e,g s=(a,.error e)->e≠0)(h:DG (CI b ends f g s) n=(a,.error e)):e≠0:=by rcases AQ (show BD _ _=_ from h)with h | ⟨i,N,-,h⟩;{rcases AQ (show BD _ _=_ from h)with h | ⟨i,k,-,h⟩;{exact c _ _ _ h};{rcases AQ h with h | ⟨l,m,-,h⟩;{exact d _ _ _ h};{split at h;{rename_i j;cases h;rcases On j with h | h<;>omega};{cases h}}}};{split at h;{cases h};{cases h;decide}}
mutual
def Hs(b:Int):∀(r:ReM) (n s a:Nat) (e:Int),Bf b r n s=(a,.error e)->e≠0
 | .eps,n,s,a,e,h=>by cases h
 | .cls t,n,s,a,e,h=>by cases h
 | .cat x y,n,s,a,e,h=>by
   simp only[Bf]at h;rcases AQ h with h | ⟨c,A,-,h⟩
   ·exact Hs b x _ _ _ _ h
   ·rcases AQ h with h | ⟨d,C,-,h⟩
    ·exact Hs b y _ _ _ _ h
    ·cases h
 | .alt x y,n,s,a,e,h=>by
   simp only[Bf]at h;rcases AQ h with h | ⟨c,A,-,h⟩
   ·exact Hs b x _ _ _ _ h
   ·rcases AQ h with h | ⟨d,C,-,h⟩
    ·exact Hs b y _ _ _ _ h
    ·cases h
 | .star x,n,s,a,e,h=>by
   simp only[Bf]at h;rcases AQ h with h | ⟨c,A,-,h⟩
   ·exact Hs b x _ _ _ _ h
   ·cases h
 | .and_ x y,n,s,a,e,h=>by
   simp only[Bf]at h;exact Un b (λs a e=>Co b x s a e) (λs a e=>Co b y s a e) h
 | .minus x y,n,s,a,e,h=>by
   simp only[Bf]at h;exact Un b (λs a e=>Co b x s a e) (λs a e=>Co b y s a e) h
def Co(b:Int):∀(r:ReM) (s c:Nat) (e:Int),AS b r s=(c,.error e)->e≠0:=λr s c e h=>by
 rcases AQ (show BD _ _=_ from h)with h | ⟨f,A,-,h⟩
 ·exact Hs b r _ _ _ _ h
 ·split at h
  ·cases h;decide
  ·cases a:FF b ⟨A.u,A.p,A.q,A.es⟩with
   | error e=>simp only[a]at h;cases h;exact(OR a).2
   | ok d=>simp only[a]at h;cases h
end
end
abbrev pe(x:v_):List PanicEntry:=[{v:=x,recovered:=zU}]
def VO(R E:v_->Aa->Prop):Ending->Aa->Prop
 | .returned v,H=>R v H
 | .panicked c,H=>∃x,c=pe x/\E x H
 | .outgrown,_=>False
def VO.mono{E:v_->Aa->Prop}{e:Ending}(h:VO R E e H)(a:∀v H,R v H->R' v H)(b:∀v H,E v H->E' v H):VO R' E' e H:=by cases e with|returned v=>exact a v H h|panicked c=>have⟨x,d,f⟩:=h;exact⟨x,d,b x H f⟩|outgrown=>exact h
def Cv(P:w_)(f:FuncId)(args:Array v_)(H:Aa)(R E:v_->Aa->Prop):Prop:=
 ∀w:y_,w.heap=H->(callFunc f args).run P w= .ok (.enter f args) w/\Calls P f args w λe w'=>p_ w w'/\VO R E e w'.heap
section
variable{a:Array v_}{E:v_->Aa->Prop}
def Cv.mono(h:Cv P f a H R E)(c:∀v H,R v H->R' v H)(d:∀v H,E v H->E' v H):Cv P f a H R' E':=λw b=>
 ⟨(h w b).1,(h w b).2.mono λe j ⟨g,i⟩=>⟨g,i.mono c d⟩⟩
def Aj.pan(h:Aj P f a H R):Cv P f a H R E:=λw b=>
 ⟨(h w b).1,(h w b).2.mono λe i ⟨v,c,d,g⟩=>by subst c;exact⟨d,g⟩⟩
end
structure Ao(P:w_)(f:FuncId)(args:Array v_)(H:Aa)(K E:v_->Aa->Prop):Prop where
 in_::
 out_:Cv P f args H K E
section
variable{a:Array v_}{E:v_->Aa->Prop}
def Ao.mk(h:Cv P f a H R E')(k:∀v H',R v H'->K v H')(e:∀v H',E' v H'->E v H'):Ao P f a H K E:=
 ⟨h.mono k e⟩
def Ao.of(h:Ae P f a H K):Ao P f a H K E:=⟨h.out_.pan⟩
end
structure AtX(ds:List Deferred)(fr:Fr)(a:Act):Prop where
 tmps:a.tmps.toList=fr
 defers:a.defers=ds
def AtX.at_(h:AtX [] fr a):At fr a:=⟨h.tmps,h.defers⟩
def AtX.bare(h:AtX ds fr a):At fr {tmps:=a.tmps,defers:=[]}:=⟨h.tmps,rfl⟩
def AtX.evalF(h:AtX ds fr a):a.eval=yJ fr:=by rw[<-h.bare.evalF];funext x;cases x<;>rfl
def AtX.put(h:AtX ds fr a)(b:Option Tmp)(v:v_):AtX ds (match b with | none=>fr | some d=>fr.set d v) (a.put b v):=by obtain⟨rfl,c⟩:=h;cases b with|none=>exact⟨rfl,c⟩|some d=>exact⟨by simp[Act.put],c⟩
def pU{b:Option Tmp}{c:v_}(h:({tmps:=a.tmps,defers:=[]}:Act).put b v=({tmps:=a.tmps,defers:=[]}:Act).put b c):a.put b v=a.put b c:=by cases b with|none=>rfl|some d=>have:=congrArg Act.tmps h;simp only[Act.put]at this ⊢;rw[this]
def Ys(P:w_)(o:Oper)(a:Act)(w:y_)(K E:v_->Aa->Prop):Prop:=
 ∀Q:Exit->Act->y_->Prop,(∀x w',p_ w w'->E x w'.heap->Q (.panic (pe x)) a w')->o.wp P a w (λa' w'=>∃v,a'=a.put o.dst v/\p_ w w'/\K v w'.heap) Q
def Ah3{E:v_->Aa->Prop}(h:U8 P o {tmps:=a.tmps,defers:=[]} w K):Ys P o a w K E:=by
 intro Q _;have b:=h (λe _ w=>Q e a w);unfold Oper.wp at b ⊢;have p:({tmps:=a.tmps,defers:=[]}:Act).eval=a.eval:=by funext x;cases x<;>rfl
 rw[p]at b;revert b;generalize (execOp a.eval o).run P w=r;intro b;cases r with|ok q t=>{cases q with|value v=>have⟨j,e,g,i⟩:=b;exact⟨j,pU e,g,i⟩|skip=>have⟨j,e,g,i⟩:=b;exact⟨j,pU e,g,i⟩|defer d=>have⟨j,e,g,i⟩:=b;have:=congrArg Act.defers e;cases k:o.dst<;>rw[k]at this<;>simp[Act.put]at this|enter f l=>{refine Calls.mono b ?_;intro e m g;cases e with|returned v=>have⟨j,e,i,n⟩:=g;exact⟨j,pU e,i,n⟩|panicked c=>exact g|outgrown=>obtain⟨_,w,i⟩:=g;exact⟨a,w,i⟩}|row row l=>refine Rows.mono b ?_;intro v m g;have⟨j,e,i,n⟩:=g;exact⟨j,pU e,i,n⟩|_=>exact b.elim}|halt s t=>{cases s<;>first | exact b | exact b.elim}
def YP(P:w_)(f:v_)(args:List v_)(H:Aa)(K E:v_->Aa->Prop):Prop:=
 match f with
 | .func (.func g) first cap=>Ao P g (first.toList++args++cap.toList).toArray H K E
 | _=>False
def TS(P:w_)(o:Oper)(fr:Fr)(H:Aa)(K:v_->Aa->Prop)(E:Fr->v_->Aa->Prop):Prop:=
 match o.op with
 | .panic x=>zF fr x λv=>match v with
   | .iface t y=>E fr (.iface t y) H
   | _=>False
 | .call {callee:=.value f,args, .. }=>zF fr f λg=>Ja fr args.toList λvs=>YP P g vs H K (E fr)
 | _=>wV P zU (λ_=>True) o fr H K
def Ao.out{a:Array v_}{E:v_->Aa->Prop}(h:Ao P f a H K E):Cv P f a H K E:=by exact h.out_
def HI(i:AtX ds fr a)(h:TS P o fr w.heap K E):Ys P o a w K (E fr):=by
 unfold TS at h;split at h;{rename_i x k;rw[JS]at h;split at h;{rename_i t y l;intro Q m;have:(execOp a.eval o).run P w= .halt (.panic (.iface t y)) w:=by{rw[i.evalF];simp only[execOp,k,l];simp[Instr.panic,goPanic]};unfold Oper.wp;rw[this];exact m _ w (p_.refl w) h};{exact h.elim}};{
 rename_i f b j k;simp only[JS,K6,<-sL]at h;unfold YP at h;split at h;{
 rename_i g first cap q
 intro Q m;have e:(first.toList++(Al4 (yJ fr) b).toList++cap.toList).toArray=first++Al4 (yJ fr) b++cap:=Array.ext' zZ
 have n:=h.out;rw[e]at n;have r:(execOp a.eval o).run P w=(callFunc g (first++Al4 (yJ fr) b++cap)).run P w:=by{rw[i.evalF];simp only[execOp,k,resolve,q,Deferred.ofValue];simp[invoke]};unfold Oper.wp;rw[r,(n w rfl).1];refine(n w rfl).2.mono ?_;intro e s ⟨d,p⟩;cases e with|returned v=>exact⟨v,rfl,d,p⟩|panicked c=>obtain⟨x,rfl,l⟩:=p;exact m x s d l|outgrown=>exact p.elim};{exact h.elim}};{exact Ah3 (DT i.bare h)}
def RI(P:w_)(o:Oper)(want:Bool)(t:Nat)(fr:Fr)(H:Aa)(K:Fr->Aa->Prop)(E:Fr->v_->Aa->Prop):Prop:=
 yL fr t λv=>match v with
  | .bool b=>AD b
    (xN fr t (.bool zW) λfr1=>match want with
     | true=>TS P o fr1 H (λv H'=>D1 o.dst fr1 v λfr'=>wC K fr' H') E
     | false=>D1 o.dst fr1 undef λfr'=>wC K fr' H)
    (xN fr t (.bool zU) λfr1=>match want with
     | false=>TS P o fr1 H (λv H'=>D1 o.dst fr1 v λfr'=>wC K fr' H') E
     | true=>D1 o.dst fr1 undef λfr'=>wC K fr' H)
  | .tuple _=>D1 o.dst fr undef λfr'=>wC K fr' H
  | _=>False
def Ns(P:w_)(all:List Oper)(E:Fr->v_->Aa->Prop)(l:List Oper):Fr->Aa->(Fr->Aa->Prop)->Prop:=
 List.rec (motive:=λ_=>Fr->Aa->(Fr->Aa->Prop)->Prop) (λfr H K=>K fr H) (λo _ ih fr H K=>
  match o.guard with
  | none=>TS P o fr H (λv H'=>D1 o.dst fr v λfr'=>ih fr' H' K) E
  | some (j,want)=>match(all[j]?).bind (·.dst)with
    | none=>False
    | some t=>RI P o want t fr H (λfr' H'=>ih fr' H' K) E) l
def Vw(P:w_)(all rest:List Oper)(o:Oper)(E:Fr->v_->Aa->Prop)(fr:Fr)(H:Aa)(K:Fr->Aa->Prop):Ns P all E (o::rest) fr H K=
  (match o.guard with
  | none=>TS P o fr H (λv H'=>D1 o.dst fr v λa=>Ns P all E rest a H' K) E
  | some (j,want)=>match(all[j]?).bind (·.dst)with
    | none=>False
    | some t=>RI P o want t fr H (λa H'=>Ns P all E rest a H' K) E):=rfl
def eB{c:List Oper}(d:AtX ds fr a){t:Nat}(e:(c[j]?).bind (·.dst)=zY t){b:Bool}(f:rd fr t= .bool b):yielded c.toArray a.tmps j=zY b:=
 J6 d.bare e f
def Uy{b:List Oper}(c:AtX ds fr a){t:Nat}(d:(b[j]?).bind (·.dst)=zY t)(e:rd fr t= .tuple vs):yielded b.toArray a.tmps j=zV:=
 J7 c.bare d e
def Kf{P:w_}{all:List Oper}{ds:List Deferred}{E:Fr->v_->Aa->Prop}{Q:Exit->Act->y_->Prop}{w0:y_}(m:∀x fr a' f,AtX ds fr a'->p_ w0 f->E fr x f.heap->Q (.panic (pe x)) a' f):∀(l:List Oper) (fr:Fr) (a:Act) (w:y_) (K:Fr->Aa->Prop),AtX ds fr a->p_ w0 w->
  (∀d a' f,AtX ds d a'->p_ w0 f->K d f.heap->Q .normal a' f)->
  Ns P all E l fr w.heap K->wpList P all.toArray Q l a w
 | [],fr,a,w,K,hat,he,hq,h=>hq fr a w hat he h
 | o::l,fr,a,w,K,hat,he,hq,h=>by
   have go:∀(c:Bool),(c=zW->Ys P o a w (λv H'=>D1 o.dst fr v λd=>Ns P all E l d H' K) (E fr))->
     (c=zU->D1 o.dst fr undef λd=>Ns P all E l d w.heap K)->
     Region.wanted o (yielded all.toArray a.tmps)=c->wpList P all.toArray Q (o::l) a w:=by
    intro c r s u;unfold wpList;rw[u];cases c with
    | true=>
      refine .inl (Oper.wp_mono ?_ (r rfl _ λx f e y=>m x fr a f hat (he.trans e) y));rintro a' f ⟨v,rfl,e,n⟩;rw[CH]at n;exact Kf m l _ _ _ K (hat.put o.dst v) (he.trans e) hq n
    | false=>
      have p:=s rfl;rw[CH]at p;exact Kf m l _ _ _ K (hat.put o.dst undef) he hq p
   rw[Vw]at h;split at h
   ·rename_i g;exact go zW (λ_=>HI hat h) (λh=>by cases h) (by simp[Region.wanted,g])
   ·rename_i j c g;split at h
    ·exact h.elim
    ·rename_i t q;unfold RI at h;simp only[wC]at h;rw[EM]at h;split at h
     ·rename_i b i;have k:=eB hat q i;have hs:fr.set t (.bool b)=fr:=Fm i (by simp[undef]);cases b<;>cases c<;>simp only[AD,GR,hs]at h
      ·exact go zW (λ_=>HI hat h) (λh=>by cases h) (by simp[Region.wanted,g,k])
      ·exact go zU (λh=>by cases h) (λ_=>h) (by simp[Region.wanted,g,k])
      ·exact go zU (λh=>by cases h) (λ_=>h) (by simp[Region.wanted,g,k])
      ·exact go zW (λ_=>HI hat h) (λh=>by cases h) (by simp[Region.wanted,g,k])
     ·rename_i vs i;exact go zU (λh=>by cases h) (λ_=>h) (by simp[Region.wanted,g,Uy hat q i])
     ·exact h.elim
def VN(E:Fr->v_->Aa->Prop)(l:List Oper):Prop:=∀o∈l,∀d,o.dst=zY d->∀fr v x H,E (fr.set d v) x H->E fr x H
def DS(E:v_->Aa->Prop)(l:List Oper):VN (λ_=>E) l:=λ_ _ _ _ _ _ _ _ h=>h
structure CV(P:w_)(ds:List Deferred)(l:List Oper)(fr:Fr)(H:Aa)(K:Fr->Aa->Prop)(E:Fr->v_->Aa->Prop):Prop where
 in_::
 out_:∀(id:Nat) (Q:Exit->Act->y_->Prop) (a:Act) (w:y_),AtX ds fr a->w.heap=H->(∀x fr a' w',AtX ds fr a'->p_ w w'->E fr x w'.heap->Q (.panic (pe x)) a' w')->
  (VN E l->∀c,∀o∈l,∀v a w,Q (.panic c) (a.put o.dst v) w->Q (.panic c) a w)->
  (∀fr' a' w',AtX ds fr' a'->p_ w w'->K fr' w'.heap->Q .normal a' w')->(Code.region id l.toArray zW).wp P Q a w
def CV.of{l:List Oper}{K:Fr->Aa->Prop}(h:Ap P l fr H K):CV P [] l fr H K E:=by refine⟨λid Q a w b g _ _ i=>?_⟩;refine Code.wp_mono (Q:=λe a w=>Q e a w/\∀c,e≠ .panic c) (λe a w h=>h.1) ?_;exact h.out id _ a w b.at_ g (λc a w h=>h.2 c rfl) λd a' j f k m=>⟨i d a' j ⟨f.tmps,f.defers⟩ k m,λc=>zZ⟩
def qI(P:w_)(S:Nat->Prop)(Z:List Nat)(H0:Aa)(all:List Oper)(E:Fr->v_->Aa->Prop)(i:Nat)(fr:Fr)(H:Aa)(next:Fr->Aa->Prop):Prop:=
 match all[i]? with
 | none=>False
 | some o=>match o.guard with
   | some _=>False
   | none=>match Z.contains i with
     | true=>TS P o fr H (λv H'=>D1 o.dst fr v λfr'=>next fr' H') E
     | false=>TS P o fr H (λv H'=>C_ S H0 H'/\D1 o.dst fr v λfr'=>next fr' H') E
def W9(P:w_)(S:Nat->Prop)(Z:List Nat)(H0:Aa)(all:List Oper)(E:Fr->v_->Aa->Prop)(s:Sch):Fr->Aa->(Fr->Aa->Prop)->Prop:=
 Sch.rec (motive:=λ_=>Fr->Aa->(Fr->Aa->Prop)->Prop) (λfr H K=>K fr H)
  (λi _ ih fr H K=>match all[i]? with
   | none=>False
   | some o=>match o.guard with
     | some _=>False
     | none=>match No o&&HX P o with
       | true=>PW P S o fr H λv=>D1 o.dst fr v λfr'=>ih fr' H K
       | false=>False)
  (λi _ ih fr H K=>qI P S Z H0 all E i fr H λfr' H'=>ih fr' H' K)
  (λi _ j _ ih ih' fr H K=>(qI P S Z H0 all E i fr H λfr' H'=>ih fr' H' K)/\qI P S Z H0 all E j fr H λfr' H'=>ih' fr' H' K) s
def dS(P:w_)(S:Nat->Prop)(Z:List Nat)(H0:Aa)(all:List Oper)(E:Fr->v_->Aa->Prop)(i:Nat)(s:Sch)(fr:Fr)(H:Aa)(K:Fr->Aa->Prop):W9 P S Z H0 all E (.q i s) fr H K=
  (match all[i]? with
   | none=>False
   | some o=>match o.guard with
     | some _=>False
     | none=>match No o&&HX P o with
       | true=>PW P S o fr H λv=>D1 o.dst fr v λa=>W9 P S Z H0 all E s a H K
       | false=>False):=rfl
def Kr{Z:List Nat}{w0:y_}{Q:Exit->Act->y_->Prop}(p:∀x fr a' c,AtX ds fr a'->p_ w0 c->E fr x c.heap->Q (.panic (pe x)) a' c){next:Fr->Aa->Prop}{N:Act->y_->Prop}
  (d:AtX ds fr a) (f:p_ w0 w) (h:qI P S Z w0.heap all E i fr w.heap next)
  (q:∀g a' c,AtX ds g a'->p_ w0 c->(Z.contains i=zU->xX w0 S c)->next g c.heap->N a' c):wpOp P all.toArray Q i N a w:=by unfold qI at h;split at h;{exact h.elim};{rename_i o r;have m:all.toArray[i]?=zY o:=by{simpa using r};split at h;{exact h.elim};{rename_i s;have e:Region.wanted o (yielded all.toArray a.tmps)=zW:=by{simp[Region.wanted,s]};unfold wpOp;rw[m];dsimp only;rw[I_ e];split at h;{rename_i t;refine .inl (Oper.wp_mono ?_ (HI d h _ λx c b n=>p x fr a c d (f.trans b) n));rintro a' c ⟨v,rfl,b,j⟩;rw[CH]at j;exact q _ _ _ (d.put o.dst v) (f.trans b) (λk=>by rw[t]at k;cases k) j};{refine .inl (Oper.wp_mono ?_ (HI d h _ λx c b n=>p x fr a c d (f.trans b) n));rintro a' c ⟨v,rfl,b,l,j⟩;rw[CH]at j;exact q _ _ _ (d.put o.dst v) (f.trans b) (λ_=>⟨f.trans b,l⟩) j}}}
def V0(a:Act)(b:Option Tmp)(v:v_):(a.put b v).defers=a.defers:=by cases b<;>rfl
def Gv{P:w_}{S:Nat->Prop}{Z:List Nat}{w0:y_}{all:List Oper}{ds:List Deferred}{E:Fr->v_->Aa->Prop}{Q:Exit->Act->y_->Prop}(hs:Region.noSelect all.toArray=zW)
  (z:∀x fr a' m,AtX ds fr a'->p_ w0 m->E fr x m.heap->Q (.panic (pe x)) a' m) (n:∀c,∀o∈all,∀v a w,Q (.panic c) (a.put o.dst v) w->Q (.panic c) a w):∀(l:Sch) (d:Array Bool) (fr:Fr) (a:Act) (w:y_) (K:Fr->Aa->Prop),AtX ds fr a->p_ w0 w->(Uz Z l=zU->xX w0 S w)->Zac all.toArray d->
  (∀p a' m,AtX ds p a'->p_ w0 m->K p m.heap->Q .normal a' m)->EJ all.toArray Z l d=zW->l.even=zW->
  W9 P S Z w0.heap all E l fr w.heap K->LE P all.toArray Q (xX w0 S) Z l.len d a w
 | .e,d,fr,a,w,K,hat,he,_,_,hq,hB,_,h=>⟨by simpa [EJ]using hB,hq fr a w hat he h⟩
 | .q i s,d,fr,a,w,K,hat,he,A,hsh,hq,hB,hev,h=>by
   have A:=A rfl;simp only[EJ,O',vY,zM]at hB;obtain⟨⟨⟨⟨B,g⟩,U⟩,V⟩,r⟩:=hB;rw[dS]at h;split at h
   ·exact h.elim
   ·rename_i o T;have D:all.toArray[i]?=zY o:=by simpa using T
    have F:i∈Region.ready .any all.toArray d:=by simpa using B
    split at h
    ·exact h.elim
    ·rename_i W;have C:Region.wanted o (yielded all.toArray a.tmps)=zW:=by simp[Region.wanted,W]
     split at h
     ·have⟨v,X,t⟩:=FR h;rw[CH]at t;refine Hl (v:=v) (f:=all.toArray.size) D (Region.noSelect_spec hs) (λc a' m Y=>n c o (e_ T) v a' m Y) U (λj G=>V j (by simpa using G)) s.len d a w hsh (Region.free_spec D g) F
       (.inl ⟨C,λm N=>?_⟩) A ?_
      ·rw[hat.evalF];exact X m λk t=>(N.2 k t).trans (A.2 k t).symm
      ·exact Gv hs z n s _ _ _ w K (hat.put o.dst v) he (λ_=>A) (hsh.put F) hq r hev t
     ·exact h.elim
 | .f i s,d,fr,a,w,K,hat,he,A,hsh,hq,hB,hev,h=>by
   simp only[EJ,O',tJ,vY,beq_iff_eq]at hB;obtain⟨⟨B,g⟩,r⟩:=hB;refine⟨(λH=>by rw[B]at H;cases H),λj G=>?_⟩;have O:=G;rw[B]at G;obtain rfl:j=i:=by simpa using G
   refine Kr z hat he h λp a' m I J u L=>⟨u,Gv hs z n s _ _ _ m K I J (λy=>?_) (hsh.put O) hq r hev L⟩;rcases g with g | g
   ·exact u g
   ·rw[g]at y;cases y
 | .b i s j s',d,fr,a,w,K,hat,he,A,hsh,hq,hB,hev,h=>by
   simp only[EJ,O',tJ,vY,beq_iff_eq]at hB;obtain⟨⟨⟨B,g⟩,r⟩,R⟩:=hB;simp only[Sch.even,O',beq_iff_eq]at hev;obtain⟨⟨e1,e2⟩,e3⟩:=hev;refine⟨(λH=>by rw[B]at H;cases H),λk t=>?_⟩;have M:=t;rw[B]at t;rcases xU.1 t with rfl | t
   ·refine Kr z hat he h.1 λp a' m I J u L=>⟨u,Gv hs z n s _ _ _ m K I J (λy=>?_) (hsh.put M) hq r e1 L⟩;rcases g with g | g
    ·exact u g.1
    ·rw[g.1]at y;cases y
   ·obtain rfl:k=j:=by simpa using t
    rw[e3];refine Kr z hat he h.2 λp a' m I J u L=>⟨u,Gv hs z n s' _ _ _ m K I J (λy=>?_) (hsh.put M) hq R e2 L⟩;rcases g with g | g
    ·exact u g.2
    ·rw[g.2]at y;cases y
def CV.held{l:List Oper}{K:Fr->Aa->Prop}(S:Nat->Prop)(Z:List Nat)(b:Sch)(d:VN E l)(k:P.follows .mixedOrders=zW)
  (c:(Region.noSelect l.toArray&&(b.len==l.length)&&b.even&&EJ l.toArray Z b (AjO l.length zU))=zW)
  (h:W9 P S Z H l E b fr H K):CV P ds l fr H K E:=by refine⟨?_⟩;intro id Q a w e m n f p;subst m;simp only[O',beq_iff_eq]at c;refine wp_region_any k (Jy (S:=xX w S) (Z:=Z) _ _ _ _ ?_);have g:Zac l.toArray (AjO l.length zU):=λj o _ i=>by{rw[Array.getD_eq_getD_getElem?,Array.getElem?_replicate]at i;split at i<;>simp at i};have:=Gv (P:=P) (S:=S) (Z:=Z) (w0:=w) (Q:=Q) c.1.1.1 n (f d) b (AjO l.length zU) fr a {w with drawn:=w.drawn+1} K e ⟨rfl,rfl,rfl⟩ (λ_=>⟨⟨rfl,rfl,rfl⟩,C_.refl _ _⟩) g p c.2 c.1.2 h;rw[c.1.1.2]at this;simpa using this
def EB(ds:List Deferred)(w0:y_)(E:Fr->v_->Aa->Prop)(Q:Exit->Fr->Aa->Prop):Exit->Act->y_->Prop
 | .panic c,a,w=>∃fr,AtX ds fr a/\p_ w0 w/\∃x,c=pe x/\E fr x w.heap
 | .outgrown,_,_=>False
 | e,a,w=>∃fr,AtX ds fr a/\p_ w0 w/\Q e fr w.heap
structure FJ(P:w_)(ds:List Deferred)(E:Fr->v_->Aa->Prop)(c:Code)(fr:Fr)(H:Aa)(X:List (Nat×(Fr->Aa->Prop)))(kr:Fr->Aa->Prop):Prop where
 in_::
 out_:∀(a:Act) (w:y_),AtX ds fr a->w.heap=H->(Code.loop c).wp P (EB ds w E (Qx (λ_ _=>False) X kr)) a w
structure Bq(P:w_)(ds:List Deferred)(E:Fr->v_->Aa->Prop)(x y:Code)(fr:Fr)(H:Aa)(kn:Fr->Aa->Prop)(X:List (Nat×(Fr->Aa->Prop)))(kr:Fr->Aa->Prop):Prop where
 in_::
 out_:∀(a:Act) (w:y_),AtX ds fr a->w.heap=H->(Code.seq x y).wp P (EB ds w E (Qx kn X kr)) a w
def wQ(P:w_)(ds:List Deferred)(E:Fr->v_->Aa->Prop)(c:Code):Fr->Aa->(Fr->Aa->Prop)->List (Nat×(Fr->Aa->Prop))->(Fr->Aa->Prop)->Prop:=
 Code.rec (motive:=λ_=>Fr->Aa->(Fr->Aa->Prop)->List (Nat×(Fr->Aa->Prop))->(Fr->Aa->Prop)->Prop)
  (λfr H kn _ _=>kn fr H)
  (λ_ ops draw fr H kn _ _=>match draw with
   | false=>Ns P ops.toList E ops.toList fr H kn
   | true=>CV P ds ops.toList fr H kn E)
  (λa b iha ihb fr H kn X kr=>match MF a with
   | true=>Bq P ds E a b fr H kn X kr
   | false=>iha fr H (λfr' H'=>ihb fr' H' kn X kr) X kr)
  (λc _ _ ihx ihy fr H kn X kr=>match c with
   | .tmp t=>yL fr t λv=>match v with
     | .bool b=>AD b (xN fr t (.bool zW) λfr1=>ihx fr1 H kn X kr) (xN fr t (.bool zU) λfr1=>ihy fr1 H kn X kr)
     | _=>False
   | .const (.bool b)=>AD b (ihx fr H kn X kr) (ihy fr H kn X kr)
   | _=>False)
  (λid _ ih fr H kn X kr=>ih fr H kn ((id,kn)::X) kr)
  (λc _ fr H _ X kr=>FJ P ds E c fr H X kr)
  (λ_ _ _ _ _ _ _ _ _ _ _=>False)
  (λid fr H _ X _=>Qq X id fr H)
  (λ_ _ _ _ _ _ _=>False)
  (λ_ _ _ _ _ _=>False)
  (λ_ _ _ _ _ _=>False)
  (λfr H _ _ kr=>kr fr H)
  (λ_ _ _ _ _ _=>False) c
section
variable(P:w_)(ds:List Deferred)(E:Fr->v_->Aa->Prop)(a b:Code)(fr:Fr)(H:Aa)(kn:Fr->Aa->Prop)(X:List (Nat×(Fr->Aa->Prop)))(kr:Fr->Aa->Prop)
def VK(id:Nat)(a:Array Oper)(b:Bool):wQ P ds E (.region id a b) fr H kn X kr=(match b with
   | false=>Ns P a.toList E a.toList fr H kn
   | true=>CV P ds a.toList fr H kn E):=rfl
def aD:wQ P ds E (.seq a b) fr H kn X kr=(match MF a with
   | true=>Bq P ds E a b fr H kn X kr
   | false=>wQ P ds E a fr H (λc H'=>wQ P ds E b c H' kn X kr) X kr):=rfl
def fX(c:z_):wQ P ds E (.cond c a b) fr H kn X kr=(match c with
   | .tmp t=>yL fr t λv=>match v with
     | .bool x=>AD x (xN fr t (.bool zW) λd=>wQ P ds E a d H kn X kr) (xN fr t (.bool zU) λd=>wQ P ds E b d H kn X kr)
     | _=>False
   | .const (.bool x)=>AD x (wQ P ds E a fr H kn X kr) (wQ P ds E b fr H kn X kr)
   | _=>False):=rfl
def Ym(id:Nat):wQ P ds E (.block id a) fr H kn X kr=wQ P ds E a fr H kn ((id,kn)::X) kr:=rfl
end
def FJ.out(h:FJ P ds E c fr H X kr):
  ∀(a:Act) (w:y_),AtX ds fr a->w.heap=H->(Code.loop c).wp P (EB ds w E (Qx (λ_ _=>False) X kr)) a w:=by exact h.out_
def Bq.out{x:Code}(h:Bq P ds E x y fr H kn X kr):
  ∀(a:Act) (w:y_),AtX ds fr a->w.heap=H->(Code.seq x y).wp P (EB ds w E (Qx kn X kr)) a w:=by exact h.out_
def EB.env{w0 d:y_}(b:p_ w0 d):∀{e:Exit} {a:Act} {w:y_},EB ds d E Q e a w->EB ds w0 E Q e a w
 | .normal,_,_,⟨fr,h1,h2,h3⟩ | .exit _,_,_,⟨fr,h1,h2,h3⟩ | .goto _,_,_,⟨fr,h1,h2,h3⟩ | .ret,_,_,⟨fr,h1,h2,h3⟩=>⟨fr,h1,b.trans h2,h3⟩
 | .panic c,_,_,⟨fr,h1,h2,h3⟩=>⟨fr,h1,b.trans h2,h3⟩
def EB.mono{w0:y_}{Q':Exit->Fr->Aa->Prop}(b:∀e fr H,Q e fr H->Q' e fr H):∀{e:Exit} {a:Act} {w:y_},EB ds w0 E Q e a w->EB ds w0 E Q' e a w
 | .normal,_,_,⟨fr,h1,h2,h3⟩ | .exit _,_,_,⟨fr,h1,h2,h3⟩ | .goto _,_,_,⟨fr,h1,h2,h3⟩ | .ret,_,_,⟨fr,h1,h2,h3⟩=>⟨fr,h1,h2,b _ _ _ h3⟩
 | .panic c,_,_,h=>h
def MQ{x:Code}{d:Fr->Aa->Prop}
  (g:x.wp P (EB ds w E (Qx d X kr)) a w)
  (i:∀fr a' b,AtX ds fr a'->p_ w b->d fr b.heap->y.wp P (EB ds b E (Qx kn X kr)) a' b):(Code.seq x y).wp P (EB ds w E (Qx kn X kr)) a w:=by refine wp_seq (Code.wp_mono ?_ g);intro e a' b h;cases e with|normal=>have⟨fr,j,f,k⟩:=h;exact Code.wp_mono (λe a w h=>EB.env f h) (i fr a' b j f k)|exit id=>exact h|goto l=>exact h|ret=>exact h|panic c=>exact h|outgrown=>exact h
def CJ{P:w_}{ds:List Deferred}{E:Fr->v_->Aa->Prop}:∀(c:Code) (fr:Fr) (kn:Fr->Aa->Prop) (X:List (Nat×(Fr->Aa->Prop))) (kr:Fr->Aa->Prop) (a:Act) (w:y_),AtX ds fr a->
  wQ P ds E c fr w.heap kn X kr->c.wp P (EB ds w E (Qx kn X kr)) a w
 | .skip,fr,kn,X,kr,a,w,hat,h=>wp_skip ⟨fr,hat,p_.refl w,h⟩
 | .region id ops draw,fr,kn,X,kr,a,w,hat,h=>by
   rw[VK]at h;cases draw with
   | false=>
     have:=wp_region_lit (P:=P) (id:=id) (l:=ops.toList) (Kf (P:=P) (all:=ops.toList) (ds:=ds) (E:=E) (Q:=EB ds w E (Qx kn X kr)) (w0:=w) (λx fr a' k i j g=>⟨fr,i,j,x,rfl,g⟩) ops.toList fr a w kn hat (p_.refl w) (λf a' k i j g=>⟨f,i,j,g⟩) h);simpa using this
   | true=>
     have:=h.out_ id (EB ds w E (Qx kn X kr)) a w hat rfl (λx fr a' k i j g=>⟨fr,i,j,x,rfl,g⟩) (λq c o C v a k h=>by
      have⟨D,i,j,x,g,n⟩:=h;have⟨p,u⟩:=i;rw[V0]at u;refine⟨a.tmps.toList,⟨rfl,u⟩,j,x,g,?_⟩;cases r:o.dst with
      | none=>rw[r]at p;rw[<-p]at n;exact n
      | some d=>
        rw[r]at p;refine q o C d r _ v x _ ?_;rw[<-p]at n;simpa [Act.put]using n) (λf a' k i j g=>⟨f,i,j,g⟩)
     simpa using this
 | .seq x y,fr,kn,X,kr,a,w,hat,h=>by
   rw[aD]at h;split at h
   ·exact h.out a w hat rfl
   ·exact MQ (CJ x fr _ X kr a w hat h) λf a' k i _ g=>CJ y f kn X kr a' k i g
 | .cond c x y,fr,kn,X,kr,a,w,hat,h=>by
   rw[fX]at h;split at h
   ·rename_i t;rw[EM]at h;split at h
    ·rename_i b z;have hs:fr.set t (.bool b)=fr:=Fm z (by simp[undef]);have A:a.eval (.tmp t)= .bool b:=by rw[hat.evalF];exact z
     cases b<;>simp only[AD,GR,hs]at h
     ·exact wp_cond_false A (CJ y fr kn X kr a w hat h)
     ·exact wp_cond_true A (CJ x fr kn X kr a w hat h)
    ·exact h.elim
   ·rename_i b;cases b<;>simp only[AD]at h
    ·exact wp_cond_false rfl (CJ y fr kn X kr a w hat h)
    ·exact wp_cond_true rfl (CJ x fr kn X kr a w hat h)
   ·exact h.elim
 | .block id c,fr,kn,X,kr,a,w,hat,h=>by
   rw[Ym]at h;refine wp_block (Code.wp_mono ?_ (CJ c fr kn _ kr a w hat h));intro e a' k h;cases e with
   | exit s=>
     have⟨f,i,j,g⟩:=h;simp only[Qx,Qq]at g;simp only[Exit.inBlock];split at g
     ·rename_i m;have:=Nat.eq_of_beq_eq_true m;rw[I_ this.symm];exact⟨f,i,j,g⟩
     ·rename_i m;have:id≠s:=Nat.ne_of_beq_eq_false m;rw[G_ (Ne.symm this)];exact⟨f,i,j,g⟩
   | normal=>exact h
   | goto l=>exact h
   | ret=>exact h
   | panic c=>exact h
   | outgrown=>exact h
 | .loop c,fr,kn,X,kr,a,w,hat,h=>Code.wp_mono (λe a w=>EB.mono λe fr H B=>by
   cases e<;>first | exact B | exact B.elim) (h.out a w hat rfl)
 | .exit id,fr,kn,X,kr,a,w,hat,h=>wp_exit ⟨fr,hat,p_.refl w,h⟩
 | .ret,fr,kn,X,kr,a,w,hat,h=>wp_ret ⟨fr,hat,p_.refl w,h⟩
 | .rangeFunc ..,_,_,_,_,_,_,_,h=>h.elim
 | .scope _,_,_,_,_,_,_,_,h=>h.elim
 | .label _,_,_,_,_,_,_,_,h=>h.elim
 | .goto _,_,_,_,_,_,_,_,h=>h.elim
 | .refuse _,_,_,_,_,_,_,_,h=>h.elim
def FJ.mk{α:Type}(j:List Nat)(enc:α->List v_)(I:α->Aa->Prop)(m:α->Aa->Nat)
  (h0:Sh fr j λvs=>∃x,vs=enc x/\I x H)
  (F:∀(x:α) (H1:Aa) (k:Nat->v_),I x H1->Ji k fr (Jz c []) λr=>VM r j (enc x) λf=>
   wQ P ds E c f H1 (λd H'=>Lb (Jz c []) fr d (Sh d j λvs=>∃y,vs=enc y/\I y H'/\m y H'<m x H1)) X kr):FJ P ds E c fr H X kr:=by generalize Jz c []=G at F;refine⟨?_⟩;intro a w s L;subst L;have o:=h0;rw[Ik]at o;have⟨M,t,u⟩:=o;let J (n:Nat) (a':Act) (w':y_):Prop:=∃d x,AtX ds d a'/\p_ w w'/\HE (λ_=>undef) d G=HE (λ_=>undef) fr G/\j.map (rd d)=enc x/\I x w'.heap/\m x w'.heap=n;refine N7 J ?_ _ a w ⟨fr,M,s,p_.refl w,rfl,t,u,rfl⟩;rintro n N K ⟨f,O,p,b,v,z,A,rfl⟩;have h:=F O K.heap (rd f) A;rw[D9,KR,Ep v,<-z,IU j f]at h;refine Code.wp_mono ?_ (CJ c f _ X kr N K p h);intro e T Q g;cases e with|normal=>have⟨B,q,i,g⟩:=g;simp only[Qx,Lb,D9,Ik]at g;have⟨C,y,R,D,S⟩:=g;exact⟨m y Q.heap,S,B,y,q,b.trans i,C,R,D,rfl⟩|exit id=>exact EB.env b g|goto l=>exact EB.env b g|ret=>exact EB.env b g|panic c=>exact EB.env b g|outgrown=>exact g
def Bq.run{x:Code}
  (h:wQ P ds E x fr H (λb H'=>wQ P ds E y b H' kn X kr) X kr):Bq P ds E x y fr H kn X kr:=by refine⟨?_⟩;intro a w c d;subst d;exact MQ (CJ x fr _ X kr a w c h) λb a' e f _ g=>CJ y b kn X kr a' e f g
def Bq.cut{x:Code}{α:Type}(e:List Nat)(enc:α->List v_)(I:α->Aa->Prop)
  (h:wQ P ds E x fr H (λc H'=>Lb (Jz x []) fr c (Sh c e λvs=>∃y,vs=enc y/\I y H')) X kr)
  (k:∀(z:α) (H1:Aa) (d:Nat->v_),I z H1->Ji d fr (Jz x []) λf=>VM f e (enc z) λb=>wQ P ds E y b H1 kn X kr):Bq P ds E x y fr H kn X kr:=by generalize Jz x []=r at h k;refine⟨?_⟩;intro a w g l;subst l;refine MQ (CJ x fr _ X kr a w g h) λb m i n _ j=>?_;simp only[Lb,D9,Ik]at j;have⟨o,z,p,q⟩:=j;have h:=k z i.heap (rd b) q;rw[D9,KR,Ep o,<-p,IU e b]at h;exact CJ y b kn X kr m i n h
def V4{fn:Func}(b:AtX ds fr a)(h:Qb P fn.results.toList fr w.heap R):
  ∃v,(results fn a.tmps).run P w= .ok v w/\R v w.heap:=P0 (a:={tmps:=a.tmps,defers:=[]}) b.bare h
def Cv.of_vc{fn:Func}{a:Array v_}{E:v_->Aa->Prop}(n:P.funcs[f]?=zY fn)(o:fn.body=zY c)
  (i:∀w:y_,(callFunc f a).run P w= .ok (.enter f a) w)
  (h:Pk (a.toList++Ai5 (fn.ntmps-a.size) undef) λfr=>wQ P [] (λ_=>E) c fr H (λj H'=>Qb P fn.results.toList j H' R) [] (λj H'=>Qb P fn.results.toList j H' R)):
  Cv P f a H R E:=by intro w p;subst p;refine⟨i w,?_⟩;refine calls_of_wp n o ?_;rw[IL]at h;have m:AtX [] (a.toList++Ai5 (fn.ntmps-a.size) undef) {tmps:=a++AjO (fn.ntmps-a.size) undef,defers:=[]}:=⟨zZ,rfl⟩;refine Code.wp_mono ?_ (CJ c _ _ _ _ _ w m h);intro e a' k b;have fin:∀fr,AtX [] fr a'->p_ w k->Qb P fn.results.toList fr k.heap R->a'.defers=[]/\∃v,(results fn a'.tmps).run P k= .ok v k/\p_ w k/\R v k.heap:=by{intro fr g b d;have⟨v,q,r⟩:=V4 g d;exact⟨g.defers,v,q,b,r⟩};cases e with|normal=>have⟨fr,g,b,d⟩:=b;exact fin fr g b d|ret=>have⟨fr,g,b,d⟩:=b;exact fin fr g b d|exit id=>have⟨fr,g,b,d⟩:=b;exact d.elim|goto l=>have⟨fr,g,b,d⟩:=b;exact d.elim|panic c=>have⟨fr,g,d,x,s,t⟩:=b;exact⟨g.defers,d,x,s,t⟩|outgrown=>exact b.elim
def HK(P:w_)(rs:List ResultVar)(fr:Fr)(H:Aa):(List v_->Prop)->Prop:=
 List.rec (motive:=λ_=>(List v_->Prop)->Prop) (λR=>R []) (λr _ ih R=>match r with
  | .tmp t=>yL fr t λv=>ih λvs=>R (v::vs)
  | .cell a t=>yL fr a λp=>uE P t p H λv=>ih λvs=>R (v::vs)) rs
def MN(vs:List v_):v_:=match vs with
 | [v]=>v
 | vs=>.tuple vs.toArray
def Jq(tmps:Array v_)(r:ResultVar):Sem v_:=match r with
 | .tmp t=>pure (tmps.getD t undef)
 | .cell a t=>do loadVar t (<-asAddr (tmps.getD a undef))
def L5{P:w_}{fr:Fr}{a:Act}{w:y_}(b:At fr a):∀(c:List ResultVar) (R:List v_->Prop),HK P c fr w.heap R->
  ∃vs:List v_,(c.mapM (Jq a.tmps)).run P w= .ok vs w/\R vs
 | [],R,h=>⟨[],by simp,h⟩
 | .tmp t::c,R,h=>by
   have e:yL fr t (λv=>HK P c fr w.heap λvs=>R (v::vs)):=h;rw[EM]at e;have⟨vs,i,f⟩:=L5 b c _ e;have d:a.tmps.getD t undef=rd fr t:=b.eval (.tmp t);have g:(Jq a.tmps (.tmp t)).run P w= .ok (rd fr t) w:=by simp[Jq,d]
   refine⟨rd fr t::vs,?_,f⟩;rw[gA,Sem.run_bind,g];simp only[Result.andThen_ok,Sem.run_bind,i,Sem.run_pure]
 | .cell x t::c,R,h=>by
   have e:yL fr x (λp=>uE P t p w.heap λv=>HK P c fr w.heap λvs=>R (v::vs)):=h;rw[EM]at e;have⟨p,v,j,k,f⟩:=Hr e;have⟨vs,l,m⟩:=L5 b c _ f;have d:a.tmps.getD x undef=rd fr x:=b.eval (.tmp x);have g:(Jq a.tmps (.cell x t)).run P w= .ok v w:=by simp[Jq,d,j,asAddr,k]
   refine⟨v::vs,?_,m⟩;rw[gA,Sem.run_bind,g];simp only[Result.andThen_ok,Sem.run_bind,l,Sem.run_pure]
def Gj{fn:Func}{R:v_->Prop}(b:AtX ds fr a)(h:HK P fn.results.toList fr w.heap λvs=>R (MN vs)):
  ∃v,(results fn a.tmps).run P w= .ok v w/\R v:=by
 have⟨vs,c,d⟩:=L5 (a:={tmps:=a.tmps,defers:=[]}) b.bare _ _ h;refine⟨MN vs,?_,d⟩;have e:results fn a.tmps=(do
  let vs <-fn.results.mapM (Jq a.tmps)
  pure (if h:vs.size=1 then vs[0]else .tuple vs)):=rfl
 have e2:(fn.results.mapM (Jq a.tmps)).run P w= .ok vs.toArray w:=by{rw[Array.mapM_eq_mapM_toList];have f:(List.toArray <$> fn.results.toList.mapM (Jq a.tmps))=(fn.results.toList.mapM (Jq a.tmps) >>= λl=>pure l.toArray):=rfl;rw[f,Sem.run_bind,c];simp};rw[e,Sem.run_bind,e2];simp only[Result.andThen_ok,Sem.run_pure];match vs with|[]=>rfl|[v]=>rfl|_::_::_=>rfl
def lU(o0 o1:Oper)(t0 t1:Nat):Prop:=(∃ats,o0.op= .call {callee:=.builtin .recover,args:= #[],argTypes:=ats})/\o0.guard=zV/\o0.dst=zY t0/\o1.op= .assign (.tmp t0)/\o1.guard=zV/\o1.dst=zY t1
inductive Ag3:FrameMode->FrameMode->v_->Prop
 | ret:Ag3 .returning .returning .nilIface
 | pan (x:v_):Ag3 (.panicking (pe x)) (.panicking [{v:=x,recovered:=zW}]) x
def IY{g:FuncId}{fn:Func}{D:Nat}{b i:Oper}{r N:Nat}{rest:Code}{a:Array v_}{u s:FrameMode}{R:Aa->Prop}(Q:P.funcs[g]?=zY fn)(S:fn.body=zY (.seq (.region D #[b,i] zU) rest))
  (T:lU b i r N) (U:Ag3 u s va) (z:fn.results= #[])
  (h:Pk (a.toList++Ai5 (fn.ntmps-a.size) undef) λfr=>yL fr r λ_=>yL (fr.set r va) r λv=>v=va/\xN fr r va λE=>xN E N va λF=>vc P rest F H (λ_ H'=>R H') [] (λ_ H'=>R H')):
  ∀w:y_,w.heap=H->CallsD P g a u w λe n d=>e= .returned (.tuple #[])/\n=s/\p_ w d/\R d.heap:=by
 intro w V;subst V;rw[IL]at h;simp only[EM,GR]at h;have⟨G,h⟩:=h;obtain⟨⟨W,X⟩,Y,I,Z,b4,O⟩:=T;refine callsD_of_wpS Q S ?_;intro j k J;let o:Act:={tmps:=a++AjO (fn.ntmps-a.size) undef,defers:=[]};have A:At (a.toList++Ai5 (fn.ntmps-a.size) undef) o:=⟨by simp[o],rfl⟩;refine wpS_seq (wpS_region ?_);have t:(execOp o.eval b).run P w= .ok .recover w:=by{simp only[execOp,X,resolve];simp[invoke,builtin]};have B:∀(C:Frame),{j with mode:=s}=C->wpOpsS P #[b,i] (Exit.thenS (rest.wpS P (bodyPostS P fn j k λe n d=>e= .returned (.tuple #[])/\n=s/\p_ w d/\R d.heap)) (bodyPostS P fn j k λe n d=>e= .returned (.tuple #[])/\n=s/\p_ w d/\R d.heap)) [1] (o.put b.dst va) (C::k) w:=by{intro C K;have p:=A.put b.dst va;have x:(execOp (o.put b.dst va).eval i).run P w= .ok (.value va) w:=by{rw[p.evalF,I];simp only[execOp,Z];have:yJ ((a.toList++Ai5 (fn.ntmps-a.size) undef).set r va) (.tmp r)=va:=G;simp[this]};have L:Region.wanted i (yielded #[b,i] (o.put b.dst va).tmps)=zW:=by{simp[Region.wanted,b4]};unfold wpOpsS;have g1:(#[b,i]:Array Oper)[1]?=zY i:=rfl;rw[g1];simp only[L,if_true,x];simp only[Oper.upon,wpOpsS,Exit.thenS];refine wpS_of_wp ?_;have q:=p.put i.dst va;rw[I,O]at q;rw[I,O];refine Code.wp_mono ?_ (CF rest _ _ _ _ _ w q h);intro e a' d f;have fin:∀fr,At fr a'->p_ w d->R d.heap->a'.defers=[]/\∃n,C::k={j with mode:=n}::k/\∃v,(results fn a'.tmps).run P d= .ok v d/\Ending.returned v= .returned (.tuple #[])/\n=s/\p_ w d/\R d.heap:=by{intro fr y f m;refine⟨y.defers,s,by rw[K],.tuple #[],?_,rfl,rfl,f,m⟩;simp[results,z]};cases e with|normal=>have⟨fr,y,f,m⟩:=f;exact fin fr y f m|ret=>have⟨fr,y,f,m⟩:=f;exact fin fr y f m|exit id=>have⟨fr,y,f,m⟩:=f;exact m.elim|goto l=>have⟨fr,y,f,m⟩:=f;exact m.elim|panic c=>exact f.elim|outgrown=>exact f.elim};have M:Region.wanted b (yielded #[b,i] o.tmps)=zW:=by simp[Region.wanted,Y]
 show wpOpsS P #[b,i] _ [0,1] o (j::k) w;unfold wpOpsS;have g0:(#[b,i]:Array Oper)[0]?=zY b:=rfl;rw[g0];simp only[M,if_true,t];cases U with|ret=>have:recoverD (j::k)=zV:=by{simp[recoverD,J]};rw[this];exact B j (by rw[<-J])|pan=>{have:recoverD (j::k)=zY (va,{j with mode:=.panicking [{v:=va,recovered:=zW}]}::k):=by{simp[recoverD,J]};rw[this];exact B _ rfl}
structure Gk(P:w_)(g:FuncId)(args:Array v_)(u u':FrameMode)(H:Aa)(K:Aa->Prop):Prop where
 in_::
 out_:∀w:y_,w.heap=H->CallsD P g args u w λe u2 w'=>e= .returned (.tuple #[])/\u2=u'/\p_ w w'/\K w'.heap
def Gk.mk{g:FuncId}{a:Array v_}{u c:FrameMode}{K R:Aa->Prop}(h:∀w:y_,w.heap=H->CallsD P g a u w λe d b=>e= .returned (.tuple #[])/\d=c/\p_ w b/\R b.heap)(k:∀H',R H'->K H'):Gk P g a u c H K:=
 ⟨λw f=>(h w f).mono λe d b ⟨i,j,l,m⟩=>⟨i,j,l,k _ m⟩⟩
def mZ(o1 o2:Oper)(tc:Nat)(g:FuncId)(cap:Array z_):Prop:=
 o1.op= .makeFunc (.func g) #[] cap/\o1.guard=zV/\o1.dst=zY tc/\(∃ats,o2.op= .defer {callee:=.value (.tmp tc),args:= #[],argTypes:=ats})/\o2.guard=zV/\o2.dst=zV
abbrev qM(g:FuncId)(vs:List v_):Deferred:={target:=.fn (.func g) vs.toArray,args:= #[]}
def Aj.of_defer{fn:Func}{Y A B:Code}{Z:Nat}{r t:Oper}{y:Nat}{g:FuncId}{cap:Array z_}{b:Array v_}(hf:P.funcs[f]?=zY fn)
  (hb:fn.body=zY (.seq Y (.seq A (.seq (.region Z #[r,t] zU) B)))) (D:∀w:y_,(callFunc f b).run P w= .ok (.enter f b) w) (hD:mZ r t y g cap) (hg:∀(vs:Array v_) (w:y_),(callFunc g vs).run P w= .ok (.enter g vs) w)
  (h:Pk (b.toList++Ai5 (fn.ntmps-b.size) undef) λfr=>
   vc P Y fr H (λL H1=>vc P A L H1 (λa H2=>Ja a cap.toList λvs=>xN a y (.func (.func g) #[] vs.toArray) λM=>yL M y λfv=>fv= .func (.func g) #[] vs.toArray/\
    wQ P [qM g vs] (λd x H4=>Gk P g vs.toArray (.panicking (pe x)) (.panicking [{v:=x,recovered:=zW}]) H4 λH5=>HK P fn.results.toList d H5 λj=>R (MN j) H5) B M H2
     (λd H4=>Gk P g vs.toArray .returning .returning H4 λH5=>HK P fn.results.toList d H5 λj=>R (MN j) H5) []
     (λd H4=>Gk P g vs.toArray .returning .returning H4 λH5=>HK P fn.results.toList d H5 λj=>R (MN j) H5))
    [] (λd H4=>HK P fn.results.toList d H4 λj=>R (MN j) H4)) [] (λd H4=>HK P fn.results.toList d H4 λj=>R (MN j) H4)):
  Aj P f b H R:=by
 intro w hw;subst hw;refine⟨D w,?_⟩;rw[IL]at h;obtain⟨d1,d2,d3,⟨a7,d4⟩,d5,d6⟩:=hD;refine calls_of_wp_defers hf hb ?_
 let a0:Act:={tmps:=b++AjO (fn.ntmps-b.size) undef,defers:=[]}
 have N:At (b.toList++Ai5 (fn.ntmps-b.size) undef) a0:=⟨by simp[a0],rfl⟩;have m:∀(fr:Fr) (a':Act) (k:y_),At fr a'->p_ w k->(HK P fn.results.toList fr k.heap λj=>R (MN j) k.heap)->Leaves P fn a'.tmps (λe k=>∃v,e= .returned v/\p_ w k/\R v k.heap) a'.defers .returning k:=by
  intro fr a' k q z h3;rw[q.defers];have⟨v,O,e2⟩:=Gj (fn:=fn) (ds:=[]) (R:=λv=>R v k.heap) ⟨q.tmps,q.defers⟩ h3;exact⟨v,O,v,rfl,z,e2⟩
 refine wp_seq (Code.wp_mono ?_ (CF Y _ _ _ _ a0 w N h));intro e a1 X q;cases e with
 | ret=>have⟨fr,Q,G,E⟩:=q;exact m fr a1 X Q G E
 | exit id=>have⟨fr,Q,G,E⟩:=q;exact E.elim
 | goto l=>have⟨fr,Q,G,E⟩:=q;exact E.elim
 | panic c=>exact q.elim
 | outgrown=>exact q.elim
 | normal=>
 have⟨L,Q,G,E⟩:=q;refine wp_seq (Code.wp_mono ?_ (CF A _ _ _ _ a1 X Q E));intro e I F z;cases e with
 | ret=>have⟨fr,J,S,n⟩:=z;exact m fr I F J (G.trans S) n
 | exit id=>have⟨fr,J,S,n⟩:=z;exact n.elim
 | goto l=>have⟨fr,J,S,n⟩:=z;exact n.elim
 | panic c=>exact z.elim
 | outgrown=>exact z.elim
 | normal=>
 have⟨a,J,S,n⟩:=z;have n:Ja a cap.toList _:=n;rw[K6]at n;simp only[GR,EM]at n;have⟨m4,m5⟩:=n;have T:=G.trans S;have a3:(execOp I.eval r).run P F= .ok (.value (.func (.func g) #[] (cap.toList.map (yJ a)).toArray)) F:=by
  rw[J.evalF];simp only[execOp,d1];simp only[<-sL,Array.toArray_toList];simp[Instr.makeFunc]
 have i:=J.put r.dst (.func (.func g) #[] (cap.toList.map (yJ a)).toArray);rw[d3]at i;have a4:(execOp (I.put r.dst (.func (.func g) #[] (cap.toList.map (yJ a)).toArray)).eval t).run P F= .ok (.defer (qM g (cap.toList.map (yJ a)))) F:=by
  rw[d3,i.evalF];simp only[execOp,d4,resolve];have:yJ (a.set y (.func (.func g) #[] (cap.toList.map (yJ a)).toArray)) (.tmp y)= .func (.func g) #[] (cap.toList.map (yJ a)).toArray:=m4;simp[this,Deferred.ofValue]
 refine wp_seq (wp_region_lit (l:=[r,t]) ?_);have X:Region.wanted r (yielded #[r,t] I.tmps)=zW:=by simp[Region.wanted,d2]
 have a6:∀tm,Region.wanted t (yielded #[r,t] tm)=zW:=λtm=>by simp[Region.wanted,d5]
 unfold wpList;simp only[X,if_true];refine .inl ?_;unfold Oper.wp;rw[a3];simp only[Oper.upon];unfold wpList;simp only[a6,if_true];refine .inl ?_;unfold Oper.wp;rw[a4];simp only[Oper.upon,wpList,Exit.then];rw[d3];have U:AtX [qM g (cap.toList.map (yJ a))] (a.set y (.func (.func g) #[] (cap.toList.map (yJ a)).toArray)) ({(I.put (zY y) (.func (.func g) #[] (cap.toList.map (yJ a)).toArray))with defers:=qM g (cap.toList.map (yJ a))::(I.put (zY y) (.func (.func g) #[] (cap.toList.map (yJ a)).toArray)).defers}.put t.dst undef):=by
  rw[d6];exact⟨i.tmps,by show _::_=_;rw[i.defers]⟩
 refine Code.wp_mono ?_ (CJ B _ _ _ _ _ F U m5);intro e V C K;have W:∀w:y_,(invoke (.fn (.func g) (cap.toList.map (yJ a)).toArray) #[]).run P w= .ok (.enter g (cap.toList.map (yJ a)).toArray) w:=λw=>by
  simp only[invoke];rw[Array.empty_append];exact hg _ w
 have fin:∀fr,AtX [qM g (cap.toList.map (yJ a))] fr V->p_ F C->(Gk P g (cap.toList.map (yJ a)).toArray .returning .returning C.heap λH5=>HK P fn.results.toList fr H5 λj=>R (MN j) H5)->
   Leaves P fn V.tmps (λe k=>∃v,e= .returned v/\p_ w k/\R v k.heap) V.defers .returning C:=by
  intro fr o s p;rw[o.defers];refine leaves_cons (λh=>by cases h) (W C) ((p.out_ C rfl).mono ?_);rintro e u w6 ⟨rfl,rfl,q1,q2⟩;have⟨v,O,e2⟩:=Gj (fn:=fn) (R:=λv=>R v w6.heap) o q2;exact⟨v,O,v,rfl,(T.trans s).trans q1,e2⟩
 cases e with
 | normal=>have⟨fr,o,s,p⟩:=K;exact fin fr o s p
 | ret=>have⟨fr,o,s,p⟩:=K;exact fin fr o s p
 | exit id=>have⟨fr,o,s,p⟩:=K;exact p.elim
 | goto l=>have⟨fr,o,s,p⟩:=K;exact p.elim
 | outgrown=>exact K.elim
 | panic c=>
   obtain⟨fr,o,s,x,rfl,p⟩:=K;show Leaves P fn V.tmps _ V.defers (.panicking (pe x)) C;rw[o.defers];refine leaves_cons (λh=>by cases h) (W C) ((p.out_ C rfl).mono ?_);rintro e u w6 ⟨rfl,rfl,q1,q2⟩;have⟨v,O,e2⟩:=Gj (fn:=fn) (R:=λv=>R v w6.heap) o q2;exact⟨v,O,v,rfl,(T.trans s).trans q1,e2⟩
def kM:ResultVar->Nat
 | .tmp t=>t
 | .cell a _=>a
def QE{d t:Nat}(h:d≠t):rd (fr.set d v) t=rd fr t:=by unfold rd;rw[xE,xE,xC h]
def P1{P:w_}{fr:Fr}{d:Nat}{v:v_}{H:Aa}:∀{b:List ResultVar} {R:List v_->Prop},(∀r∈b,d≠kM r)->HK P b (fr.set d v) H R->HK P b fr H R
 | [],R,_,h=>h
 | .tmp t::b,R,hd,h=>by
   have c:yL (fr.set d v) t (λa=>HK P b (fr.set d v) H λvs=>R (a::vs)):=h;show yL fr t (λa=>HK P b fr H λvs=>R (a::vs));rw[EM]at c ⊢;have f:d≠t:=hd _ xY;rw[QE f]at c;exact P1 (λr g=>hd r (xQ _ g)) c
 | .cell x t::b,R,hd,h=>by
   have c:yL (fr.set d v) x (λp=>uE P t p H λa=>HK P b (fr.set d v) H λvs=>R (a::vs)):=h;show yL fr x (λp=>uE P t p H λa=>HK P b fr H λvs=>R (a::vs));rw[EM]at c ⊢;have f:d≠x:=hd _ xY;rw[QE f]at c;have e:(λa=>HK P b (fr.set d v) H λvs=>R (a::vs))=λa=>HK P b (fr.set d v) H λvs=>R (a::vs):=rfl;revert c;unfold uE;generalize rd fr x=p;intro c;split at c
   ·have⟨a,i,e2⟩:=c.out_;exact⟨⟨a,i,P1 (λr g=>hd r (xQ _ g)) e2⟩⟩
   ·exact c.elim
def UI{g:FuncId}{b:List ResultVar}{l:List Oper}(e:(l.all λo=>match o.dst with | none=>zW | some d=>b.all λr=> !(d==kM r))=zW):
  VN (λa x H4=>Gk P g vs (.panicking (pe x)) (.panicking [{v:=x,recovered:=zW}]) H4 λH5=>HK P b a H5 λf=>R (MN f) H5) l:=by intro o i d j fr v x H h;have c:=zM.1 e o i;rw[j]at c;refine Gk.mk h.out_ λH' k=>P1 (λr m=>?_) k;have:=zM.1 c r m;simpa using this
def Aj.of_vcL{fn:Func}{a:Array v_}(p:P.funcs[f]?=zY fn)(q:fn.body=zY c)
  (j:∀w:y_,(callFunc f a).run P w= .ok (.enter f a) w)
  (h:Pk (a.toList++Ai5 (fn.ntmps-a.size) undef) λfr=>vc P c fr H (λk H'=>HK P fn.results.toList k H' λm=>R (MN m) H') [] (λk H'=>HK P fn.results.toList k H' λm=>R (MN m) H')):
  Aj P f a H R:=by intro w r;subst r;refine⟨j w,?_⟩;refine calls_of_wp p q ?_;rw[IL]at h;have n:At (a.toList++Ai5 (fn.ntmps-a.size) undef) {tmps:=a++AjO (fn.ntmps-a.size) undef,defers:=[]}:=⟨zZ,rfl⟩;refine Code.wp_mono ?_ (CF c _ _ _ _ _ w n h);intro e a' i b;have fin:∀fr,At fr a'->p_ w i->(HK P fn.results.toList fr i.heap λm=>R (MN m) i.heap)->a'.defers=[]/\∃v,(results fn a'.tmps).run P i= .ok v i/\∃o,Ending.returned v= .returned o/\p_ w i/\R o i.heap:=by{intro fr d b g;have⟨v,s,t⟩:=Gj (fn:=fn) (ds:=[]) (R:=λv=>R v i.heap) ⟨d.tmps,d.defers⟩ g;exact⟨d.defers,v,s,v,rfl,b,t⟩};cases e with|normal=>have⟨fr,d,b,g⟩:=b;exact fin fr d b g|ret=>have⟨fr,d,b,g⟩:=b;exact fin fr d b g|exit id=>have⟨fr,d,b,g⟩:=b;exact g.elim|goto l=>have⟨fr,d,b,g⟩:=b;exact g.elim|panic c=>exact b.elim|outgrown=>exact b.elim
section
variable{α:Type}
def oS{ps qs:List α}{p:α}(h:ps[i]?=zY p):(ps++qs)[i]?=zY p:=by rw[zR (V_.1 h).1];exact h
def oT{ps qs:List α}{p q:α}(h:ps[i]?=zY p):(ps++qs).set i q=ps.set i q++qs:=hV _ _ (V_.1 h).1
def S_(ps l:List α)(j:Nat):(ps++l)[ps.length+j]?=l[j]? :=by rw[zL (oK _ _)];congr 1;omega
def N'(ps l:List α)(j:Nat)(x:α):(ps++l).set (ps.length+j) x=ps++l.set j x:=by rw[tM _ _ (oK _ _)];congr 2;omega
def uY{ps:List α}{p q:α}(h:ps[i]?=zY p):(ps.set i q)[i]?=zY q:=yP (V_.1 h).1
def lF{ps:List α}{p:α}(h:ps[i]?=zY p):ps.set i p=ps:=by refine yW λj=>?_;by_cases a:i=j;{subst a;rw[uY h,h]};{rw[xC a]}
def Ft(ps l:List α):(ps++l)[ps.length]?=l[0]? :=S_ ps l 0
def TE(ps l:List α)(x:α):(ps++l).set ps.length x=ps++l.set 0 x:=N' ps l 0 x
end
def B_.lft{qs:List Pc}(a:B_ B H0 H (ps++qs)):B_ B H0 H ps:=
 ⟨a.old,a.lt0,a.size,λp b=>a.oks p (yS _ b),λp b=>a.rng p (yS _ b),(sD.1 a.dis).1⟩
def B_.subl{qs:List Pc}(a:B_ B H0 H ps)(h:List.Sublist qs ps):B_ B H0 H qs:=
 ⟨a.old,a.lt0,a.size,λp b=>a.oks p (h.subset b),λp b=>a.rng p (h.subset b),a.dis.sublist h⟩
section
variable{l:List v_}{t o:Nat}{K:Aa->Prop}
def BC(f:B_ B H0 H ps)(i:Nat)(m:(P.info? t).map (·.size)=zY cs.length)(g:ps[i]?=zY (pB e b l))(n:o+cs.length<=l.length)(p:cs.all (·.oneCell')=zW)
  (k:∀H',B_ B H0 H' (ps.set i (pB e b (Ak l o cs)))->C_ (λk=>k≠b) H H'->H'.size=H.size->K H'):Dm P (Instr.storeAt t (.pointer (zY ⟨b,o,zV⟩)) (.agg cs.toArray)) H K:=by refine wM m (f.at_ i g) n p ?_;intro H' h a c;exact k H' (f.upd i g (a.mono λk d j=>d.2 j) _ h (λk d=>.inl d) (λk d=>by rw[c];exact(f.in_ i g d).2) zO) a c
def WW(f:B_ B H0 H ps)(i:Nat)(m:Cf P t)(g:ps[i]?=zY (pB e b l))(n:o<l.length)(p:v.oneCell'=zW)
  (k:∀H',B_ B H0 H' (ps.set i (pB e b (l.set o v)))->C_ (λk=>k≠b) H H'->H'.size=H.size->K H'):Dm P (Instr.storeAt t (.pointer (zY ⟨b,o,zV⟩)) v) H K:=by refine tQ m (f.at_ i g) n p ?_;intro H' h a c;exact k H' (f.upd i g (a.mono λk d j=>d.2 j) _ h (λk d=>.inl d) (λk d=>by rw[c];exact(f.in_ i g d).2) zO) a c
end
def AT{l:List v_}(h:cs.length=l.length):Ak l 0 cs=cs:=by unfold Ak;simp[h]
open Go.Lib
def bt(t:ByteArray)(i:Nat):Nat:=match t.data[i]? with
 | some b=>b.toNat
 | none=>256
def DQ(h:i<t.size):∃b,t.data[i]?=zY b/\bt t i=b.toNat/\bt t i<256:=by have a:i<t.data.size:=h;refine⟨t.data[i],tU a,?_,?_⟩;{unfold bt;rw[tU a]};{unfold bt;rw[tU a];exact UInt8.toNat_lt _}
def CX(h:¬i<t.size):bt t i=256:=by have a:¬i<t.data.size:=h;unfold bt;rw[Array.getElem?_eq_none zO]
def Ei(h:bt t i≠256):i<t.size:=by apply Classical.byContradiction;intro a;exact h (CX a)
def Ef(c:Nat):Option Nat:=if 48<=c/\c<=57 then zY (c-48)else if 97<=c/\c<=102 then zY (c-87)else zV
def Jj{c v:Nat}(h:Ef c=zY v):v<16:=by unfold Ef at h;split at h;{cases h;omega};{split at h;{cases h;omega};{cases h}}
def Ad5:ByteArray:=⟨#[48,49,50,51,52,53,54,55,56,57,97,98,99,100,101,102]⟩
def Ve(c:Nat)(a:c<256):indexByte Ad5.data.toList (UInt8.ofNat c)=match Ef c with | some v=>(v:Int) | none=> -1:=by
 have:∀c:Fin 256,indexByte Ad5.data.toList (UInt8.ofNat c.1)=match Ef c.1 with | some v=>(v:Int) | none=> -1:=by decide+kernel
 exact this ⟨c,a⟩
def IE(t:ByteArray)(i:Nat):Sum Nat (Nat×Nat):=
 if bt t i=256 then .inl i else if bt t i=110 then .inr (10,i+1)else if bt t i=114 then .inr (13,i+1)else if bt t i=116 then .inr (9,i+1)
 else if bt t i=120 then match Ef (bt t (i+1))with
  | none=>.inl (i+1)
  | some a=>match Ef (bt t (i+2))with
    | none=>.inl (i+2)
    | some b=>.inr (16*a+b,i+3)
 else if bt t i<32\/126<bt t i\/(48<=bt t i/\bt t i<=57)\/(97<=bt t i/\bt t i<=122)\/(65<=bt t i/\bt t i<=90)then .inl i else .inr (bt t i,i+1)
def BW(t s:ByteArray)(i:Nat):Sum Nat (Nat×Nat):=
 if bt t i=92 then IE t (i+1)else if bt t i<32\/126<bt t i\/wW s (bt t i)=zW then .inl i else .inr (bt t i,i+1)
def IC(t:ByteArray)(lo j:Nat)(x:BitVec 256)(f:Nat->BitVec 256->Sum Nat (BitVec 256×Nat)):Sum Nat (BitVec 256×Nat):=
 if bt t j=45 then(match BW t E6 (j+1)with
  | .inl e=>.inl e
  | .inr (hi,k)=>if hi<lo then .inl (j+1)else f k (x ||| AL lo hi))
 else f j (x ||| AL lo lo)
def DD(t:ByteArray):Nat->Nat->BitVec 256->Sum Nat (BitVec 256×Nat)
 | 0,i,_=>.inl i
 | n+1,i,x=>if bt t i=93 then .inr (x,i+1)else match BW t E6 i with
   | .inl e=>.inl e
   | .inr (lo,j)=>IC t lo j x (DD t n)
def JM(t:ByteArray)(i:Nat):Sum Nat (BitVec 256×Nat):=
 match DD t (t.size+1) (if bt t i=94 then i+1 else i) 0#256 with
 | .inl e=>.inl e
 | .inr (x,k)=>.inr (if bt t i=94 then ~~~x else x,k)
def Cc(t:ByteArray)(i:Nat):Sum Nat (BitVec 256×Nat):=
 if bt t i=46 then .inr (~~~(AL 10 10),i+1)else if bt t i=91 then JM t (i+1)else match BW t FA i with
 | .inl e=>.inl e
 | .inr (b,k)=>.inr (AL b b,k)
def dA{c:Nat}(h:IE t i= .inr (c,j)):c<256/\i<j/\j<=t.size:=by unfold IE at h;split at h;{cases h};{rename_i f;have g:=Ei f;obtain⟨b,-,-,l⟩:=DQ g;split at h;{cases h;omega};{split at h;{cases h;omega};{split at h;{cases h;omega};{split at h;{split at h;{cases h};{rename_i a k;split at h;{cases h};{rename_i m d;cases h;have n:=Jj k;have o:=Jj d;have p:i+2<t.size:=Ei λe=>by{rw[e]at d;cases d};omega}}};{split at h;{cases h};{cases h;omega}}}}}}
def DN{s:ByteArray}{c:Nat}(h:BW t s i= .inr (c,j)):c<256/\i<j/\j<=t.size:=by unfold BW at h;split at h;{have:=dA h;omega};{split at h;{cases h};{rename_i a;cases h;have d:i<t.size:=Ei λe=>a (.inr (.inl zO));obtain⟨b,-,-,f⟩:=DQ d;omega}}
def RR{t:ByteArray}:∀{n i:Nat} {x y:BitVec 256} {k:Nat},DD t n i x= .inr (y,k)->i<k/\k<=t.size
 | 0,i,x,y,k,h=>by cases h
 | n+1,i,x,y,k,h=>by
   unfold DD at h;split at h
   ·rename_i d;cases h;have a:i<t.size:=Ei λe=>zO
    omega
   ·split at h
    ·cases h
    ·rename_i lo j b;have:=DN b;unfold IC at h;split at h
     ·split at h
      ·cases h
      ·rename_i a f c;have:=DN c;split at h
       ·cases h
       ·have:=RR h;omega
     ·have:=RR h;omega
def L3{y:BitVec 256}{k:Nat}(h:Cc t i= .inr (y,k)):i<k/\k<=t.size:=by unfold Cc at h;split at h;{rename_i d;cases h;have f:i<t.size:=Ei λe=>zO;omega};{split at h;{unfold JM at h;split at h;{cases h};{rename_i x c a;cases h;have:=RR a;split at this<;>omega}};{split at h;{cases h};{rename_i b c a;cases h;have:=DN a;omega}}}
def GU:prog.underlying 9=zY .string:=rfl
abbrev qW(t:ByteArray)(i:Nat):List v_:=[.string t,A_ i]
abbrev yA(r:Nat)(t:ByteArray)(i:Nat):Pc:=pB 357 r (qW t i)
def Fg(c i:Nat):v_:=.iface 68 (.agg #[A_ c,A_ i,.string ⟨#[]⟩])
def Kh{r:Nat}(a:R_ H r 357 (qW t i)):BZ prog 245 #[Y_ r] H (.tuple #[.int .u8 (if bt t i=256 then 0 else(bt t i:Int)),.bool (zT (bt t i≠256))]):=by refine Aj.of_vc func245 rfl (call245 _) (Ap.lex rfl zX (F_ AU ?_));refine D_ (v:=A_ i) E_ (by rw[a.cell];rfl) zA ?_;refine F_ RE ?_;refine D_ (v:=.string t) tR (by rw[a.cell];rfl) zA ?_;by_cases e:i<t.size;{have⟨b,f,c,g⟩:=DQ e;have d:zT ((i:Int)<(t.size:Int))=zW:=l_;(conv=>whnf);rw[d];refine Ap.lex rfl zX (F_ RE ?_);refine D_ (v:=.string t) tR (by rw[a.cell];rfl) zA ?_;refine F_ AU ?_;refine D_ (v:=A_ i) E_ (by rw[a.cell];rfl) zA ?_;refine ED GU rfl f ?_;(conv=>whnf);refine⟨?_,C_.refl _ _⟩;rw[G_ zO,l_,c]};{have c:=CX e;have d:zT ((i:Int)<(t.size:Int))=zU:=Z_;(conv=>whnf);rw[d];(conv=>whnf);refine⟨?_,C_.refl _ _⟩;rw[I_ c,Z_]}
def Ea{r:Nat}{e:Nat}:Cv prog 246 #[Y_ r,A_ e] H (λ_ _=>False) (λx H'=>x=Fg 10 e/\H'=H):=by refine Cv.of_vc func246 rfl (call246 _) (Az underlying68 rfl _ rfl [A_ 10,A_ e,.string ⟨#[]⟩] rfl ?_);(conv=>whnf);exact⟨rfl,rfl⟩
def Ds{α:Type}{ps:List α}{p:α}(h:ps[i]?=zY p):ps.set i p=ps:=by refine yW λj=>?_;by_cases a:i=j;{subst a;rw[yP (V_.1 h).1,h]};{rw[xC a]}
def KL{α:Type}{ps:List α}{p q:α}(h:ps[i]?=zY p):(ps.set i q)[i]?=zY q:=yP (V_.1 h).1
def jH{k r:Nat}(u:t.size<=1152921504606846976)(m:B_ B H0 H ps)(d:ps[k]?=zY (yA r t i)):
  Cv prog 248 #[Y_ r] H (λv H'=>∃c:Nat,Ef (bt t i)=zY c/\v= .int .u8 (c:Int)/\B_ B H0 H' (ps.set k (yA r t (i+1))))
   (λx H'=>Ef (bt t i)=zV/\x=Fg 10 i/\B_ B H0 H' (ps.set k (yA r t i))):=by refine Cv.of_vc func248 rfl (call248 _) (Ao.of (Al (Kh (m.blk k d)) λH1 g=>?_));have J_:=m.call g;by_cases f:bt t i=256;{rw[I_ f,Z_];refine Ao.of (Al (RK Ad5 0 H1) λH2 e=>?_);have a:=J_.call e;refine Bq.run (F_ AU ?_);refine lT (v:=A_ i) E_ ((a.blk k d).ce rfl) ?_;refine Ao.mk Ea (λ_ _ h=>h.elim) ?_;rintro _ _ ⟨rfl,rfl⟩;exact⟨by rw[f];rfl,rfl,by rw[Ds d];exact a⟩};{have n:=Ei f;have⟨b,o,p,j⟩:=DQ n;rw[G_ f,l_];refine Ao.of (Al (RK Ad5 (bt t i) H1) λH2 e=>?_);have a:=J_.call e;rw[Ve _ j];cases q:Ef (bt t i)with|none=>refine Bq.run (F_ AU ?_);refine lT (v:=A_ i) E_ ((a.blk k d).ce rfl) ?_;refine Ao.mk Ea (λ_ _ h=>h.elim) ?_;rintro _ _ ⟨rfl,rfl⟩;exact⟨rfl,rfl,by rw[Ds d];exact a⟩|some c=>have w:=Jj q;have s:zT ((c:Int)<0)=zU:=Z_;refine Bq.run ?_;(conv=>whnf);rw[s];refine F_ AU ?_;refine lT (v:=A_ i) E_ ((a.blk k d).ce rfl) ?_;(conv=>whnf);rw[U_ (x:=(i:Int)+1) zO];refine F_ AU (AZ a k E_ d zZ rfl λH3 l=>?_);(conv=>whnf);rw[w8 (x:=(c:Int)) zO zO];(conv=>whnf);exact⟨c,rfl,rfl,l⟩}
def Lr(c:It H0)(a:B 0)(b:B_ B H0 H ps):It H:=
 ⟨c.1.eq (b.old _ a),b.up a⟩
def lL{a:Nat}(c:b<16):a*2^4 ||| b=16*a+b:=by have:=Nat.two_pow_add_eq_or_of_lt (i:=4) (b:=b) (by simpa using c) a;rw[Nat.mul_comm a,<-this]
def Zm{k r:Nat}(hE:It H0)(K:B 0)(ht:t.size<=1152921504606846976)(st:B_ B H0 H ps)(g:ps[k]?=zY (yA r t i)):
  Cv prog 247 #[Y_ r] H (λv H'=>∃c j:Nat,IE t i= .inr (c,j)/\v= .int .u8 (c:Int)/\B_ B H0 H' (ps.set k (yA r t j)))
   (λx H'=>∃e j:Nat,IE t i= .inl e/\x=Fg 10 e/\B_ B H0 H' (ps.set k (yA r t j))):=by
 refine Cv.of_vc func247 rfl (call247 _) (Ao.of (Al (Kh (st.blk k g)) λH1 L=>?_));have J_:=st.call L;by_cases A:bt t i=256;{rw[I_ A,Z_];refine Bq.run ?_;(conv=>whnf);refine F_ AU ?_;refine lT (v:=A_ i) E_ ((J_.blk k g).ce rfl) ?_;refine Ao.mk Ea (λ_ _ h=>h.elim) ?_;rintro _ _ ⟨rfl,rfl⟩;exact⟨i,i,by unfold IE;rw[I_ A],rfl,by rw[Ds g];exact J_⟩};have hi:=Ei A;have⟨b,a9,D,C⟩:=DQ hi;rw[G_ A,l_];obtain⟨c,M⟩:∃c,c=bt t i:=⟨_,rfl⟩;rw[<-M]at A C ⊢;refine Bq.run (L_ (cs:=Zj) AiA (Lr hE K J_).1 zA ?_);(conv=>whnf);refine FJ.mk [22] (λn:Nat=>[A_ n]) (λn H1=>n<=3/\(∀j,j<n->(R1 j).1≠c)/\B_ B H0 H1 ps) (λn _=>3-n) ?_ ?_;{(conv=>whnf);exact⟨0,rfl,zO,λj I=>zO,J_⟩};{
 rintro n G N ⟨J,y,f⟩;refine AD.m2 (λhz=>?_) (λhz=>?_);{have O:Zj.toArray.extract (n*2) (n*2+2)= #[.int .u8 ((R1 n).1:Int),.int .u8 ((R1 n).2:Int)]:=by{have:n=0\/n=1\/n=2:=zO;rcases this with rfl | rfl | rfl<;>rfl};have P:(R1 n).1=c->IE t i= .inr ((R1 n).2,i+1):=λe=>by{have:n=0\/n=1\/n=2:=zO;unfold IE;rw[<-M,G_ A];rcases this with rfl | rfl | rfl<;>(subst e;rfl)};have ab:(R1 n).1<256/\(R1 n).2<256:=by{have:n=0\/n=1\/n=2:=zO;rcases this with rfl | rfl | rfl<;>decide};refine qR AiF Ai9 zO zO ?_;rw[zB,O];generalize hl:(R1 n).1=l at*;generalize (R1 n).2=v at*;refine Ag (.agg #[.int .u8 0,.int .u8 0]) [.int .u8 0,.int .u8 0] AiR rfl ?_;intro p2 H2 Q R D S;have T:=f.box Q R D S;refine A9 (cs:=[.int .u8 (l:Int),.int .u8 (v:Int)]) T ps.length rfl (by rw[zL (N_ _),wP];rfl) (N_ _) rfl λH3 s=>?_;rw[tM _ _ (N_ _),wP,Ai (by rfl)]at s;have C:R_ H3 p2 335 [.int .u8 (l:Int),.int .u8 (v:Int)]:=s.blk ps.length (by rw[zL (N_ _),wP];rfl);have E:(ps++[pB 335 p2 [.int .u8 (l:Int),.int .u8 (v:Int)]])[k]?=zY (yA r t i):=by{rw[zR (V_.1 g).1];exact g};have F:∀{H':Aa} {q:Pc},B_ B H0 H' ((ps++[pB 335 p2 [.int .u8 (l:Int),.int .u8 (v:Int)]]).set k q)->B_ B H0 H' (ps.set k q):=λh=>by{rw[hV _ _ (V_.1 g).1]at h;exact⟨h.old,h.lt0,h.size,λp g=>h.oks p (yS _ g),λp g=>h.rng p (yS _ g),(sD.1 h.dis).1⟩};(conv=>whnf);(try refine Bq.run ?_);refine F_ dK ?_;refine D_ (v:=.int .u8 (l:Int)) uX (by rw[C.cell];rfl) zA ?_;by_cases U:l=c;{have d:((l:Int)==(c:Int))=zW:=by{rw[U];exact beq_self_eq_true _};(conv=>whnf);rw[d];refine F_ AU ?_;refine lT (v:=A_ i) E_ ((s.blk k E).ce rfl) ?_;(conv=>whnf);rw[U_ (x:=(i:Int)+1) zO];refine F_ AU (AZ s k E_ E zZ rfl λH4 m=>?_);have V:R_ H4 p2 335 [.int .u8 (l:Int),.int .u8 (v:Int)]:=m.blk ps.length (by{rw[xC (by have:=(V_.1 g).1;omega),zL (N_ _),wP];rfl});refine F_ dL ?_;refine D_ (v:=.int .u8 (v:Int)) uX (by rw[V.cell];rfl) zA ?_;(conv=>whnf);exact⟨v,i+1,P U,rfl,F m⟩};{have d:((l:Int)==(c:Int))=zU:=beq_eq_false_iff_ne.2 zO;(conv=>whnf);rw[d];(conv=>whnf);rw[Q_ n zO];refine⟨rfl,n+1,rfl,⟨zO,λj I=>?_,⟨s.old,s.lt0,s.size,λp g=>s.oks p (yS _ g),λp g=>s.rng p (yS _ g),(sD.1 s.dis).1⟩⟩,zO⟩;rcases Nat.lt_or_eq_of_le (Nat.le_of_lt_succ I)with I | rfl;{exact y j I};{rw[hl];exact U}}};{
 obtain rfl:n=3:=zO
 have n0:(110:Nat)≠c:=y 0 zO;have n1:(114:Nat)≠c:=y 1 zO;have n2:(116:Nat)≠c:=y 2 zO;have o:IE t i=(if c=120 then match Ef (bt t (i+1))with
   | none=>.inl (i+1)
   | some a=>match Ef (bt t (i+2))with
     | none=>.inl (i+2)
     | some b=>.inr (16*a+b,i+3)
  else if c<32\/126<c\/(48<=c/\c<=57)\/(97<=c/\c<=122)\/(65<=c/\c<=90)then .inl i else .inr (c,i+1)):=by
  unfold IE;rw[<-M,G_ A,G_ (Ne.symm n0),G_ (Ne.symm n1),G_ (Ne.symm n2)]
 by_cases W:c=120;{rw[I_ W]at o;have d:((c:Int)==(120:Int))=zW:=by{rw[W];rfl};(conv=>whnf);(try refine Bq.run ?_);(conv=>whnf);rw[d];refine F_ AU ?_;refine lT (v:=A_ i) E_ ((f.blk k g).ce rfl) ?_;(conv=>whnf);rw[U_ (x:=(i:Int)+1) zO];refine F_ AU (AZ f k E_ g zZ rfl λH4 m=>?_);have X:(ps.set k (yA r t (i+1)))[k]?=zY (yA r t (i+1)):=KL g;replace m:B_ B H0 H4 (ps.set k (yA r t (i+1))):=m;refine Ao.mk (jH ht m X) ?_ ?_;{rintro _ H5 ⟨a,Y,rfl,u⟩;have ae:=Jj Y;rw[vD]at u;have Z:(ps.set k (yA r t (i+1+1)))[k]?=zY (yA r t (i+1+1)):=KL g;refine nQ (b:=4) zQ (Vg zO) (Ao.mk (jH ht u Z) ?_ ?_);{rintro _ H6 ⟨b2,z,rfl,w⟩;have a0:=Jj z;rw[vD]at w;refine rC (Vg zO) (Vg zO) ?_;rw[lL a0];(conv=>whnf);exact⟨16*a+b2,i+3,by rw[o,Y];show(match Ef (bt t (i+1+1))with | none=>_ | some b=>_)=_;rw[z],rfl,w⟩};{rintro _ H6 ⟨J,rfl,w⟩;rw[vD]at w;exact⟨i+2,i+2,by rw[o,Y];show(match Ef (bt t (i+1+1))with | none=>_ | some b=>_)=_;rw[J],rfl,w⟩}};{rintro _ H5 ⟨J,rfl,u⟩;rw[vD]at u;exact⟨i+1,i+1,by rw[o,J],rfl,u⟩}};{rw[G_ W]at o;have d:((c:Int)==(120:Int))=zU:=beq_eq_false_iff_ne.2 zO;(conv=>whnf);(try refine Bq.run ?_);(conv=>whnf);rw[d];clear d;refine Bq.run ?_;(conv=>whnf);by_cases a1:c<32;{skip;have d:zT ((c:Int)<32)=zW:=l_;(conv=>whnf);rw[d];clear d;(conv=>whnf);refine F_ AU ?_;refine lT (v:=A_ i) E_ ((f.blk k g).ce rfl) ?_;refine Ao.mk Ea (λ_ _ h=>h.elim) ?_;rintro _ _ ⟨rfl,rfl⟩;exact⟨i,i,by rw[o,I_ zO],rfl,by rw[Ds g];exact f⟩};{skip;have d:zT ((c:Int)<32)=zU:=Z_;(conv=>whnf);rw[d];clear d;by_cases a2:126<c;{skip;have d:zT ((c:Int)>126)=zW:=l_;(conv=>whnf);rw[d];clear d;(conv=>whnf);refine F_ AU ?_;refine lT (v:=A_ i) E_ ((f.blk k g).ce rfl) ?_;refine Ao.mk Ea (λ_ _ h=>h.elim) ?_;rintro _ _ ⟨rfl,rfl⟩;exact⟨i,i,by rw[o,I_ zO],rfl,by rw[Ds g];exact f⟩};{skip;have d:zT ((c:Int)>126)=zU:=Z_;(conv=>whnf);rw[d];clear d;by_cases a3:48<=c;{skip;have d:zT ((c:Int)>=48)=zW:=l_;(conv=>whnf);rw[d];clear d;by_cases a4:c<=57;{skip;have d:zT ((c:Int)<=57)=zW:=l_;(conv=>whnf);rw[d];clear d;(conv=>whnf);refine F_ AU ?_;refine lT (v:=A_ i) E_ ((f.blk k g).ce rfl) ?_;refine Ao.mk Ea (λ_ _ h=>h.elim) ?_;rintro _ _ ⟨rfl,rfl⟩;exact⟨i,i,by rw[o,I_ zO],rfl,by rw[Ds g];exact f⟩};{skip;have d:zT ((c:Int)<=57)=zU:=Z_;(conv=>whnf);rw[d];clear d;by_cases a5:97<=c;{skip;have d:zT ((c:Int)>=97)=zW:=l_;(conv=>whnf);rw[d];clear d;by_cases a6:c<=122;{skip;have d:zT ((c:Int)<=122)=zW:=l_;(conv=>whnf);rw[d];clear d;(conv=>whnf);refine F_ AU ?_;refine lT (v:=A_ i) E_ ((f.blk k g).ce rfl) ?_;refine Ao.mk Ea (λ_ _ h=>h.elim) ?_;rintro _ _ ⟨rfl,rfl⟩;exact⟨i,i,by rw[o,I_ zO],rfl,by rw[Ds g];exact f⟩};{skip;have d:zT ((c:Int)<=122)=zU:=Z_;(conv=>whnf);rw[d];clear d;have d:zT ((c:Int)>=65)=zW:=l_;(conv=>whnf);rw[d];clear d;have d:zT ((c:Int)<=90)=zU:=Z_;(conv=>whnf);rw[d];clear d;(conv=>whnf);refine F_ AU ?_;refine lT (v:=A_ i) E_ ((f.blk k g).ce rfl) ?_;(conv=>whnf);rw[U_ (x:=(i:Int)+1) zO];refine F_ AU (AZ f k E_ g zZ rfl λH4 m=>?_);(conv=>whnf);exact⟨c,i+1,by rw[o,G_ zO],rfl,m⟩}};{skip;have d:zT ((c:Int)>=97)=zU:=Z_;(conv=>whnf);rw[d];clear d;by_cases a7:65<=c;{skip;have d:zT ((c:Int)>=65)=zW:=l_;(conv=>whnf);rw[d];clear d;by_cases a8:c<=90;{skip;have d:zT ((c:Int)<=90)=zW:=l_;(conv=>whnf);rw[d];clear d;(conv=>whnf);refine F_ AU ?_;refine lT (v:=A_ i) E_ ((f.blk k g).ce rfl) ?_;refine Ao.mk Ea (λ_ _ h=>h.elim) ?_;rintro _ _ ⟨rfl,rfl⟩;exact⟨i,i,by rw[o,I_ zO],rfl,by rw[Ds g];exact f⟩};{skip;have d:zT ((c:Int)<=90)=zU:=Z_;(conv=>whnf);rw[d];clear d;(conv=>whnf);refine F_ AU ?_;refine lT (v:=A_ i) E_ ((f.blk k g).ce rfl) ?_;(conv=>whnf);rw[U_ (x:=(i:Int)+1) zO];refine F_ AU (AZ f k E_ g zZ rfl λH4 m=>?_);(conv=>whnf);exact⟨c,i+1,by rw[o,G_ zO],rfl,m⟩}};{skip;have d:zT ((c:Int)>=65)=zU:=Z_;(conv=>whnf);rw[d];clear d;(conv=>whnf);refine F_ AU ?_;refine lT (v:=A_ i) E_ ((f.blk k g).ce rfl) ?_;(conv=>whnf);rw[U_ (x:=(i:Int)+1) zO];refine F_ AU (AZ f k E_ g zZ rfl λH4 m=>?_);(conv=>whnf);exact⟨c,i+1,by rw[o,G_ zO],rfl,m⟩}}}};{skip;have d:zT ((c:Int)>=48)=zU:=Z_;(conv=>whnf);rw[d];clear d;have d:zT ((c:Int)>=97)=zU:=Z_;(conv=>whnf);rw[d];clear d;have d:zT ((c:Int)>=65)=zU:=Z_;(conv=>whnf);rw[d];clear d;(conv=>whnf);refine F_ AU ?_;refine lT (v:=A_ i) E_ ((f.blk k g).ce rfl) ?_;(conv=>whnf);rw[U_ (x:=(i:Int)+1) zO];refine F_ AU (AZ f k E_ g zZ rfl λH4 m=>?_);(conv=>whnf);exact⟨c,i+1,by rw[o,G_ zO],rfl,m⟩}}}}}}
def Jm{k r:Nat}{s:ByteArray}(I:It H0)(u:B 0)(J:t.size<=1152921504606846976)(E:B_ B H0 H ps)(d:ps[k]?=zY (yA r t i)):
  Cv prog 242 #[Y_ r,.string s] H (λv H'=>∃c j:Nat,BW t s i= .inr (c,j)/\v= .int .u8 (c:Int)/\B_ B H0 H' (ps.set k (yA r t j)))
   (λx H'=>∃e j:Nat,BW t s i= .inl e/\x=Fg 10 e/\B_ B H0 H' (ps.set k (yA r t j))):=by
 refine Cv.of_vc func242 rfl (call242 _) (Ao.of (Al (Kh (E.blk k d)) λH1 w=>?_));have J_:=E.call w;by_cases p:bt t i=256;{rw[I_ p,Z_];refine Bq.run ?_;(conv=>whnf);refine F_ AU ?_;refine lT (v:=A_ i) E_ ((J_.blk k d).ce rfl) ?_;refine Ao.mk Ea (λ_ _ h=>h.elim) ?_;rintro _ _ ⟨rfl,rfl⟩;exact⟨i,i,by unfold BW;rw[p,G_ zQ,I_ (.inr (.inl zQ))],rfl,by rw[Ds d];exact J_⟩};have K:=Ei p;have⟨b,L,M,y⟩:=DQ K;rw[G_ p,l_];obtain⟨c,z⟩:∃c,c=bt t i:=⟨_,rfl⟩;rw[<-z]at p y ⊢;by_cases n:c=92;{have f:((c:Int)==(92:Int))=zW:=by{rw[n];rfl};have o:BW t s i=IE t (i+1):=by{unfold BW;rw[<-z,I_ n]};(conv=>whnf);rw[f];refine F_ AU ?_;refine lT (v:=A_ i) E_ ((J_.blk k d).ce rfl) ?_;(conv=>whnf);rw[U_ (x:=(i:Int)+1) zO];refine F_ AU (AZ J_ k E_ d zZ rfl λH4 g=>?_);replace g:B_ B H0 H4 (ps.set k (yA r t (i+1))):=g;have A:(ps.set k (yA r t (i+1)))[k]?=zY (yA r t (i+1)):=KL d;refine Ao.mk (Zm I u J g A) ?_ ?_;{rintro _ H5 ⟨a,j,C,rfl,l⟩;rw[vD]at l;(conv=>whnf);exact⟨a,j,by rw[o];exact C,rfl,l⟩};{rintro _ H5 ⟨e,j,C,rfl,l⟩;rw[vD]at l;exact⟨e,j,by rw[o];exact C,rfl,l⟩}};have N:((c:Int)==(92:Int))=zU:=beq_eq_false_iff_ne.2 zO;have o:BW t s i=if c<32\/126<c\/wW s c=zW then .inl i else .inr (c,i+1):=by unfold BW;rw[<-z,G_ n]
 (conv=>whnf);rw[N];refine Bq.run ?_;(conv=>whnf);by_cases F:c<32;{skip;have f:zT ((c:Int)<32)=zW:=l_;(conv=>whnf);rw[f];clear f;(conv=>whnf);refine F_ AU ?_;refine lT (v:=A_ i) E_ ((J_.blk k d).ce rfl) ?_;refine Ao.mk Ea (λ_ _ h=>h.elim) ?_;rintro _ _ ⟨rfl,rfl⟩;exact⟨i,i,by rw[o,I_ zO],rfl,by rw[Ds d];exact J_⟩};{skip;have f:zT ((c:Int)<32)=zU:=Z_;(conv=>whnf);rw[f];clear f;by_cases G:126<c;{skip;have f:zT ((c:Int)>126)=zW:=l_;(conv=>whnf);rw[f];clear f;(conv=>whnf);refine F_ AU ?_;refine lT (v:=A_ i) E_ ((J_.blk k d).ce rfl) ?_;refine Ao.mk Ea (λ_ _ h=>h.elim) ?_;rintro _ _ ⟨rfl,rfl⟩;exact⟨i,i,by rw[o,I_ zO],rfl,by rw[Ds d];exact J_⟩};{skip;have f:zT ((c:Int)>126)=zU:=Z_;(conv=>whnf);rw[f];clear f;refine Ao.of (Al (RK s c H1) λH2 D=>?_);have m:=J_.call D;(conv=>whnf);rw[bM];cases q:wW s c with|true=>(conv=>whnf);refine F_ AU ?_;refine lT (v:=A_ i) E_ ((m.blk k d).ce rfl) ?_;refine Ao.mk Ea (λ_ _ h=>h.elim) ?_;rintro _ _ ⟨rfl,rfl⟩;exact⟨i,i,by rw[o,I_ (.inr (.inr q))],rfl,by rw[Ds d];exact m⟩|false=>(conv=>whnf);refine F_ AU ?_;refine lT (v:=A_ i) E_ ((m.blk k d).ce rfl) ?_;(conv=>whnf);rw[U_ (x:=(i:Int)+1) zO];refine F_ AU (AZ m k E_ d zZ rfl λH4 g=>?_);(conv=>whnf);exact⟨c,i+1,by rw[o,G_ (by rw[q];simp;omega)],rfl,g⟩}}
def B8(a:ReM):ReM:=.alt a .eps
def YQ(q:Option ReM)(p:ReM):ReM:=match q with
 | none=>p
 | some q=>.cat q p
def Cr(a:ReM)(m:Nat):Nat->Option ReM
 | 0=>zV
 | k+1=>zY (YQ (Cr a m k) (if k<m then a else B8 a))
def C3(a:ReM)(m:Nat)(n:Int):ReM:=
 if n<0 then(if m=0 then .star a else .cat ((Cr a m m).getD .eps) (.star a))else if n=0 then .eps else(Cr a m n.toNat).getD .eps
structure AF where
 place:Int
 alt:Option ReM
 meet:Option ReM
 sign:Nat
 row:Option ReM
 factor:Option ReM
def AG(f:AF):AF:=match f.factor with
 | none=>f
 | some p=>{f with row:=zY (YQ f.row p),factor:=zV}
def CQ(f:AF):AF:=
 let g:=AG f
 let r:=g.row.getD .eps
 {g with meet:=zY (match g.meet with | none=>r | some q=>if g.sign=38 then .and_ q r else .minus q r),row:=zV}
def Dj(f:AF):AF:=
 let g:=CQ f
 let r:=g.meet.getD .eps
 {g with alt:=zY (match g.alt with | none=>r | some q=>.alt q r),meet:=zV}
def F5(place:Int):AF:=⟨place,zV,zV,0,zV,zV⟩
def EG(t:ByteArray)(i:Nat):Bool:=zT (48<=bt t i/\bt t i<=57)
def Cm(t:ByteArray):Nat->Nat->Nat->Nat×Nat
 | 0,i,v=>(v,i)
 | k+1,i,v=>if EG t i then Cm t k (i+1) (10*v+(bt t i-48))else(v,i)
def upM(t:ByteArray)(m i:Nat):Sum (Nat×Nat) (Int×Nat):=
 if bt t i=44 then(if bt t (i+1)=125 then .inr (-1,i+1)else if EG t (i+1)then .inr (((Cm t 3 (i+1) 0).1:Int),(Cm t 3 (i+1) 0).2)else .inl (20,i+1))else .inr ((m:Int),i)
def GK(t:ByteArray)(from_ m:Nat)(n:Int)(i:Nat):Sum (Nat×Nat) (Nat×Int×Nat):=
 if bt t i=125 then(if 255<m\/255<n\/(0<=n/\n<(m:Int))then .inl (22,from_)else .inr (m,n,i+1))else .inl (20,i)
def C0(t:ByteArray)(from_:Nat):Sum (Nat×Nat) (Nat×Int×Nat):=
 if EG t (from_+1)then(match upM t (Cm t 3 (from_+1) 0).1 (Cm t 3 (from_+1) 0).2 with
  | .inl e=>.inl e
  | .inr (n,i)=>GK t from_ (Cm t 3 (from_+1) 0).1 n i)
 else .inl (20,from_+1)
def Ij{t:ByteArray}:∀(k i v:Nat),i<=(Cm t k i v).2/\(Cm t k i v).2<=i+k/\(i<=t.size->(Cm t k i v).2<=t.size)
 | 0,i,v=>⟨N_ _,N_ _,λh=>h⟩
 | k+1,i,v=>by
   unfold Cm;split
   ·rename_i h;have⟨b,c,a⟩:=Ij (t:=t) k (i+1) (10*v+(bt t i-48));unfold EG at h;have h:=of_decide_eq_true h;have d:i<t.size:=Ei zO;exact⟨zO,zO,λ_=>a zO⟩
   ·exact⟨N_ _,zO,λh=>h⟩
def Ol{t:ByteArray}:∀(k i v:Nat),(Cm t k i v).1<(v+1)*10^k
 | 0,i,v=>by unfold Cm;simp
 | k+1,i,v=>by
   unfold Cm;split
   ·rename_i h;unfold EG at h;have h:=of_decide_eq_true h;have a:=Ol (t:=t) k (i+1) (10*v+(bt t i-48));refine Nat.lt_of_lt_of_le a ?_;rw[Nat.pow_succ,Nat.mul_comm (10^k) 10,<-Nat.mul_assoc];exact Nat.mul_le_mul_right _ zO
   ·show v<(v+1)*10^(k+1);have:1<=10^(k+1):=Nat.one_le_pow _ _ zO;have:=Nat.mul_le_mul (N_ (v+1)) this;omega
def Lh{p m:Nat}{n:Int}(h:C0 t p= .inr (m,n,j)):p<j/\j<=t.size/\m<=255/\n<=255/\(0<=n->(m:Int)<=n)/\ -1<=n:=by unfold C0 at h;split at h;{obtain⟨e,f,-⟩:=Ij (t:=t) 3 (p+1) 0;generalize Cm t 3 (p+1) 0=q at h e f;split at h;{cases h};{rename_i g c a;have b:q.2<=c/\ -1<=g:=by{unfold upM at a;split at a;{split at a;{cases a;exact⟨zO,zO⟩};{split at a;{obtain⟨i,k,-⟩:=Ij (t:=t) 3 (q.2+1) 0;cases a;exact⟨zO,zO⟩};{cases a}}};{cases a;exact⟨N_ _,zO⟩}};unfold GK at h;split at h;{rename_i d;split at h;{cases h};{rename_i l;cases h;have:c<t.size:=Ei zO;refine⟨zO,zO,?_,?_,?_,b.2⟩<;>omega}};{cases h}}};{cases h}
def GT(c:Nat):Bool:=c==42|| c==43|| c==63|| c==123
def FI(t:ByteArray)(i:Nat):Sum (Nat×Nat) (Nat×Int×Nat):=
 if bt t i=42 then .inr (0,-1,i+1)else if bt t i=43 then .inr (1,-1,i+1)else if bt t i=63 then .inr (0,1,i+1)else C0 t i
structure RdS where
 i:Nat
 f:AF
 fs:List AF
def CE(t:ByteArray)(s:RdS):Sum (Nat×Nat) RdS:=
 if GT (bt t s.i)then(match s.f.factor with
  | none=>.inl (20,s.i)
  | some a=>match FI t s.i with
    | .inl e=>.inl e
    | .inr (m,n,k)=>.inr ⟨k,{s.f with factor:=zY (C3 a m n)},s.fs⟩)
 else if bt t s.i=124 then .inr ⟨s.i+1,Dj s.f,s.fs⟩
 else if bt t s.i=38\/bt t s.i=45 then .inr ⟨s.i+1,{CQ s.f with sign:=bt t s.i},s.fs⟩
 else if bt t s.i=41 then(match s.fs with
  | []=>.inl (20,s.i)
  | g::r=>.inr ⟨s.i+1,{g with factor:=(Dj s.f).alt},r⟩)
 else if bt t s.i=40 then(if 1000<=s.fs.length then .inl (23,s.i)else .inr ⟨s.i+1,F5 s.i,AG s.f::s.fs⟩)
 else match Cc t s.i with
  | .inl e=>.inl (10,e)
  | .inr (x,k)=>.inr ⟨k,{AG s.f with factor:=zY (.cls x)},s.fs⟩
variable{s:RdS}
def TZ{c:RdS}(h:CE t s= .inr c)(b:s.i<t.size):s.i<c.i/\c.i<=t.size:=by unfold CE at h;split at h;{rename_i e;split at h;{cases h};{split at h;{cases h};{rename_i m n k a;cases h;unfold FI at a;split at a;{cases a;exact⟨sV _,b⟩};{split at a;{cases a;exact⟨sV _,b⟩};{split at a;{cases a;exact⟨sV _,b⟩};{have:=Lh a;exact⟨this.1,this.2.1⟩}}}}}};{split at h;{cases h;exact⟨sV _,b⟩};{split at h;{cases h;exact⟨sV _,b⟩};{split at h;{split at h;{cases h};{cases h;exact⟨sV _,b⟩}};{split at h;{split at h;{cases h};{cases h;exact⟨sV _,b⟩}};{split at h;{cases h};{rename_i x k d;cases h;exact L3 d}}}}}}
def XM(s:RdS):Sum (Nat×Int) ReM:=match s.fs with
 | []=>let r:=(Dj s.f).alt.getD .eps;if 2000<r.nodes then .inl (24,0)else .inr r
 | _::_=>.inl (21,s.f.place)
def ZH(e:Nat×Nat):Nat×Int:=(e.1,(e.2:Int))
def IN(t:ByteArray):Nat->RdS->Sum (Nat×Int) ReM
 | 0,s=>XM s
 | n+1,s=>if s.i<t.size then(match CE t s with
   | .inl e=>.inl (ZH e)
   | .inr s'=>IN t n s')else XM s
def Cx(t:ByteArray)(s:RdS):Sum (Nat×Int) ReM:=IN t (t.size-s.i) s
def Hg{t:ByteArray}:∀(n m:Nat) (s:RdS),t.size-s.i<=n->t.size-s.i<=m->IN t n s=IN t m s
 | 0,0,s,_,_=>rfl
 | 0,m+1,s,h,_=>by unfold IN;rw[G_ (by omega)]
 | n+1,0,s,_,h=>by unfold IN;rw[G_ (by omega)]
 | n+1,m+1,s,h1,h2=>by
   unfold IN;by_cases a:s.i<t.size
   ·rw[I_ a,I_ a];cases hs:CE t s with
    | inl e=>rfl
    | inr b=>
      have:=TZ hs a;exact Hg n m b zO zO
   ·rw[G_ a,G_ a]
def Fl{a:RdS}(b:s.i<t.size)(h:CE t s= .inr a):Cx t s=Cx t a:=by have c:=TZ h b;have e:Cx t s=IN t (t.size-s.i-1+1) s:=Hg _ _ _ (N_ _) zO;rw[e,IN,I_ b,h];exact Hg _ _ _ zO (N_ _)
def F7{e:Nat×Nat}(a:s.i<t.size)(h:CE t s= .inl e):Cx t s= .inl (ZH e):=by have b:Cx t s=IN t (t.size-s.i-1+1) s:=Hg _ _ _ (N_ _) zO;rw[b,IN,I_ a,h]
def Pu(a:¬s.i<t.size):Cx t s=XM s:=by unfold Cx;rw[(zO:t.size-s.i=0)];rfl
def EL(t:ByteArray):Sum (Nat×Int) ReM:=if 1048576<t.size then .inl (1,0)else Cx t ⟨0,F5 (-1),[]⟩
inductive RwM
 | eps
 | cls (s:BitVec 256)
 | cat (a b:RwM)
 | alt (a b:RwM)
 | and_ (a b:RwM)
 | minus (a b:RwM)
 | rep (a:RwM) (m n:Int)
def Bc(m:Int):Nat:=if m= -2 then 1 else m.toNat
def RwM.den:RwM->ReM
 | .eps=>.eps
 | .cls s=>.cls s
 | .cat a b=>.cat a.den b.den
 | .alt a b=>.alt a.den b.den
 | .and_ a b=>.and_ a.den b.den
 | .minus a b=>.minus a.den b.den
 | .rep a m n=>C3 a.den (Bc m) n
def AJ(op x y:Int):o_:=⟨op,0#256,x,y,0,0⟩
def E3(s:BitVec 256):o_:=⟨1,s,0,0,0,0⟩
def Cq(x m n:Int):o_:=⟨7,0#256,x,0,m,n⟩
def VR(m n:Int):Prop:=(m= -2/\n= -1)\/(0<=m/\m<=255/\ -1<=n/\n<=255/\(0<=n->m<=n))
def Oz(ws:List RwM)(d:o_):RwM->Prop
 | .eps=>d=AJ 0 0 0
 | .cls s=>d=E3 s
 | .cat a b=>∃j k:Nat,d=AJ 2 j k/\ws[j]?=zY a/\ws[k]?=zY b
 | .alt a b=>∃j k:Nat,d=AJ 3 j k/\ws[j]?=zY a/\ws[k]?=zY b
 | .and_ a b=>∃j k:Nat,d=AJ 5 j k/\ws[j]?=zY a/\ws[k]?=zY b
 | .minus a b=>∃j k:Nat,d=AJ 6 j k/\ws[j]?=zY a/\ws[k]?=zY b
 | .rep a m n=>∃j:Nat,d=Cq j m n/\ws[j]?=zY a/\VR m n
inductive Raw:List o_->List RwM->Prop
 | nil:Raw [] []
 | add {ds:List o_} {ws:List RwM} {d:o_} {w:RwM}:Raw ds ws->Oz ws d w->Raw (ds++[d]) (ws++[w])
def Raw.len{ds:List o_}{a:List RwM}(h:Raw ds a):ds.length=a.length:=by induction h with|nil=>rfl|add _ _ b=>simp[b]
variable{us:List RwM}
def Oz.more{c:List RwM}{d:o_}:∀{w:RwM},Oz c d w->Oz (c++us) d w
 | .eps,h=>h
 | .cls s,h=>h
 | .cat a b,⟨j,k,h1,h2,h3⟩=>⟨j,k,h1,II h2,II h3⟩
 | .alt a b,⟨j,k,h1,h2,h3⟩=>⟨j,k,h1,II h2,II h3⟩
 | .and_ a b,⟨j,k,h1,h2,h3⟩=>⟨j,k,h1,II h2,II h3⟩
 | .minus a b,⟨j,k,h1,h2,h3⟩=>⟨j,k,h1,II h2,II h3⟩
 | .rep a m n,⟨j,h1,h2,h3⟩=>⟨j,h1,II h2,h3⟩
def Z6{α:Type}{l:List α}{x y:α}(h:(l++[x])[i]?=zY y):l[i]?=zY y\/(i=l.length/\y=x):=by by_cases a:i<l.length;{rw[zR a]at h;exact .inl h};{rw[zL zO]at h;have:i-l.length=0:=by{have:=(V_.1 h).1;simp at this;omega};rw[this]at h;exact .inr ⟨zO,by simpa using h.symm⟩}
section
variable{ds:List o_}{a:List RwM}
def Raw.at_(h:Raw ds a):∀{i:Nat} {w:RwM},a[i]?=zY w->∃d b vs,ds[i]?=zY d/\a=b++vs/\b.length=i/\Oz b d w:=by induction h with|nil=>intro i w c;cases c|@add ds a d w h1 h2 ih=>{intro i e c;rcases Z6 c with c | ⟨rfl,rfl⟩;{obtain⟨d',b,vs,f,rfl,g,j⟩:=ih c;exact⟨d',b,vs++[w],II f,zZ,g,j⟩};{refine⟨d,a,[e],?_,rfl,rfl,h2⟩;rw[<-h1.len];simp}}
def Raw.at2(h:Raw ds a){w:RwM}(b:a[i]?=zY w):∃d,ds[i]?=zY d/\Oz a d w:=by obtain⟨d,f,vs,c,rfl,-,e⟩:=h.at_ b;exact⟨d,c,e.more⟩
end
structure J' where
 place:Int
 alt:Int
 meet:Int
 sign:Nat
 row:Int
 factor:Int
def rQ(f:J'):List v_:=[A_ f.place,A_ f.alt,A_ f.meet,.int .u8 (f.sign:Int),A_ f.row,A_ f.factor]
def tFr:Ty J' where
 size:=6
 rep _ _ cs d:=cs=rQ d
 len h:=by rw[h];rfl
 frame h _:=h
 mono h _:=h
def W4(d:J'):(rQ d).all (·.oneCell')=zW:=rfl
def IxR(ws:List RwM)(x:Int):Option ReM->Prop
 | none=>x= -1
 | some r=>∃(j:Nat) (w:RwM),x=(j:Int)/\ws[j]?=zY w/\w.den=r
structure FrR(ws:List RwM)(f:J')(a:AF):Prop where
 place:f.place=a.place
 alt:IxR ws f.alt a.alt
 meet:IxR ws f.meet a.meet
 sign:f.sign=a.sign
 row:IxR ws f.row a.row
 factor:IxR ws f.factor a.factor
def IxR.more{a:List RwM}:∀{o:Option ReM},IxR a x o->IxR (a++us) x o
 | none,h=>h
 | some r,⟨j,w,h1,h2,h3⟩=>⟨j,w,h1,II h2,h3⟩
def FrR.more{b:List RwM}{f:J'}{a:AF}(h:FrR b f a):FrR (b++us) f a:=⟨h.place,h.alt.more,h.meet.more,h.sign,h.row.more,h.factor.more⟩
def IxR.neg{a:List RwM}{o:Option ReM}(h:IxR a x o):x<0↔o=zV:=by cases o with|none=>exact⟨λ_=>rfl,λ_=>by rw[show x= -1 from h];decide⟩|some r=>obtain⟨j,w,rfl,-⟩:=h;exact⟨λh=>absurd h zO,λh=>by cases h⟩
def IxR.new{ds:List o_}{a:List RwM}{w:RwM}(h:Raw ds a)(b:w.den=r):IxR (a++[w]) (ds.length:Int) (zY r):=⟨ds.length,w,rfl,by rw[h.len];simp,b⟩
def Bz(ds:List o_)(f:J'):List o_×J':=
 if f.factor<0 then(ds,f)else if f.row<0 then(ds,{f with row:=f.factor,factor:= -1})else(ds++[AJ 2 f.row f.factor],{f with row:=ds.length,factor:= -1})
def Dv(ds:List o_)(f:J'):List o_×J':=if f.row<0 then(ds++[AJ 0 0 0],{f with row:=ds.length})else(ds,f)
def FH(ds:List o_)(f:J'):List o_×J':=
 if f.meet<0 then(ds,{f with meet:=f.row,row:= -1})else(ds++[AJ (if f.sign=38 then 5 else 6) f.meet f.row],{f with meet:=ds.length,row:= -1})
def Dy(ds:List o_)(f:J'):List o_×J':=FH (Dv (Bz ds f).1 (Bz ds f).2).1 (Dv (Bz ds f).1 (Bz ds f).2).2
def SG(ds:List o_)(f:J'):List o_×J':=
 if f.alt<0 then(ds,{f with alt:=f.meet,meet:= -1})else(ds++[AJ 3 f.alt f.meet],{f with alt:=ds.length,meet:= -1})
def Fe(ds:List o_)(f:J'):List o_×J':=SG (Dy ds f).1 (Dy ds f).2
def Il(ds:List o_)(f:J'):(Bz ds f).1.length<=ds.length+1:=by
 unfold Bz;split;· simp
 split<;>simp
def OT(ds:List o_)(f:J'):(Dv ds f).1.length<=ds.length+1:=by unfold Dv;split<;>simp
def XC(ds:List o_)(f:J'):(FH ds f).1.length<=ds.length+1:=by unfold FH;split<;>simp
def Y4(ds:List o_)(f:J'):(SG ds f).1.length<=ds.length+1:=by unfold SG;split<;>simp
def KA(ds:List o_)(f:J'):(Dy ds f).1.length<=ds.length+3:=by unfold Dy;have a:=Il ds f;have b:=OT (Bz ds f).1 (Bz ds f).2;have c:=XC (Dv (Bz ds f).1 (Bz ds f).2).1 (Dv (Bz ds f).1 (Bz ds f).2).2;omega
def Lk(ds:List o_)(f:J'):(Fe ds f).1.length<=ds.length+4:=by unfold Fe;have a:=KA ds f;have b:=Y4 (Dy ds f).1 (Dy ds f).2;omega
structure Rd(ws:List RwM)(q:List o_×J')(a:AF):Prop where
 ex:∃us,Raw q.1 (ws++us)/\FrR (ws++us) q.2 a
variable{a':AF}
def Rd.then_{c:List RwM}{q d:List o_×J'}{a:AF}(h:Rd c q a)(k:∀b,Raw q.1 b->FrR b q.2 a->Rd b d a'):Rd c d a':=by have⟨j,g,i⟩:=h;have⟨vs,e,f⟩:=k _ g i;rw[zN]at e f;exact⟨_,e,f⟩
section
variable{ds:List o_}
def N1{b:List RwM}{f:J'}{a:AF}(h:Raw ds b)(g:FrR b f a):Rd b (Bz ds f) (AG a):=by unfold Bz AG;cases c:a.factor with|none=>rw[I_ (g.factor.neg.2 c)];exact⟨[],by simpa using h,by simpa using g⟩|some p=>{rw[G_ (λe=>by have:=g.factor.neg.1 e;rw[c]at this;cases this)];have d:=g.factor;rw[c]at d;cases i:a.row with|none=>rw[I_ (g.row.neg.2 i)];exact⟨[],by simpa using h,by simpa using⟨g.place,g.alt,g.meet,g.sign,d,rfl⟩⟩|some q=>rw[G_ (λe=>by have:=g.row.neg.1 e;rw[i]at this;cases this)];have l:=g.row;rw[i]at l;have⟨j,w,m,e2,n⟩:=l;have⟨k,v,o,r,s⟩:=d;refine⟨[.cat w v],h.add ⟨j,k,by rw[m,o],e2,r⟩,⟨g.place,g.alt.more,g.meet.more,g.sign,?_,rfl⟩⟩;exact IxR.new h (by rw[<-n,<-s];rfl)}
def M8{n:List RwM}{f:J'}{a:AF}(h:Raw ds n)(g:FrR n f a):Rd n (Dy ds f) (CQ a):=by refine(N1 h g).then_ λo p g1=>?_;unfold Dy;generalize Bz ds f=F at*;have⟨l,z⟩:=F;have G:Rd o (Dv l z) {AG a with row:=zY ((AG a).row.getD .eps)}:=by{unfold Dv;cases r:(AG a).row with|none=>rw[I_ (g1.row.neg.2 r)];exact⟨[.eps],p.add rfl,⟨g1.place,g1.alt.more,g1.meet.more,g1.sign,IxR.new p rfl,g1.factor.more⟩⟩|some q=>rw[G_ (λe=>by have:=g1.row.neg.1 e;rw[r]at this;cases this)];have A:=g1.row;rw[r]at A;exact⟨[],by simpa using p,by simpa using⟨g1.place,g1.alt,g1.meet,g1.sign,A,g1.factor⟩⟩};refine G.then_ λd s g2=>?_;generalize Dv l z=H at*;have⟨m,c⟩:=H;have⟨j,w,t,e2,u⟩:=g2.row;unfold FH;cases i:(AG a).meet with|none=>{rw[I_ (g2.meet.neg.2 i)];refine⟨[],by simpa using s,?_⟩;rw[yX];refine⟨g2.place,g2.alt,?_,g2.sign,rfl,g2.factor⟩;show IxR d c.row (zY (match(AG a).meet with | none=>_ | some q=>_));rw[i];exact⟨j,w,t,e2,u⟩}|some q=>{rw[G_ (λe=>by have:=g2.meet.neg.1 e;rw[show({AG a with row:=zY ((AG a).row.getD .eps)}:AF).meet=(AG a).meet from rfl,i]at this;cases this)];have B:=g2.meet;rw[show({AG a with row:=zY ((AG a).row.getD .eps)}:AF).meet=(AG a).meet from rfl,i]at B;have⟨k,v,C,D,E⟩:=B;have hs:c.sign=(AG a).sign:=g2.sign;have fin:∀(x:RwM) (op:Int),Oz d (AJ op c.meet c.row) x->zY x.den=(CQ a).meet->Rd d (m++[AJ op c.meet c.row],{c with meet:=(m.length:Int),row:= -1}) (CQ a):=λx op I y=>⟨[x],s.add I,⟨g2.place,g2.alt.more,by show IxR _ _ (CQ a).meet;rw[<-y];exact IxR.new s rfl,g2.sign,rfl,g2.factor.more⟩⟩;by_cases b:c.sign=38;{rw[I_ b];refine fin (.and_ v w) 5 ⟨k,j,by rw[t,C],D,e2⟩ ?_;show zY (ReM.and_ v.den w.den)=zY (match(AG a).meet with | none=>_ | some q=>_);rw[i];show _=zY (if(AG a).sign=38 then _ else _);rw[I_ (by rw[<-hs];exact b),u,E]};{rw[G_ b];refine fin (.minus v w) 6 ⟨k,j,by rw[t,C],D,e2⟩ ?_;show zY (ReM.minus v.den w.den)=zY (match(AG a).meet with | none=>_ | some q=>_);rw[i];show _=zY (if(AG a).sign=38 then _ else _);rw[G_ (by rw[<-hs];exact b),u,E]}}
def Ll{c:List RwM}{f:J'}{a:AF}(h:Raw ds c)(g:FrR c f a):Rd c (Fe ds f) (Dj a):=by refine(M8 h g).then_ λd i g2=>?_;unfold Fe;generalize Dy ds f=r at*;have⟨s,t⟩:=r;have m:=g2.meet;have l:(CQ a).meet=zY ((CQ a).meet.getD .eps):=rfl;rw[l]at m;have⟨j,w,n,e2,o⟩:=m;unfold SG;cases b:(CQ a).alt with|none=>{rw[I_ (g2.alt.neg.2 b)];refine⟨[],by simpa using i,?_⟩;rw[yX];refine⟨g2.place,?_,rfl,g2.sign,g2.row,g2.factor⟩;show IxR d t.meet (zY (match(CQ a).alt with | none=>_ | some q=>_));rw[b];exact⟨j,w,n,e2,o⟩}|some q=>{rw[G_ (λe=>by have:=g2.alt.neg.1 e;rw[b]at this;cases this)];have p:=g2.alt;rw[b]at p;have⟨k,v,u,x,y⟩:=p;refine⟨[.alt v w],i.add ⟨k,j,by rw[n,u],x,e2⟩,⟨g2.place,?_,rfl,g2.sign,g2.row.more,g2.factor.more⟩⟩;show IxR _ _ (zY (match(CQ a).alt with | none=>_ | some q=>_));rw[b];exact IxR.new i (by show ReM.alt v.den w.den=_;rw[o,y])}
end
abbrev tRe:x_:=56
def L2:(prog.info? 56).bind (·.zero)=zY (.agg #[.slice zV 0 0,A_ 0]):=rfl
abbrev u_:List v_:=[.slice zV 0 0,A_ 0]
section
variable{α:Type}{T:Ty α}{cap:Nat}{xs:List α}
def B_.cellsE{x:α}(d:B_ B H0 H ps)(i:Nat)(f:ps[i]?=zY (pS T e (T_ b) n cap xs))(a:xs[j]?=zY x):∃c,Bn H b (j*T.size) c/\T.rep none_ H c x:=by have g:=(V_.1 a).1;obtain⟨-,-,-,l,-,-,h,-⟩:=(d.at_ i f).1.placeS g;exact h x a
def B_.ltE(a:B_ B H0 H ps)(i:Nat)(c:ps[i]?=zY (pS T e (T_ b) n cap xs)):b<H.size:=(a.in_ i c (.inl ⟨0,n,cap,rfl⟩)).2
def wA{t by_:Nat}{z:v_}{k:IntKind}{c:Int}{H2:Aa}{K:v_->Prop}(d:SlT P t e T.size by_ z)(f:B_ B H0 H ps)(i:Nat)(g:ps[i]?=zY (pS T e (T_ b) n cap xs))
  (l:j<xs.length) (a:c=(j:Int)) (h:K (.pointer (zY ⟨b,j*T.size,zV⟩))):AO P (Instr.indexAt t (.slice (T_ b) n cap) (.int k c)) S H2 K:=by have m:=f.len i g;exact ix d zO zO (by rw[a,zB,K_];exact h)
def kA{t k:Nat}{x x':α}{K:Aa->Prop}(z:B_ B H0 H ps)(i:Nat)(N:Cf P t)(A:ps[i]?=zY (pS T e (T_ b) n cap xs))(J:xs[j]?=zY x)(U:k<T.size)(O:v.oneCell'=zW)
  (Q:∀H' c,T.rep none_ H' c x->T.rep none_ H' (c.set k v) x') (R:∀H',B_ B H0 H' (ps.set i (pS T e (T_ b) n cap (xs.set j x')))->C_ (λq=>q≠b) H H'->K H'):
  Dm P (Instr.storeAt t (.pointer (zY ⟨b,j*T.size+k,zV⟩)) v) H K:=by have S:=(V_.1 J).1;have h:=z.at_ i A;obtain⟨-,-,-,l,a,o,C,p⟩:=h.1.placeS S;have⟨c,C,d⟩:=C x J;have r:=T.len d;refine tQ N a zO O ?_;intro H' D s E;have u:C_ none_ H H':=λq f=>f.elim;have g:=Q H' c (T.frame d u);have w:=p H' (c.set k v) x' (by{have:Ak l (j*T.size) (c.set k v)=l.set (j*T.size+k) v:=by{apply yW;intro m;rw[Dd (by rw[yF,r];exact o),yF,r];by_cases L:j*T.size<=m/\m<j*T.size+T.size;{rw[I_ L];have y:m-j*T.size<c.length:=zO;have F:(c[m-j*T.size]?)=l[m]? :=by{have M:=C (m-j*T.size) _ (yI y);rw[(zO:j*T.size+(m-j*T.size)=m),a.cell]at M;rw[yI y,M]};by_cases G:m=j*T.size+k;{subst G;rw[(zO:j*T.size+k-j*T.size=k),yP zO,yP zO]};{rw[xC zO,xC zO,F]}};{rw[G_ L,xC zO]}};rw[this];exact D}) u g;exact R H' (z.upd i A (s.mono λq f I=>f.2 (.inl (by subst I;exact⟨0,n,cap,rfl⟩))) _ ⟨w,h.2⟩ (λq f=>.inl f) (λq f=>by rw[E];exact(z.in_ i A f).2) zO) s
end
abbrev gI:x_:=148
abbrev stP(sb fb:Nat)(na:Option Addr)(nc fc n:Nat)(ds:List o_)(frs:List J')(rest:List Pc):List Pc:=
 pB gI sb [.slice na ds.length nc,.slice (T_ fb) n fc]::pS wE 159 na ds.length nc ds::pS tFr 150 (T_ fb) n fc frs::rest
structure Dst(B:Nat->Prop)(H0 H:Aa)(sb fb:Nat)(ds:List o_)(frs:List J')(rest:List Pc):Prop where
 ex:∃na nc fc n,B_ B H0 H (stP sb fb na nc fc n ds frs rest)
def AW(x:Int):Prop:= -4294967296<x/\x<4294967296
def Cj(h:AW x):zI .i64 x:=by unfold AW at h;unfold zI;show(-9223372036854775808:Int)<=x/\x<=9223372036854775807;omega
def YC{op y:Int}(a:AW op)(b:AW x)(c:AW y):(AJ op x y).Ok:=⟨Cj a,Cj b,Cj c,Cj (x:=0) (by unfold AW;omega),Cj (x:=0) (by unfold AW;omega)⟩
section
variable{B:Nat->Prop}{H0 H:Aa}{sb fb nc fc n:Nat}{na:Option Addr}{ds:List o_}{frs:List J'}{rest:List Pc}
def Lo{op y:Int}(b:B_ B H0 H (stP sb fb na nc fc n ds frs rest))(r:AW op)(s:AW x)(t:AW y)(J:ds.length<=16777216):
  Aj prog 133 #[Y_ sb,A_ op,A_ x,A_ y] H
   (λv H'=>v= .int .i64 (ds.length:Int)/\C_ (λk=>k=fb) H H'/\∃f g,B_ B H0 H' (stP sb fb f g fc n (ds++[AJ op x y]) frs rest)):=by have w:fb≠sb:=λe=>b.apart2 (i:=0) (j:=2) rfl rfl zQ sb rfl (.inl ⟨0,n,fc,by rw[e]⟩);have A:¬O_ (.slice na ds.length nc) fb:=λe=>b.apart2 (i:=1) (j:=2) rfl rfl zQ fb (.inl e) (.inl ⟨0,n,fc,rfl⟩);have K:fb<H.size:=b.ltE 2 rfl;refine Aj.of_vc func133 rfl (call133 _) (F_ CG ?_);refine lT (v:=.slice na ds.length nc) Ee ((b.blk 0 rfl).ce rfl) ?_;refine QH op x y (As EO (d_ (AJ op x y)) rfl (AA _) zQ zQ ?_);intro z H1 h C l c;have J_:=b.skip h c;refine I9 (ys:=[AJ op x y]) J_ 1 EO rfl (l.cells (o:=0) (cs:=d_ (AJ op x y)) λj v D=>by rw[K_];exact D) (Ty.reps_one ⟨rfl,YC r s t⟩) rfl (λu E=>zM.1 (Cs _) u E) (by simp[maxLen];omega) (by simp;omega) λp q H9 d m=>?_;have F:ds.length+[AJ op x y].length=(ds++[AJ op x y]).length:=zZ;rw[F]at d ⊢;refine F_ CG (WW d 0 Ee rfl (zQ:0<2) rfl λH10 a G L=>(F_ CG ?_));refine lT (v:=.slice p (ds++[AJ op x y]).length q) Ee ((a.blk 0 rfl).ce rfl) ?_;have I:IntKind.wrap .i64 (((ds++[AJ op x y]).length:Int)-1)=(ds.length:Int):=by{rw[M_,i_,yE zO zO];omega};(conv=>whnf);rw[I];(conv=>whnf);refine⟨rfl,?_,p,q,a⟩;rintro k rfl;rw[G _ w,m _ ⟨by have:z=H.size:=h;omega,A⟩,c _ (by have:z=H.size:=h;omega)]
def BA{fr:List J'}{f:J'}{k:Nat}(a:B_ B H0 H (stP sb fb na nc fc n ds (fr++[f]) rest))(b:(rQ f)[k]?=zY v):cell H fb (fr.length*tFr.size+k)=zY v:=by obtain⟨c,d,rfl⟩:=a.cellsE 2 rfl (x:=f) (j:=fr.length) zZ;exact d k v b
def W3{fr:List J'}{f:J'}(a:B_ B H0 H (stP sb fb na nc fc n ds (fr++[f]) rest)):n=fr.length+1:=by have:=a.len 2 rfl;rw[this];simp
def FB{t k:Nat}{fr:List J'}{f f':J'}{K:Aa->Prop}(b:B_ B H0 H (stP sb fb na nc fc n ds (fr++[f]) rest))(d:Cf prog t)(e:k<6)(g:v.oneCell'=zW)(h:(rQ f).set k v=rQ f')
  (i:∀H',B_ B H0 H' (stP sb fb na nc fc n ds (fr++[f']) rest)->C_ (λq=>q≠fb) H H'->K H'):Dm prog (Instr.storeAt t (.pointer (zY ⟨fb,fr.length*tFr.size+k,zV⟩)) v) H K:=by refine kA (T:=tFr) (x:=f) (x':=f') b 2 d rfl zZ e g (λH' c j=>by rw[show c=rQ f from j];exact h) λH' a l=>?_;rw[show(fr++[f]).set fr.length f'=fr++[f']from by simp]at a;exact i H' a l
structure FrN(f:J'):Prop where
 alt:AW f.alt
 meet:AW f.meet
 row:AW f.row
 factor:AW f.factor
def Pl:AW (-1):=by unfold AW;omega
def Mf{m:Nat}(h:m<=16777216):AW (m:Int):=by unfold AW;omega
section
variable{ds:List o_}{f:J'}
def Kp(h:FrN f)(a:ds.length<=16777216):FrN (Bz ds f).2:=by unfold Bz;split;{exact h};{split;{exact⟨h.alt,h.meet,h.factor,Pl⟩};{exact⟨h.alt,h.meet,Mf a,Pl⟩}}
def US(h:FrN f)(a:ds.length<=16777216):FrN (Dv ds f).2:=by unfold Dv;split;{exact⟨h.alt,h.meet,Mf a,h.factor⟩};{exact h}
def XD(h:FrN f)(a:ds.length<=16777216):FrN (FH ds f).2:=by unfold FH;split;{exact⟨h.alt,h.row,Pl,h.factor⟩};{exact⟨h.alt,Mf a,Pl,h.factor⟩}
def X5(h:FrN f)(a:ds.length<=16777200):FrN (Dy ds f).2:=by unfold Dy;have b:=Il ds f;have c:=OT (Bz ds f).1 (Bz ds f).2;exact XD (US (Kp h zO) zO) zO
end
section
variable{fr:List J'}{f:J'}
def Qp(a:B_ B H0 H (stP sb fb na nc fc n ds (fr++[f]) rest))(t:FrN f)(w:ds.length<=16777216):
  Aj prog 80 #[Y_ sb] H (λ_ H'=>∃h i,B_ B H0 H' (stP sb fb h i fc n (Bz ds f).1 (fr++[(Bz ds f).2]) rest)):=by have u:=W3 a;have l:=a.max 2 rfl;simp only[M_,i_,maxLen]at l;refine Aj.of_vc func80 rfl (call80 _) (Ap.lex rfl zX (F_ BI ?_));refine lT (v:=.slice (T_ fb) n fc) CY ((a.blk 0 rfl).ce rfl) ?_;refine F_ BI ?_;refine lT (v:=.slice (T_ fb) n fc) CY ((a.blk 0 rfl).ce rfl) ?_;(conv=>whnf);rw[U_ (x:=(n:Int)-1) zO];refine wA (j:=fr.length) GV a 2 rfl zZ zO (F_ D4 (D_ (v:=A_ f.factor) E_ (BA a (k:=5) rfl) zA ?_));by_cases d:f.factor<0;{have m:zT (f.factor<0)=zW:=m_ d;have e:Bz ds f=(ds,f):=by{unfold Bz;rw[I_ d]};(conv=>whnf);rw[m];(conv=>whnf);rw[e];exact⟨na,nc,a⟩};{have m:zT (f.factor<0)=zU:=j_ d;(conv=>whnf);rw[m];(conv=>whnf);(try refine Au.run ?_);refine F_ De (D_ (v:=A_ f.row) E_ (BA a (k:=4) rfl) zA ?_);by_cases g:f.row<0;{have o:zT (f.row<0)=zW:=m_ g;have e:Bz ds f=(ds,{f with row:=f.factor,factor:= -1}):=by{unfold Bz;rw[G_ d,I_ g]};(conv=>whnf);rw[o];refine F_ D4 (D_ (v:=A_ f.factor) E_ (BA a (k:=5) rfl) zA (F_ De (FB (k:=4) (f':={f with row:=f.factor}) a E_ zQ rfl rfl λG1 b p=>(F_ D4 (FB (k:=5) (f':={f with row:=f.factor,factor:= -1}) b E_ zQ rfl rfl λG2 c p=>?_)))));(conv=>whnf);rw[e];exact⟨na,nc,c⟩};{have o:zT (f.row<0)=zU:=j_ g;have e:Bz ds f=(ds++[AJ 2 f.row f.factor],{f with row:=ds.length,factor:= -1}):=by{unfold Bz;rw[G_ d,G_ g]};(conv=>whnf);rw[o];refine Ap.heldZ (λk=>k=fb) [13] (sq [0,1,2,3,4,5,6,7,8,9] (.f 10 (sq [11,12] (.f 13 .e)))) rfl zX (F_ De (D_ (v:=A_ f.row) E_ (BA a (k:=4) rfl) rfl (F_ D4 (D_ (v:=A_ f.factor) E_ (BA a (k:=5) rfl) rfl ?_))));refine Ae.mk (Lo (op:=2) a (by unfold AW;omega) t.row t.factor w) ?_;rintro _ G1 ⟨rfl,y,q,r,b⟩;refine⟨y,?_⟩;refine F_ De (FB (k:=4) (f':={f with row:=ds.length}) b E_ zQ rfl rfl λG2 c p=>(F_ D4 (FB (k:=5) (f':={f with row:=ds.length,factor:= -1}) c E_ zQ rfl rfl λG3 s p=>?_)));(conv=>whnf);rw[e];exact⟨q,r,s⟩}}
def Rz(E:B_ B H0 H (stP sb fb na nc fc n ds (fr++[f]) rest))(L:FrN f)(R:ds.length<=16777200):
  Aj prog 79 #[Y_ sb] H (λ_ H'=>∃F G,B_ B H0 H' (stP sb fb F G fc n (Dy ds f).1 (fr++[(Dy ds f).2]) rest)):=by
 have M:=W3 E;have I:=E.max 2 rfl;simp only[M_,i_,maxLen]at I;refine Aj.of_vc func79 rfl (call79 _) (Ae.mk (Qp E L zO) ?_);rintro S H1 ⟨m,o,J_⟩;have d:=Kp L (ds:=ds) zO;have s:=Il ds f;have q:Dy ds f=FH (Dv (Bz ds f).1 (Bz ds f).2).1 (Dv (Bz ds f).1 (Bz ds f).2).2:=rfl;obtain⟨a,b,N⟩:∃a b,Bz ds f=(a,b):=⟨_,_,rfl⟩;rw[N]at J_ d s q;replace J_:B_ B H0 H1 (stP sb fb m o fc n a (fr++[b]) rest):=J_;replace d:FrN b:=d;replace s:a.length<=ds.length+1:=s;replace q:Dy ds f=FH (Dv a b).1 (Dv a b).2:=q;refine Ap.lex rfl zX (F_ BI ?_);refine lT (v:=.slice (T_ fb) n fc) CY ((J_.blk 0 rfl).ce rfl) ?_;refine F_ BI ?_;refine lT (v:=.slice (T_ fb) n fc) CY ((J_.blk 0 rfl).ce rfl) ?_;(conv=>whnf);rw[U_ (x:=(n:Int)-1) zO];refine wA (j:=fr.length) GV J_ 2 rfl zZ zO ?_;(conv=>whnf);try refine Au.run ?_
 refine F_ De (D_ (v:=A_ b.row) E_ (BA J_ (k:=4) rfl) zA ?_);by_cases D:b.row<0;{have J:zT (b.row<0)=zW:=m_ D;have t:FH (Dv a b).1 (Dv a b).2=FH (a++[AJ 0 0 0]) {b with row:=(a.length:Int)}:=by{unfold Dv;rw[I_ D]};(conv=>whnf);rw[J];refine Ae.mk (Lo (op:=0) (x:=0) (y:=0) J_ (by unfold AW;omega) (by unfold AW;omega) (by unfold AW;omega) zO) ?_;rintro _ G8 ⟨rfl,O,P,Q,K⟩;refine F_ De (FB (k:=4) (f':={b with row:=(a.length:Int)}) K E_ zQ rfl rfl λG9 g l=>?_);have r:FrN {b with row:=(a.length:Int)}:=⟨d.alt,d.meet,Mf zO,d.factor⟩;(conv=>whnf);(try refine Au.run ?_);refine F_ D3 (D_ (v:=A_ ({b with row:=(a.length:Int)}).meet) E_ (BA g (k:=2) rfl) zA ?_);by_cases p:b.meet<0;{have u:zT (b.meet<0)=zW:=m_ p;have e:Dy ds f=(a++[AJ 0 0 0],{({b with row:=(a.length:Int)})with meet:=({b with row:=(a.length:Int)}).row,row:= -1}):=by{rw[q,t];unfold FH;rw[I_ p]};(conv=>whnf);rw[u];refine F_ De (D_ (v:=A_ ({b with row:=(a.length:Int)}).row) E_ (BA g (k:=4) rfl) zA (F_ D3 (FB (k:=2) (f':={({b with row:=(a.length:Int)})with meet:=({b with row:=(a.length:Int)}).row}) g E_ zQ rfl rfl λG5 w l=>(F_ De (FB (k:=4) (f':={({b with row:=(a.length:Int)})with meet:=({b with row:=(a.length:Int)}).row,row:= -1}) w E_ zQ rfl rfl λG6 c l=>?_)))));(conv=>whnf);rw[e];exact⟨_,_,c⟩};{have u:zT (b.meet<0)=zU:=j_ p;(conv=>whnf);rw[u];(conv=>whnf);(try refine Au.run ?_);refine F_ NX (D_ (v:=.int .u8 (({b with row:=(a.length:Int)}).sign:Int)) uX (BA g (k:=3) rfl) zA ?_);by_cases z:b.sign=38;{have A:((b.sign:Int)==38)=zW:=by{rw[z];rfl};have e:Dy ds f=(a++[AJ 0 0 0]++[AJ 5 ({b with row:=(a.length:Int)}).meet ({b with row:=(a.length:Int)}).row],{({b with row:=(a.length:Int)})with meet:=((a++[AJ 0 0 0]).length:Int),row:= -1}):=by{rw[q,t];unfold FH;rw[G_ p];show(_++[AJ (if b.sign=38 then 5 else 6) _ _],_)=_;rw[I_ z]};(conv=>whnf);rw[A];refine Ap.heldZ (λk=>k=fb) [13] (sq [0,1,2,3,4,5,6,7,8,9] (.f 10 (sq [11,12] (.f 13 .e)))) rfl zX (F_ D3 (D_ (v:=A_ ({b with row:=(a.length:Int)}).meet) E_ (BA g (k:=2) rfl) rfl (F_ De (D_ (v:=A_ ({b with row:=(a.length:Int)}).row) E_ (BA g (k:=4) rfl) rfl ?_))));refine Ae.mk (Lo (op:=5) g (by unfold AW;omega) r.meet r.row (by simp;omega)) ?_;rintro _ G1 ⟨rfl,C,m,o,h⟩;refine⟨C,?_⟩;refine F_ D3 (FB (k:=2) (f':={({b with row:=(a.length:Int)})with meet:=((a++[AJ 0 0 0]).length:Int)}) h E_ zQ rfl rfl λG2 i l=>(F_ De (FB (k:=4) (f':={({b with row:=(a.length:Int)})with meet:=((a++[AJ 0 0 0]).length:Int),row:= -1}) i E_ zQ rfl rfl λG6 c l=>?_)));(conv=>whnf);rw[e];exact⟨_,_,c⟩};{have A:((b.sign:Int)==38)=zU:=beq_eq_false_iff_ne.2 zO;have e:Dy ds f=(a++[AJ 0 0 0]++[AJ 6 ({b with row:=(a.length:Int)}).meet ({b with row:=(a.length:Int)}).row],{({b with row:=(a.length:Int)})with meet:=((a++[AJ 0 0 0]).length:Int),row:= -1}):=by{rw[q,t];unfold FH;rw[G_ p];show(_++[AJ (if b.sign=38 then 5 else 6) _ _],_)=_;rw[G_ z]};(conv=>whnf);rw[A];refine Ap.heldZ (λk=>k=fb) [13] (sq [0,1,2,3,4,5,6,7,8,9] (.f 10 (sq [11,12] (.f 13 .e)))) rfl zX (F_ D3 (D_ (v:=A_ ({b with row:=(a.length:Int)}).meet) E_ (BA g (k:=2) rfl) rfl (F_ De (D_ (v:=A_ ({b with row:=(a.length:Int)}).row) E_ (BA g (k:=4) rfl) rfl ?_))));refine Ae.mk (Lo (op:=6) g (by unfold AW;omega) r.meet r.row (by simp;omega)) ?_;rintro _ G1 ⟨rfl,C,m,o,h⟩;refine⟨C,?_⟩;refine F_ D3 (FB (k:=2) (f':={({b with row:=(a.length:Int)})with meet:=((a++[AJ 0 0 0]).length:Int)}) h E_ zQ rfl rfl λG2 i l=>(F_ De (FB (k:=4) (f':={({b with row:=(a.length:Int)})with meet:=((a++[AJ 0 0 0]).length:Int),row:= -1}) i E_ zQ rfl rfl λG6 c l=>?_)));(conv=>whnf);rw[e];exact⟨_,_,c⟩}}};{have J:zT (b.row<0)=zU:=j_ D;have t:FH (Dv a b).1 (Dv a b).2=FH a b:=by{unfold Dv;rw[G_ D]};(conv=>whnf);rw[J];(conv=>whnf);(try refine Au.run ?_);refine F_ D3 (D_ (v:=A_ (b).meet) E_ (BA J_ (k:=2) rfl) zA ?_);by_cases p:b.meet<0;{have u:zT (b.meet<0)=zW:=m_ p;have e:Dy ds f=(a,{(b)with meet:=(b).row,row:= -1}):=by{rw[q,t];unfold FH;rw[I_ p]};(conv=>whnf);rw[u];refine F_ De (D_ (v:=A_ (b).row) E_ (BA J_ (k:=4) rfl) zA (F_ D3 (FB (k:=2) (f':={(b)with meet:=(b).row}) J_ E_ zQ rfl rfl λG5 w l=>(F_ De (FB (k:=4) (f':={(b)with meet:=(b).row,row:= -1}) w E_ zQ rfl rfl λG6 c l=>?_)))));(conv=>whnf);rw[e];exact⟨_,_,c⟩};{have u:zT (b.meet<0)=zU:=j_ p;(conv=>whnf);rw[u];(conv=>whnf);(try refine Au.run ?_);refine F_ NX (D_ (v:=.int .u8 ((b).sign:Int)) uX (BA J_ (k:=3) rfl) zA ?_);by_cases z:b.sign=38;{have A:((b.sign:Int)==38)=zW:=by{rw[z];rfl};have e:Dy ds f=(a++[AJ 5 (b).meet (b).row],{(b)with meet:=((a).length:Int),row:= -1}):=by{rw[q,t];unfold FH;rw[G_ p];show(_++[AJ (if b.sign=38 then 5 else 6) _ _],_)=_;rw[I_ z]};(conv=>whnf);rw[A];refine Ap.heldZ (λk=>k=fb) [13] (sq [0,1,2,3,4,5,6,7,8,9] (.f 10 (sq [11,12] (.f 13 .e)))) rfl zX (F_ D3 (D_ (v:=A_ (b).meet) E_ (BA J_ (k:=2) rfl) rfl (F_ De (D_ (v:=A_ (b).row) E_ (BA J_ (k:=4) rfl) rfl ?_))));refine Ae.mk (Lo (op:=5) J_ (by unfold AW;omega) d.meet d.row zO) ?_;rintro _ G1 ⟨rfl,C,m,o,h⟩;refine⟨C,?_⟩;refine F_ D3 (FB (k:=2) (f':={(b)with meet:=((a).length:Int)}) h E_ zQ rfl rfl λG2 i l=>(F_ De (FB (k:=4) (f':={(b)with meet:=((a).length:Int),row:= -1}) i E_ zQ rfl rfl λG6 c l=>?_)));(conv=>whnf);rw[e];exact⟨_,_,c⟩};{have A:((b.sign:Int)==38)=zU:=beq_eq_false_iff_ne.2 zO;have e:Dy ds f=(a++[AJ 6 (b).meet (b).row],{(b)with meet:=((a).length:Int),row:= -1}):=by{rw[q,t];unfold FH;rw[G_ p];show(_++[AJ (if b.sign=38 then 5 else 6) _ _],_)=_;rw[G_ z]};(conv=>whnf);rw[A];refine Ap.heldZ (λk=>k=fb) [13] (sq [0,1,2,3,4,5,6,7,8,9] (.f 10 (sq [11,12] (.f 13 .e)))) rfl zX (F_ D3 (D_ (v:=A_ (b).meet) E_ (BA J_ (k:=2) rfl) rfl (F_ De (D_ (v:=A_ (b).row) E_ (BA J_ (k:=4) rfl) rfl ?_))));refine Ae.mk (Lo (op:=6) J_ (by unfold AW;omega) d.meet d.row zO) ?_;rintro _ G1 ⟨rfl,C,m,o,h⟩;refine⟨C,?_⟩;refine F_ D3 (FB (k:=2) (f':={(b)with meet:=((a).length:Int)}) h E_ zQ rfl rfl λG2 i l=>(F_ De (FB (k:=4) (f':={(b)with meet:=((a).length:Int),row:= -1}) i E_ zQ rfl rfl λG6 c l=>?_)));(conv=>whnf);rw[e];exact⟨_,_,c⟩}}}
def OP(o:B_ B H0 H (stP sb fb na nc fc n ds (fr++[f]) rest))(z:FrN f)(E:ds.length<=16777200):
  Aj prog 78 #[Y_ sb] H (λ_ H'=>∃p q,B_ B H0 H' (stP sb fb p q fc n (Fe ds f).1 (fr++[(Fe ds f).2]) rest)):=by
 have A:=W3 o;have r:=o.max 2 rfl;simp only[M_,i_,maxLen]at r;refine Aj.of_vc func78 rfl (call78 _) (Ae.mk (Rz o z zO) ?_);rintro F H1 ⟨h,i,J_⟩;have c:=X5 z (ds:=ds) zO;have d:=KA ds f;have l:Fe ds f=SG (Dy ds f).1 (Dy ds f).2:=rfl;obtain⟨b,a,C⟩:∃b a,Dy ds f=(b,a):=⟨_,_,rfl⟩;rw[C]at J_ c d l;replace J_:B_ B H0 H1 (stP sb fb h i fc n b (fr++[a]) rest):=J_;replace c:FrN a:=c;replace d:b.length<=ds.length+3:=d;replace l:Fe ds f=SG b a:=l;refine Ap.lex rfl zX (F_ BI ?_);refine lT (v:=.slice (T_ fb) n fc) CY ((J_.blk 0 rfl).ce rfl) ?_;refine F_ BI ?_;refine lT (v:=.slice (T_ fb) n fc) CY ((J_.blk 0 rfl).ce rfl) ?_;(conv=>whnf);rw[U_ (x:=(n:Int)-1) zO];refine wA (j:=fr.length) GV J_ 2 rfl zZ zO ?_;(conv=>whnf);try refine Au.run ?_
 refine F_ K7 (D_ (v:=A_ a.alt) E_ (BA J_ (k:=1) rfl) zA ?_);by_cases m:a.alt<0;{have s:zT (a.alt<0)=zW:=m_ m;have e:Fe ds f=(b,{a with alt:=a.meet,meet:= -1}):=by{rw[l];unfold SG;rw[I_ m]};(conv=>whnf);rw[s];refine F_ D3 (D_ (v:=A_ a.meet) E_ (BA J_ (k:=2) rfl) zA (F_ K7 (FB (k:=1) (f':={a with alt:=a.meet}) J_ E_ zQ rfl rfl λG5 t u=>(F_ D3 (FB (k:=2) (f':={a with alt:=a.meet,meet:= -1}) t E_ zQ rfl rfl λG6 g u=>?_)))));(conv=>whnf);rw[e];exact⟨_,_,g⟩};{have s:zT (a.alt<0)=zU:=j_ m;have e:Fe ds f=(b++[AJ 3 a.alt a.meet],{a with alt:=(b.length:Int),meet:= -1}):=by{rw[l];unfold SG;rw[G_ m]};(conv=>whnf);rw[s];refine Ap.heldZ (λk=>k=fb) [13] (sq [0,1,2,3,4,5,6,7,8,9] (.f 10 (sq [11,12] (.f 13 .e)))) rfl zX (F_ K7 (D_ (v:=A_ a.alt) E_ (BA J_ (k:=1) rfl) rfl (F_ D3 (D_ (v:=A_ a.meet) E_ (BA J_ (k:=2) rfl) rfl ?_))));refine Ae.mk (Lo (op:=3) J_ (by unfold AW;omega) c.alt c.meet zO) ?_;rintro _ G1 ⟨rfl,D,h,i,w⟩;refine⟨D,?_⟩;refine F_ K7 (FB (k:=1) (f':={a with alt:=(b.length:Int)}) w E_ zQ rfl rfl λG2 y u=>(F_ D3 (FB (k:=2) (f':={a with alt:=(b.length:Int),meet:= -1}) y E_ zQ rfl rfl λG6 g u=>?_)));(conv=>whnf);rw[e];exact⟨_,_,g⟩}
end
end
def B_.rebase(a:B_ B H0 H ps):B_ B H H ps:=⟨C_.refl _ _,λk b=>a.up b,N_ _,a.oks,a.rng,a.dis⟩
def B_.widen{H':Aa}(d:B_ B H0 H ps)(g:C_ (H_ H) H H')(N:Nat->Prop)(f:∀k,N k->H.size<=k/\k<H'.size):B_ (λk=>B k\/N k) H' H' ps:=by have a:=d.call g;refine⟨C_.refl _ _,λk b=>?_,N_ _,a.oks,λp e k b=>⟨λc=>?_,(a.rng p e k b).2⟩,a.dis⟩;{rcases b with b | b;{exact a.up b};{exact(f k b).2}};{rcases c with c | c;{exact(d.rng p e k b).1 c};{have:=(d.rng p e k b).2;have:=(f k c).1;omega}}
inductive ROp
 | alt
 | cat
 | and_
 | minus
def opR:ROp->ReM->ReM->ReM
 | .alt=>.alt
 | .cat=>.cat
 | .and_=>.and_
 | .minus=>.minus
def opF:ROp->FuncId
 | .alt=>131
 | .cat=>194
 | .and_=>167
 | .minus=>168
def Q6(op:ROp)(a b:ReM):(opR op a b).nodes=1+a.nodes+b.nodes:=by cases op<;>rfl
def W_(r:ReM):Nat:=min r.nodes 2001
def Ad(r:ReM)(fn:v_):List v_:=[A_ ((W_ r:Nat):Int),fn]
inductive Dg(B:Nat->Prop)(H:Aa):v_->ReM->Prop
 | leaf {b:Nat} {r:ReM}:B b->R_ H b 28 [An r]->Dg B H (.func (.func 214) #[] #[Y_ b]) r
 | join {b1 b2 b3:Nat} {va vb:v_} {ra rb:ReM} (op:ROp):B b1->B b2->B b3->R_ H b1 238 [.func (.func (opF op)) #[] #[]]->R_ H b2 142 (Ad ra va)->R_ H b3 142 (Ad rb vb)->
   Dg B H va ra->Dg B H vb rb->Dg B H (.func (.func 170) #[] #[Y_ b1,Y_ b2,Y_ b3]) (opR op ra rb)
 | star {b:Nat} {va:v_} {ra:ReM}:B b->R_ H b 142 (Ad ra va)->Dg B H va ra->Dg B H (.func (.func 230) #[] #[Y_ b]) (.star ra)
def Dg.frame{B':Nat->Prop}{H':Aa}(h:Dg B H v r)(k:C_ B H H')(s:∀k,B k->B' k):Dg B' H' v r:=by induction h with|leaf a b=>exact .leaf (s _ a) (b.agr k a)|join op a b e f g i _ _ c d=>exact .join op (s _ a) (s _ b) (s _ e) (f.agr k a) (g.agr k b) (i.agr k e) c d|star a b _ j=>exact .star (s _ a) (b.agr k a) j
def Xj{H':Aa}(b:C_ B H H')(c:∀k,B k->k<H.size){k:Nat}(a:B k):k<H'.size:=by have h:=b k a;rw[tU (c k a)]at h;exact(Array.getElem?_eq_some_iff.1 h).1
def lK(op:ROp)(a b:ReM)(H:Aa):BZ prog (opF op) #[An a,An b] H (An (opR op a b)):=by have⟨T1,c,d⟩:=Ke a;have⟨T2,e,e2⟩:=Ke b;cases op with|alt=>show BZ prog 131 #[An a,An b] H (.iface 305 (.agg #[An a,An b]));rw[d,e2];refine Aj.of_vc func131 rfl (call131 _) (Az underlying305 rfl _ rfl [.iface T1 c,.iface T2 e] rfl ?_);(conv=>whnf);exact⟨rfl,C_.refl _ _⟩|cat=>show BZ prog 194 #[An a,An b] H (.iface 105 (.agg #[An a,An b]));rw[d,e2];refine Aj.of_vc func194 rfl (call194 _) (Az underlying105 rfl _ rfl [.iface T1 c,.iface T2 e] rfl ?_);(conv=>whnf);exact⟨rfl,C_.refl _ _⟩|and_=>show BZ prog 167 #[An a,An b] H (.iface 64 (.agg #[An a,An b]));rw[d,e2];refine Aj.of_vc func167 rfl (call167 _) (Az underlying64 rfl _ rfl [.iface T1 c,.iface T2 e] rfl ?_);(conv=>whnf);exact⟨rfl,C_.refl _ _⟩|minus=>show BZ prog 168 #[An a,An b] H (.iface 65 (.agg #[An a,An b]));rw[d,e2];refine Aj.of_vc func168 rfl (call168 _) (Az underlying65 rfl _ rfl [.iface T1 c,.iface T2 e] rfl ?_);(conv=>whnf);exact⟨rfl,C_.refl _ _⟩
def NK(cap:Array v_):(((#[]:Array v_).toList++([]:List v_))++cap.toList).toArray=cap:=zZ
def aW(h:Dg B H v r)(t:∀k,B k->k<H.size):∃g cap,v= .func (.func g) #[] cap/\∀H',C_ B H H'->BZ prog g cap H' (An r):=by induction h with|@leaf b r h1 h2=>refine⟨_,_,rfl,λH' c=>?_⟩;have u:=h2.agr c h1;refine Aj.of_vc func214 rfl (call214 _) ?_;refine D_ (v:=An r) Ej (by rw[u.cell];rfl) zA ?_;(conv=>whnf);exact⟨rfl,C_.refl _ _⟩|@join b1 b2 b3 va vb ra rb op h1 h2 h3 h4 h5 h6 _ _ ih1 ih2=>refine⟨_,_,rfl,λH' c=>?_⟩;have p:=h4.agr c h1;have q:=h5.agr c h2;have s:=h6.agr c h3;obtain⟨g1,l,rfl,p1⟩:=ih1;obtain⟨g2,w,rfl,p2⟩:=ih2;refine Aj.of_vc func170 rfl (call170 _) (Ap.held (H_ H') 9 (sq [0,1,2,4,5] (.f 3 (.f 6 (.f 7 (.f 8 .e))))) rfl zX ?_);refine D_ (v:=.func (.func (opF op)) #[] #[]) AiM (by rw[p.cell];rfl) p.lt ?_;refine F_ NV ?_;refine D_ (v:=.func (.func g1) #[] l) Wd (by rw[q.cell];rfl) q.lt ?_;refine F_ NV ?_;refine D_ (v:=.func (.func g2) #[] w) Wd (by rw[s.cell];rfl) s.lt ?_;(conv=>whnf);rw[NK];refine Al (p1 H' c) λG1 a=>?_;refine⟨a,?_⟩;have m:C_ B H G1:=c.trans (a.mono λk j=>Xj c t j);(conv=>whnf);rw[NK];refine Al (p2 G1 m) λG2 n=>?_;have d:=a.trans (n.mono λk j=>Af a j);refine⟨d,?_⟩;refine Al (lK op ra rb G2) λG3 o=>?_;have i:=d.trans (o.mono λk j=>Af d j);refine⟨i,?_⟩;(conv=>whnf);refine⟨i,?_⟩;exact⟨rfl,i⟩|@star b va ra h1 h2 _ ih=>refine⟨_,_,rfl,λH' c=>?_⟩;have x:=h2.agr c h1;obtain⟨g1,l,rfl,p1⟩:=ih;refine Aj.of_vc func230 rfl (call230 _) (F_ NV ?_);refine D_ (v:=.func (.func g1) #[] l) Wd (by rw[x.cell];rfl) zA ?_;(conv=>whnf);rw[NK];refine Al (p1 H' c) λG1 a=>?_;have⟨T1,y,z⟩:=Ke ra;show _;rw[show An (.star ra)= .iface 310 (.agg #[An ra])from rfl];rw[z];refine Az underlying310 rfl _ rfl [.iface T1 y] rfl ?_;(conv=>whnf);exact⟨rfl,a⟩
structure S7(B:Nat->Prop)(H:Aa)(ps:List Pc)(r:ReM)(v:v_)(H':Aa):Prop where
 ex:∃(B':Nat->Prop) (fn:v_),v= .agg (Ad r fn).toArray/\(∀k,B k->B' k)/\C_ (H_ H) H H'/\B_ B' H' H' ps/\Dg B' H' fn r
def Dg.fn(h:Dg B H v r):∃g c,v= .func (.func g) #[] c:=by cases h<;>exact⟨_,_,rfl⟩
def CT{l:List v_}(h:l.length=2):Ak l 0 (Ad r v)=Ad r v:=AT (by rw[h];rfl)
def A0(h:R_ H b 142 (Ad r v)):Bn H b 0 (Ad r v):=h.cells (λj v a=>by rw[K_];exact a)
def Ar:List v_:=[A_ 0,.nilFunc]
def DO:(prog.info? 142).bind (·.zero)=zY (.agg Ar.toArray):=zX
def SX(n:Nat)(a:n<1152921504606846976)(H:Aa):BZ prog 169 #[A_ n] H (.int .i64 ((min n 2001:Nat):Int)):=by refine Aj.of_vc func169 rfl (call169 _) (jV ?_);(conv=>whnf);refine⟨?_,C_.refl _ _⟩;congr 1;split<;>omega
def GQ(r:ReM):W_ r<=2001:=Nat.min_le_right _ _
def RM(m:B_ B H0 H ps)(n:r.nodes=1):Aj prog 191 #[An r] H (S7 B H ps r):=by refine Aj.of_vc func191 rfl (call191 _) ?_;have⟨T1,o,l⟩:=Ke r;rw[l];refine Cd [.iface T1 o] rfl ?_;intro b H1 p s g h;refine Ag (.agg Ar.toArray) Ar DO rfl ?_;intro q H2 t u i c;refine Az underlying142 rfl _ rfl (Ad r (.func (.func 214) #[] #[Y_ b])) (by unfold Ad W_;rw[n];rfl) ?_;refine wM (cs:=Ad r (.func (.func 214) #[] #[Y_ b])) rfl i (by simp[Ad,Ar]) rfl ?_;intro H3 d e v;rw[CT rfl]at d;refine lN (cs:=Ad r (.func (.func 214) #[] #[Y_ b])) Bg (A0 d) ?_;have j:C_ (H_ H) H H2:=(h.mono λk a=>by have:k<H.size:=a;omega).trans (c.mono λk a=>by have:k<H.size:=a;omega);have f:C_ (H_ H) H H3:=j.trans (e.mono λk a=>by have:k<H.size:=a;omega);have w:R_ H3 b 28 [An r]:=by{rw[l];exact(g.agr c (zO:b<q)).agr e (zO:b≠q)};exact⟨_,_,rfl,λk a=>.inl a,f,m.widen f (λk=>k=b) (λk a=>zO),.leaf (.inr rfl) w⟩
def GM{ra c:ReM}{vb:v_}(op:ROp)(F:B_ B H0 H ps)(G:Dg B H va ra)(I:Dg B H vb c):
  Aj prog 130 #[.agg (Ad ra va).toArray,.agg (Ad c vb).toArray,.func (.func (opF op)) #[] #[]] H (S7 B H ps (opR op ra c)):=by
 obtain⟨g1,J,rfl⟩:=G.fn;obtain⟨g2,K,rfl⟩:=I.fn;have Y:=GQ ra;have Z:=GQ c;refine Aj.of_vc func130 rfl (call130 _) (Cd (Ad ra (.func (.func g1) #[] J)) rfl ?_);intro d H1 N O y z;refine Cd (Ad c (.func (.func g2) #[] K)) rfl ?_;intro f H2 P Q A p;refine Cd [.func (.func (opF op)) #[] #[]] rfl ?_;intro g H3 R S C n;refine Ag (.agg Ar.toArray) Ar DO rfl ?_;intro q H4 T U r i;have L:R_ H4 d 142 (Ad ra (.func (.func g1) #[] J)):=((y.agr p (zO:d<f)).agr n (zO:d<g)).agr i (zO:d<q);have M:R_ H4 f 142 (Ad c (.func (.func g2) #[] K)):=(A.agr n (zO:f<g)).agr i (zO:f<q);have V:R_ H4 g 238 [.func (.func (opF op)) #[] #[]]:=C.agr i (zO:g<q);refine F_ NU ?_;refine D_ (v:=A_ ((W_ ra:Nat):Int)) E_ (by rw[L.cell];rfl) zA ?_;(conv=>whnf);rw[U_ (x:=1+((W_ ra:Nat):Int)) zO];refine F_ NU ?_;refine D_ (v:=A_ ((W_ c:Nat):Int)) E_ (by rw[M.cell];rfl) zA ?_;(conv=>whnf);rw[U_ (x:=1+((W_ ra:Nat):Int)+((W_ c:Nat):Int)) zO];rw[(zO:1+((W_ ra:Nat):Int)+((W_ c:Nat):Int)=((1+W_ ra+W_ c:Nat):Int))];refine Al (SX (1+W_ ra+W_ c) zO H4) λH5 j=>?_;have D:min (1+W_ ra+W_ c) 2001=W_ (opR op ra c):=by unfold W_;rw[Q6];omega
 rw[D];have W:=Ad (opR op ra c) (.func (.func 170) #[] #[Y_ g,Y_ d,Y_ f]);refine Az underlying142 rfl _ rfl (Ad (opR op ra c) (.func (.func 170) #[] #[Y_ g,Y_ d,Y_ f])) rfl (wM (cs:=Ad (opR op ra c) (.func (.func 170) #[] #[Y_ g,Y_ d,Y_ f])) rfl (r.agr j r.lt) (by simp[Ad,Ar]) rfl ?_);intro H6 s t X;rw[CT rfl]at s;refine lN (cs:=Ad (opR op ra c) (.func (.func 170) #[] #[Y_ g,Y_ d,Y_ f])) Bg (A0 s) ?_;have u:C_ (H_ H) H H4:=(((z.mono λk a=>by have:k<H.size:=a;omega).trans (p.mono λk a=>by have:k<H.size:=a;omega)).trans (n.mono λk a=>by have:k<H.size:=a;omega)).trans (i.mono λk a=>by have:k<H.size:=a;omega);have o:C_ (H_ H) H H6:=(u.trans (j.mono λk a=>Af u a)).trans (t.mono λk a=>by have:k<H.size:=a;omega);have l5:=Bl j;have m:∀{b:Nat} {e:x_} {l:List v_},R_ H4 b e l->b≠q->R_ H6 b e l:=λh E=>(h.agr j h.lt).agr t E;have w:C_ B H H6:=o.mono λk a=>F.up a;exact⟨_,_,rfl,λk a=>.inl a,o,F.widen o (λk=>k=g\/k=d\/k=f) (λk a=>by rcases a with rfl | rfl | rfl<;>omega),.join op (.inr (.inl rfl)) (.inr (.inr (.inl rfl))) (.inr (.inr (.inr rfl))) (m V zO) (m L zO) (m M zO) (G.frame w λk a=>.inl a) (I.frame w λk a=>.inl a)⟩
def PF{ra:ReM}(p:B_ B H0 H ps)(r:Dg B H va ra):
  Aj prog 215 #[.agg (Ad ra va).toArray] H (S7 B H ps (.star ra)):=by
 obtain⟨g1,s,rfl⟩:=r.fn;have A:=GQ ra;refine Aj.of_vc func215 rfl (call215 _) (Cd (Ad ra (.func (.func g1) #[] s)) rfl ?_);intro c H1 t u j l;refine Ag (.agg Ar.toArray) Ar DO rfl ?_;intro q H4 w y e f;have m:R_ H4 c 142 (Ad ra (.func (.func g1) #[] s)):=j.agr f (zO:c<q);refine F_ NU ?_;refine D_ (v:=A_ ((W_ ra:Nat):Int)) E_ (by rw[m.cell];rfl) zA ?_;(conv=>whnf);rw[U_ (x:=1+((W_ ra:Nat):Int)) zO];rw[(zO:1+((W_ ra:Nat):Int)=((1+W_ ra:Nat):Int))];refine Al (SX (1+W_ ra) zO H4) λH5 b=>?_;have n:min (1+W_ ra) 2001=W_ (.star ra):=by unfold W_;show _=min (1+ra.nodes) 2001;omega
 rw[n];refine Az underlying142 rfl _ rfl (Ad (.star ra) (.func (.func 230) #[] #[Y_ c])) rfl (wM (cs:=Ad (.star ra) (.func (.func 230) #[] #[Y_ c])) rfl (e.agr b e.lt) (by simp[Ad,Ar]) rfl ?_);intro H6 g h z;rw[CT rfl]at g;refine lN (cs:=Ad (.star ra) (.func (.func 230) #[] #[Y_ c])) Bg (A0 g) ?_;have i:C_ (H_ H) H H4:=(l.mono λk a=>by have:k<H.size:=a;omega).trans (f.mono λk a=>by have:k<H.size:=a;omega);have d:C_ (H_ H) H H6:=(i.trans (b.mono λk a=>Af i a)).trans (h.mono λk a=>by have:k<H.size:=a;omega);have C:=Bl b;have o:C_ B H H6:=d.mono λk a=>p.up a;exact⟨_,_,rfl,λk a=>.inl a,d,p.widen d (λk=>k=c) (λk a=>zO),.star (.inr rfl) ((m.agr b m.lt).agr h (zO:c≠q)) (r.frame o λk a=>.inl a)⟩
def Oh{ra:ReM}(A:B_ B H0 H ps)(C:Dg B H va ra):
  Aj prog 216 #[.agg (Ad ra va).toArray] H (S7 B H ps (B8 ra)):=by obtain⟨g1,l,rfl⟩:=C.fn;refine Aj.of_vc func216 rfl (call216 _) (Cd (Ad ra (.func (.func g1) #[] l)) rfl ?_);intro D H1 m I n g;refine Ag (.agg Ar.toArray) Ar DO rfl ?_;intro q H4 o p s d;have E:R_ H4 D 142 (Ad ra (.func (.func g1) #[] l)):=n.agr d (zO:D<q);have b:C_ (H_ H) H H4:=(g.mono λk a=>by have:k<H.size:=a;omega).trans (d.mono λk a=>by have:k<H.size:=a;omega);have t:=(A.skip m g).box o p s d;refine Ap.heldZ (H_ H4) [5] (sq [0,1,2] (.f 3 (.f 4 (.f 5 .e)))) rfl zX (L_ (cs:=Ad ra (.func (.func g1) #[] l)) Bg (A0 E) E.lt (Az underlying98 rfl _ rfl [] rfl (Ae.mk (RM (r:=.eps) t rfl) ?_)));rintro _ H5 ⟨B1,M,rfl,F,j,u,ge⟩;refine⟨j,?_⟩;have h:C_ B H H5:=(b.trans (j.mono λk a=>Af b a)).mono λk a=>A.up a;refine Ae.mk (GM .alt u (C.frame h F) ge) ?_;rintro _ H6 ⟨B2,N,rfl,J,K,v,G⟩;have i:=j.trans (K.mono λk a=>Af j a);refine⟨i,?_⟩;obtain⟨g2,w,rfl⟩:=G.fn;refine BC (cs:=Ad (B8 ra) (.func (.func g2) #[] w)) v _ rfl (Ft _ _) (by simp[Ad,Ar]) rfl λH7 c x L=>?_;rw[TE,CT rfl]at c;have y:R_ H7 q 142 (Ad (B8 ra) (.func (.func g2) #[] w)):=c.blk _ (Ft _ _);refine lN (cs:=Ad (B8 ra) (.func (.func g2) #[] w)) Bg (A0 y) ?_;have z:C_ (H_ H) H H6:=b.trans (i.mono λk a=>Af b a);exact⟨B2,_,rfl,λk a=>J k (F k a),z.trans (x.mono λk a=>by have:k<H.size:=a;omega),c.lft.rebase,G.frame c.old λk a=>a⟩
def Kk(a:ReM)(m:Nat):Cr a m 1=zY (if 0<m then a else B8 a):=rfl
def XS(a:ReM)(m k:Nat)(h:1<=k):∃r,Cr a m k=zY r:=by obtain⟨j,rfl⟩:∃j,k=j+1:=⟨k-1,zO⟩;exact⟨_,rfl⟩
def DV(a:ReM)(m k:Nat)(h:1<=k):(Cr a m (k+1)).getD .eps= .cat ((Cr a m k).getD .eps) (if k<m then a else B8 a):=by have⟨r,b⟩:=XS a m k h;show(zY (YQ (Cr a m k) (if k<m then a else B8 a))).getD .eps=_;rw[b];rfl
def NH(ps:List Pc)(b3 q6 q7:Nat)(a out:ReM)(va fn:v_):List Pc:=ps++[pB 142 b3 (Ad a va),pB 142 q6 Ar,pB 142 q7 (Ad out fn)]
structure Xi(B:Nat->Prop)(H:Aa)(ps:List Pc)(b3 q6 q7:Nat)(a out:ReM)(va:v_)(G:Aa):Prop where
 ex:∃(B':Nat->Prop) (fn:v_),(∀k,B k->B' k)/\C_ (H_ H) H G/\B_ B' G G (NH ps b3 q6 q7 a out va fn)/\Dg B' G va a/\Dg B' G fn out
def Xc{a:ReM}{m:Nat}{n:Int}(Z:B_ B H0 H ps)(Y:Dg B H va a)(hm:m<=255)(b4: -1<=n)(b5:n<=255)(b6:0<=n->(m:Int)<=n):
  Aj prog 232 #[.agg (Ad a va).toArray,A_ m,A_ n] H (S7 B H ps (C3 a m n)):=by obtain⟨g1,o,rfl⟩:=Y.fn;refine Aj.of_vc func232 rfl (call232 _) (Cd (Ad a (.func (.func g1) #[] o)) rfl ?_);intro P H1 ao ap aq a0;have J_:=Z.box ao ap aq a0;refine Ag (.agg Ar.toArray) Ar DO rfl ?_;intro I H2 ar au aw aj;have Q:=J_.box ar au aw aj;have q:C_ (H_ H) H H2:=(a0.mono λk b=>by have:k<H.size:=b;omega).trans (aj.mono λk b=>by have:k<H.size:=b;omega);have ak:C_ B H H2:=q.mono λk b=>Z.up b;rw[zN]at Q;have ax:=Y.frame ak λk b=>b;have a4:R_ H2 P 142 (Ad a (.func (.func g1) #[] o)):=Q.blk _ (Ft _ _);by_cases h1:m=0/\n<0;{have T:((m:Int)==0)=zW:=by{rw[h1.1];rfl};have U:zT (n<0)=zW:=m_ h1.2;(conv=>whnf);rw[T];(conv=>whnf);rw[U];refine L_ (cs:=Ad a (.func (.func g1) #[] o)) Bg (A0 a4) zA (Ae.mk (PF Q ax) ?_);rintro _ H3 ⟨B1,f1,rfl,p,a1,D,J⟩;obtain⟨g2,h,rfl⟩:=J.fn;refine BC (cs:=Ad (.star a) (.func (.func g2) #[] h)) D _ rfl (S_ ps _ 1) (by simp[Ad,Ar]) rfl λH4 g K a5=>?_;rw[N',CT rfl]at g;have s:R_ H4 I 142 (Ad (.star a) (.func (.func g2) #[] h)):=g.blk _ (S_ ps _ 1);refine lN (cs:=Ad (.star a) (.func (.func g2) #[] h)) Bg (A0 s) ?_;have e:C3 a m n= .star a:=by{unfold C3;rw[I_ h1.2,I_ h1.1]};rw[e];exact⟨B1,_,rfl,p,(q.trans (a1.mono λk b=>Af q b)).trans (K.mono λk b=>by have:k<H.size:=b;omega),g.lft.rebase,J.frame g.old λk b=>b⟩};by_cases h2:m=0/\n=0;{have T:((m:Int)==0)=zW:=by{rw[h2.1];rfl};have U:zT (n<0)=zU:=Z_;have d3:(n==0)=zW:=by{rw[h2.2];rfl};(conv=>whnf);rw[T];(conv=>whnf);rw[U];(conv=>whnf);rw[T];(conv=>whnf);rw[d3];refine Az underlying98 rfl _ rfl [] rfl (Ae.mk (RM (r:=.eps) Q rfl) ?_);rintro _ H3 ⟨B1,f1,rfl,p,a1,D,J⟩;obtain⟨g2,h,rfl⟩:=J.fn;refine BC (cs:=Ad .eps (.func (.func g2) #[] h)) D _ rfl (S_ ps _ 1) (by simp[Ad,Ar]) rfl λH4 g K a5=>?_;rw[N',CT rfl]at g;have s:R_ H4 I 142 (Ad .eps (.func (.func g2) #[] h)):=g.blk _ (S_ ps _ 1);refine lN (cs:=Ad .eps (.func (.func g2) #[] h)) Bg (A0 s) ?_;have e:C3 a m n= .eps:=by{unfold C3;rw[G_ zO,I_ h2.2]};rw[e];exact⟨B1,_,rfl,p,(q.trans (a1.mono λk b=>Af q b)).trans (K.mono λk b=>by have:k<H.size:=b;omega),g.lft.rebase,J.frame g.old λk b=>b⟩};by_cases ay:m=0;{have T:((m:Int)==0)=zW:=by{rw[ay];rfl};have U:zT (n<0)=zU:=Z_;have d3:(n==0)=zU:=beq_eq_false_iff_ne.2 zO;(conv=>whnf);rw[T];(conv=>whnf);rw[U];(conv=>whnf);rw[T];(conv=>whnf);rw[d3];refine L_ (cs:=Ad a (.func (.func g1) #[] o)) Bg (A0 a4) zA (Ag (.agg Ar.toArray) Ar DO rfl ?_);intro L H3 a6 a7 a8 V;have D:=Q.box a6 a7 a8 V;rw[zN]at D;refine BC (cs:=Ad a (.func (.func g1) #[] o)) D _ rfl (S_ ps _ 2) (by simp[Ad,Ar]) rfl λH4 g K a5=>?_;rw[N']at g;replace g:B_ B H0 H4 (NH ps P I L a a (.func (.func g1) #[] o) (.func (.func g1) #[] o)):=by{have e:Ak Ar 0 (Ad a (.func (.func g1) #[] o))=Ad a (.func (.func g1) #[] o):=CT rfl;have:=g;rw[e]at this;exact this};have R:C_ (H_ H) H H4:=(q.trans (V.mono λk b=>by have:=Af q b;omega)).trans (K.mono λk b=>by have:k<H.size:=b;omega);have O:C_ B H H4:=R.mono λk b=>Z.up b;have n3:H.size<=L:=by{have:=Bl q;omega};have n6:H.size<=I:=by{have:=Bl (show C_ (H_ H) H H1 from a0.mono λk b=>by have:k<H.size:=b;omega);omega};(conv=>whnf);refine Au.cut [] (λ_:Unit=>[]) (λ_ G=>Xi B H ps P I L a ((Cr a m 1).getD .eps) (.func (.func g1) #[] o) G) ?_ ?_;{(conv=>whnf);rw[T];refine L_ (cs:=Ad a (.func (.func g1) #[] o)) Bg (A0 (g.blk _ (Ft _ _))) zA (Ae.mk (Oh g (Y.frame O λk b=>b)) ?_);rintro _ H5 ⟨B1,f1,rfl,p,a1,az,J⟩;obtain⟨g2,h,rfl⟩:=J.fn;refine BC (cs:=Ad (B8 a) (.func (.func g2) #[] h)) az _ rfl (S_ ps _ 2) (by simp[Ad]) rfl λH6 W b0 b7=>?_;unfold NH at W;rw[N']at W;have e6:Ak (Ad a (.func (.func g1) #[] o)) 0 (Ad (B8 a) (.func (.func g2) #[] h))=Ad (B8 a) (.func (.func g2) #[] h):=CT rfl;rw[e6]at W;(conv=>whnf);have am:C_ (H_ H) H H6:=(R.trans (a1.mono λk b=>Af R b)).trans (b0.mono λk b=>by have:k<H.size:=b;omega);refine⟨rfl,(),rfl,⟨B1,.func (.func g2) #[] h,p,am,?_,Y.frame (am.mono λk b=>Z.up b) p,?_⟩⟩;{rw[Kk,G_ zO];exact W.rebase};{rw[Kk,G_ zO];exact J.frame W.old λk b=>b}};{rintro⟨⟩ G0 a9 X;(conv=>whnf);refine Ay.mk [8] (λk:Nat=>[A_ k]) (λk G=>1<=k/\k<=max m 1/\Xi B H ps P I L a ((Cr a m k).getD .eps) (.func (.func g1) #[] o) G) (λk _=>max m 1-k) ?_ ?_;{(conv=>whnf);exact⟨1,rfl,N_ _,zO,X⟩};{rintro k G ab ⟨M,ae,⟨B1,f1,p,A,d,S,C⟩⟩;obtain⟨t,u,rfl⟩:=C.fn;refine AD.m2 (λhz=>?_) (λhz=>?_);{(conv=>whnf);(try refine Au.run ?_);refine L_ (cs:=Ad ((Cr a m k).getD .eps) (.func (.func t) #[] u)) Bg (A0 (d.blk _ (S_ ps _ 2))) zA (L_ (cs:=Ad a (.func (.func g1) #[] o)) Bg (A0 (d.blk _ (Ft ps _))) zA (Ae.mk (GM .cat d C S) ?_));rintro _ G1 ⟨B2,f2,rfl,E,v,w,F⟩;obtain⟨g2,h,rfl⟩:=F.fn;refine BC (cs:=Ad (opR .cat ((Cr a m k).getD .eps) a) (.func (.func g2) #[] h)) w _ rfl (S_ ps _ 2) (by simp[Ad]) rfl λG3 i j N=>?_;unfold NH at i;rw[N']at i;have e:Ak (Ad ((Cr a m k).getD .eps) (.func (.func t) #[] u)) 0 (Ad (opR .cat ((Cr a m k).getD .eps) a) (.func (.func g2) #[] h))=Ad (opR .cat ((Cr a m k).getD .eps) a) (.func (.func g2) #[] h):=CT rfl;rw[e]at i;(conv=>whnf);rw[Q_ k zO];have y:C_ (H_ H) H G3:=(A.trans (v.mono λk b=>Af A b)).trans (j.mono λk b=>by have:k<H.size:=b;omega);refine⟨rfl,k+1,rfl,⟨zO,zO,⟨B2,.func (.func g2) #[] h,λk b=>E k (p k b),y,?_,Y.frame (y.mono λk b=>Z.up b) λk b=>E k (p k b),?_⟩⟩,zO⟩;{rw[DV _ _ _ M,I_ zO];exact i.rebase};{rw[DV _ _ _ M,I_ zO];exact F.frame i.old λk b=>b}};{obtain rfl:k=max m 1:=zO;by_cases hn:n<0;{have U:zT (n<0)=zW:=m_ hn;have ah:max m 1=m:=zO;rw[ah]at C d;(conv=>whnf);(try refine Au.run ?_);(conv=>whnf);rw[U];refine Ap.heldZ (H_ G) [4] (sq [0,1] (.f 2 (.f 3 (.f 4 .e)))) rfl zX (L_ (cs:=Ad ((Cr a m m).getD .eps) (.func (.func t) #[] u)) Bg (A0 (d.blk _ (S_ ps _ 2))) ((d.in_ _ (S_ ps _ 2) (k:=L) rfl).2) (L_ (cs:=Ad a (.func (.func g1) #[] o)) Bg (A0 (d.blk _ (Ft ps _))) ((d.in_ _ (Ft ps _) (k:=P) rfl).2) (Ae.mk (PF d S) ?_)));rintro _ G1 ⟨B2,f2,rfl,E,v,w,J⟩;refine⟨v,?_⟩;have l:C_ B1 G G1:=v.mono λk b=>d.up b;refine Ae.mk (GM .cat w (C.frame l E) J) ?_;rintro _ G2 ⟨B3,f3,rfl,s3,a3,i,F⟩;have z:=v.trans (a3.mono λk b=>Af v b);refine⟨z,?_⟩;obtain⟨g2,h,rfl⟩:=F.fn;refine BC (cs:=Ad (opR .cat ((Cr a m m).getD .eps) (.star a)) (.func (.func g2) #[] h)) i _ rfl (S_ ps _ 1) (by simp[Ad,Ar]) rfl λG3 c j N=>?_;unfold NH at c;rw[N',CT rfl]at c;have s:R_ G3 I 142 (Ad (opR .cat ((Cr a m m).getD .eps) (.star a)) (.func (.func g2) #[] h)):=c.blk _ (S_ ps _ 1);refine lN (cs:=Ad (opR .cat ((Cr a m m).getD .eps) (.star a)) (.func (.func g2) #[] h)) Bg (A0 s) ?_;have e:C3 a m n=opR .cat ((Cr a m m).getD .eps) (.star a):=by{unfold C3;rw[I_ hn,G_ zO]<;>rfl};rw[e];exact⟨B3,_,rfl,λk b=>s3 k (E k (p k b)),(A.trans (z.mono λk b=>Af A b)).trans (j.mono λk b=>by have:k<H.size:=b;omega),c.lft.rebase,F.frame c.old λk b=>b⟩};{have U:zT (n<0)=zU:=j_ hn;obtain⟨nn,rfl⟩:=xK (zO:0<=n);(conv=>whnf);(try refine Au.run ?_);(conv=>whnf);refine Ay.mk [8] (λk:Nat=>[A_ k]) (λk G=>max m 1<=k/\k<=nn/\Xi B H ps P I L a ((Cr a m k).getD .eps) (.func (.func g1) #[] o) G) (λk _=>nn-k) ?_ ?_;{(conv=>whnf);exact⟨max m 1,rfl,N_ _,zO,⟨B1,.func (.func t) #[] u,p,A,d,S,C⟩⟩};{clear p A d S C B1;rintro k G ai ⟨M,ae,⟨B1,f1,p,A,d,S,C⟩⟩;obtain⟨t,u,rfl⟩:=C.fn;refine AD.m2 (λhz=>?_) (λhz=>?_);{(conv=>whnf);(try refine Au.run ?_);refine Ap.heldZ (H_ G) [4] (sq [0,1] (.f 2 (.f 3 (.f 4 .e)))) rfl zX (L_ (cs:=Ad ((Cr a m k).getD .eps) (.func (.func t) #[] u)) Bg (A0 (d.blk _ (S_ ps _ 2))) ((d.in_ _ (S_ ps _ 2) (k:=L) rfl).2) (L_ (cs:=Ad a (.func (.func g1) #[] o)) Bg (A0 (d.blk _ (Ft ps _))) ((d.in_ _ (Ft ps _) (k:=P) rfl).2) (Ae.mk (Oh d S) ?_)));rintro _ G1 ⟨B2,f2,rfl,E,v,w,J⟩;refine⟨v,?_⟩;have l:C_ B1 G G1:=v.mono λk b=>d.up b;refine Ae.mk (GM .cat w (C.frame l E) J) ?_;rintro _ G2 ⟨B3,f3,rfl,s3,a3,i,F⟩;have z:=v.trans (a3.mono λk b=>Af v b);refine⟨z,?_⟩;obtain⟨g2,h,rfl⟩:=F.fn;refine BC (cs:=Ad (opR .cat ((Cr a m k).getD .eps) (B8 a)) (.func (.func g2) #[] h)) i _ rfl (S_ ps _ 2) (by simp[Ad]) rfl λG3 c j N=>?_;unfold NH at c;rw[N']at c;have e:Ak (Ad ((Cr a m k).getD .eps) (.func (.func t) #[] u)) 0 (Ad (opR .cat ((Cr a m k).getD .eps) (B8 a)) (.func (.func g2) #[] h))=Ad (opR .cat ((Cr a m k).getD .eps) (B8 a)) (.func (.func g2) #[] h):=CT rfl;rw[e]at c;(conv=>whnf);rw[Q_ k zO];have y:C_ (H_ H) H G3:=(A.trans (z.mono λk b=>Af A b)).trans (j.mono λk b=>by have:k<H.size:=b;omega);refine⟨rfl,k+1,rfl,⟨zO,zO,⟨B3,.func (.func g2) #[] h,λk b=>s3 k (E k (p k b)),y,?_,Y.frame (y.mono λk b=>Z.up b) λk b=>s3 k (E k (p k b)),?_⟩⟩,zO⟩;{rw[DV _ _ _ zO,G_ zO];exact c.rebase};{rw[DV _ _ _ zO,G_ zO];exact F.frame c.old λk b=>b}};{obtain rfl:k=nn:=zO;refine L_ (cs:=Ad ((Cr a m k).getD .eps) (.func (.func t) #[] u)) Bg (A0 (d.blk _ (S_ ps _ 2))) zA (BC (cs:=Ad ((Cr a m k).getD .eps) (.func (.func t) #[] u)) d _ rfl (S_ ps _ 1) (by simp[Ad,Ar]) rfl λG3 c j N=>?_);unfold NH at c;rw[N',CT rfl]at c;have s:R_ G3 I 142 (Ad ((Cr a m k).getD .eps) (.func (.func t) #[] u)):=c.blk _ (S_ ps _ 1);refine lN (cs:=Ad ((Cr a m k).getD .eps) (.func (.func t) #[] u)) Bg (A0 s) ?_;have e:C3 a m (k:Int)=(Cr a m k).getD .eps:=by{unfold C3;rw[G_ zO,G_ zO,zB]};rw[e];exact⟨B1,_,rfl,p,A.trans (j.mono λk b=>by have:k<H.size:=b;omega),c.lft.rebase,C.frame c.old λk b=>b⟩}}}}}}};{have T:((m:Int)==0)=zU:=beq_eq_false_iff_ne.2 zO;(conv=>whnf);rw[T];(conv=>whnf);rw[T];refine L_ (cs:=Ad a (.func (.func g1) #[] o)) Bg (A0 a4) zA (Ag (.agg Ar.toArray) Ar DO rfl ?_);intro L H3 a6 a7 a8 V;have D:=Q.box a6 a7 a8 V;rw[zN]at D;refine BC (cs:=Ad a (.func (.func g1) #[] o)) D _ rfl (S_ ps _ 2) (by simp[Ad,Ar]) rfl λH4 g K a5=>?_;rw[N']at g;replace g:B_ B H0 H4 (NH ps P I L a a (.func (.func g1) #[] o) (.func (.func g1) #[] o)):=by{have e:Ak Ar 0 (Ad a (.func (.func g1) #[] o))=Ad a (.func (.func g1) #[] o):=CT rfl;have:=g;rw[e]at this;exact this};have R:C_ (H_ H) H H4:=(q.trans (V.mono λk b=>by have:=Af q b;omega)).trans (K.mono λk b=>by have:k<H.size:=b;omega);have O:C_ B H H4:=R.mono λk b=>Z.up b;have n3:H.size<=L:=by{have:=Bl q;omega};have n6:H.size<=I:=by{have:=Bl (show C_ (H_ H) H H1 from a0.mono λk b=>by have:k<H.size:=b;omega);omega};(conv=>whnf);refine Au.cut [] (λ_:Unit=>[]) (λ_ G=>Xi B H ps P I L a ((Cr a m 1).getD .eps) (.func (.func g1) #[] o) G) ?_ ?_;{(conv=>whnf);rw[T];(conv=>whnf);refine⟨rfl,(),rfl,⟨B,.func (.func g1) #[] o,λk b=>b,R,?_,Y.frame O λk b=>b,?_⟩⟩;{rw[Kk,I_ zO];exact g.rebase};{rw[Kk,I_ zO];exact Y.frame O λk b=>b}};{rintro⟨⟩ G0 a9 X;(conv=>whnf);refine Ay.mk [8] (λk:Nat=>[A_ k]) (λk G=>1<=k/\k<=max m 1/\Xi B H ps P I L a ((Cr a m k).getD .eps) (.func (.func g1) #[] o) G) (λk _=>max m 1-k) ?_ ?_;{(conv=>whnf);exact⟨1,rfl,N_ _,zO,X⟩};{rintro k G ab ⟨M,ae,⟨B1,f1,p,A,d,S,C⟩⟩;obtain⟨t,u,rfl⟩:=C.fn;refine AD.m2 (λhz=>?_) (λhz=>?_);{(conv=>whnf);(try refine Au.run ?_);refine L_ (cs:=Ad ((Cr a m k).getD .eps) (.func (.func t) #[] u)) Bg (A0 (d.blk _ (S_ ps _ 2))) zA (L_ (cs:=Ad a (.func (.func g1) #[] o)) Bg (A0 (d.blk _ (Ft ps _))) zA (Ae.mk (GM .cat d C S) ?_));rintro _ G1 ⟨B2,f2,rfl,E,v,w,F⟩;obtain⟨g2,h,rfl⟩:=F.fn;refine BC (cs:=Ad (opR .cat ((Cr a m k).getD .eps) a) (.func (.func g2) #[] h)) w _ rfl (S_ ps _ 2) (by simp[Ad]) rfl λG3 i j N=>?_;unfold NH at i;rw[N']at i;have e:Ak (Ad ((Cr a m k).getD .eps) (.func (.func t) #[] u)) 0 (Ad (opR .cat ((Cr a m k).getD .eps) a) (.func (.func g2) #[] h))=Ad (opR .cat ((Cr a m k).getD .eps) a) (.func (.func g2) #[] h):=CT rfl;rw[e]at i;(conv=>whnf);rw[Q_ k zO];have y:C_ (H_ H) H G3:=(A.trans (v.mono λk b=>Af A b)).trans (j.mono λk b=>by have:k<H.size:=b;omega);refine⟨rfl,k+1,rfl,⟨zO,zO,⟨B2,.func (.func g2) #[] h,λk b=>E k (p k b),y,?_,Y.frame (y.mono λk b=>Z.up b) λk b=>E k (p k b),?_⟩⟩,zO⟩;{rw[DV _ _ _ M,I_ zO];exact i.rebase};{rw[DV _ _ _ M,I_ zO];exact F.frame i.old λk b=>b}};{obtain rfl:k=max m 1:=zO;by_cases hn:n<0;{have U:zT (n<0)=zW:=m_ hn;have ah:max m 1=m:=zO;rw[ah]at C d;(conv=>whnf);(try refine Au.run ?_);(conv=>whnf);rw[U];refine Ap.heldZ (H_ G) [4] (sq [0,1] (.f 2 (.f 3 (.f 4 .e)))) rfl zX (L_ (cs:=Ad ((Cr a m m).getD .eps) (.func (.func t) #[] u)) Bg (A0 (d.blk _ (S_ ps _ 2))) ((d.in_ _ (S_ ps _ 2) (k:=L) rfl).2) (L_ (cs:=Ad a (.func (.func g1) #[] o)) Bg (A0 (d.blk _ (Ft ps _))) ((d.in_ _ (Ft ps _) (k:=P) rfl).2) (Ae.mk (PF d S) ?_)));rintro _ G1 ⟨B2,f2,rfl,E,v,w,J⟩;refine⟨v,?_⟩;have l:C_ B1 G G1:=v.mono λk b=>d.up b;refine Ae.mk (GM .cat w (C.frame l E) J) ?_;rintro _ G2 ⟨B3,f3,rfl,s3,a3,i,F⟩;have z:=v.trans (a3.mono λk b=>Af v b);refine⟨z,?_⟩;obtain⟨g2,h,rfl⟩:=F.fn;refine BC (cs:=Ad (opR .cat ((Cr a m m).getD .eps) (.star a)) (.func (.func g2) #[] h)) i _ rfl (S_ ps _ 1) (by simp[Ad,Ar]) rfl λG3 c j N=>?_;unfold NH at c;rw[N',CT rfl]at c;have s:R_ G3 I 142 (Ad (opR .cat ((Cr a m m).getD .eps) (.star a)) (.func (.func g2) #[] h)):=c.blk _ (S_ ps _ 1);refine lN (cs:=Ad (opR .cat ((Cr a m m).getD .eps) (.star a)) (.func (.func g2) #[] h)) Bg (A0 s) ?_;have e:C3 a m n=opR .cat ((Cr a m m).getD .eps) (.star a):=by{unfold C3;rw[I_ hn,G_ zO]<;>rfl};rw[e];exact⟨B3,_,rfl,λk b=>s3 k (E k (p k b)),(A.trans (z.mono λk b=>Af A b)).trans (j.mono λk b=>by have:k<H.size:=b;omega),c.lft.rebase,F.frame c.old λk b=>b⟩};{have U:zT (n<0)=zU:=j_ hn;obtain⟨nn,rfl⟩:=xK (zO:0<=n);(conv=>whnf);(try refine Au.run ?_);(conv=>whnf);refine Ay.mk [8] (λk:Nat=>[A_ k]) (λk G=>max m 1<=k/\k<=nn/\Xi B H ps P I L a ((Cr a m k).getD .eps) (.func (.func g1) #[] o) G) (λk _=>nn-k) ?_ ?_;{(conv=>whnf);exact⟨max m 1,rfl,N_ _,zO,⟨B1,.func (.func t) #[] u,p,A,d,S,C⟩⟩};{clear p A d S C B1;rintro k G ai ⟨M,ae,⟨B1,f1,p,A,d,S,C⟩⟩;obtain⟨t,u,rfl⟩:=C.fn;refine AD.m2 (λhz=>?_) (λhz=>?_);{(conv=>whnf);(try refine Au.run ?_);refine Ap.heldZ (H_ G) [4] (sq [0,1] (.f 2 (.f 3 (.f 4 .e)))) rfl zX (L_ (cs:=Ad ((Cr a m k).getD .eps) (.func (.func t) #[] u)) Bg (A0 (d.blk _ (S_ ps _ 2))) ((d.in_ _ (S_ ps _ 2) (k:=L) rfl).2) (L_ (cs:=Ad a (.func (.func g1) #[] o)) Bg (A0 (d.blk _ (Ft ps _))) ((d.in_ _ (Ft ps _) (k:=P) rfl).2) (Ae.mk (Oh d S) ?_)));rintro _ G1 ⟨B2,f2,rfl,E,v,w,J⟩;refine⟨v,?_⟩;have l:C_ B1 G G1:=v.mono λk b=>d.up b;refine Ae.mk (GM .cat w (C.frame l E) J) ?_;rintro _ G2 ⟨B3,f3,rfl,s3,a3,i,F⟩;have z:=v.trans (a3.mono λk b=>Af v b);refine⟨z,?_⟩;obtain⟨g2,h,rfl⟩:=F.fn;refine BC (cs:=Ad (opR .cat ((Cr a m k).getD .eps) (B8 a)) (.func (.func g2) #[] h)) i _ rfl (S_ ps _ 2) (by simp[Ad]) rfl λG3 c j N=>?_;unfold NH at c;rw[N']at c;have e:Ak (Ad ((Cr a m k).getD .eps) (.func (.func t) #[] u)) 0 (Ad (opR .cat ((Cr a m k).getD .eps) (B8 a)) (.func (.func g2) #[] h))=Ad (opR .cat ((Cr a m k).getD .eps) (B8 a)) (.func (.func g2) #[] h):=CT rfl;rw[e]at c;(conv=>whnf);rw[Q_ k zO];have y:C_ (H_ H) H G3:=(A.trans (z.mono λk b=>Af A b)).trans (j.mono λk b=>by have:k<H.size:=b;omega);refine⟨rfl,k+1,rfl,⟨zO,zO,⟨B3,.func (.func g2) #[] h,λk b=>s3 k (E k (p k b)),y,?_,Y.frame (y.mono λk b=>Z.up b) λk b=>s3 k (E k (p k b)),?_⟩⟩,zO⟩;{rw[DV _ _ _ zO,G_ zO];exact c.rebase};{rw[DV _ _ _ zO,G_ zO];exact F.frame c.old λk b=>b}};{obtain rfl:k=nn:=zO;refine L_ (cs:=Ad ((Cr a m k).getD .eps) (.func (.func t) #[] u)) Bg (A0 (d.blk _ (S_ ps _ 2))) zA (BC (cs:=Ad ((Cr a m k).getD .eps) (.func (.func t) #[] u)) d _ rfl (S_ ps _ 1) (by simp[Ad,Ar]) rfl λG3 c j N=>?_);unfold NH at c;rw[N',CT rfl]at c;have s:R_ G3 I 142 (Ad ((Cr a m k).getD .eps) (.func (.func t) #[] u)):=c.blk _ (S_ ps _ 1);refine lN (cs:=Ad ((Cr a m k).getD .eps) (.func (.func t) #[] u)) Bg (A0 s) ?_;have e:C3 a m (k:Int)=(Cr a m k).getD .eps:=by{unfold C3;rw[G_ zO,G_ zO,zB]};rw[e];exact⟨B1,_,rfl,p,A.trans (j.mono λk b=>by have:k<H.size:=b;omega),c.lft.rebase,C.frame c.old λk b=>b⟩}}}}}}}
def LZ(c:Nat):Int:=match Ef c with
 | some v=>(v:Int)
 | none=> -1
def V5{c:Nat}(e:c<256):BZ prog 173 #[.int .u8 (c:Int)] H (.int .i64 (LZ c)):=by refine Aj.of_vc func173 rfl (call173 _) ?_;(conv=>whnf);by_cases b:48<=c;{skip;have a:zT ((c:Int)>=48)=zW:=l_;(conv=>whnf);rw[a];clear a;by_cases d:c<=57;{skip;have a:zT ((c:Int)<=57)=zW:=l_;(conv=>whnf);rw[a];clear a;(conv=>whnf);rw[w8 (x:=(c:Int)-48) zO zO];(conv=>whnf);rw[U_ (x:=(c:Int)-48) zO];(conv=>whnf);refine⟨?_,C_.refl _ _⟩;have:Ef c=zY (c-48):=by{unfold Ef;rw[I_ zO]};unfold LZ;rw[this];show Value.int .i64 ((c:Int)-48)=Value.int .i64 ((c-48:Nat):Int);congr 1;omega};{skip;have a:zT ((c:Int)<=57)=zU:=Z_;(conv=>whnf);rw[a];clear a;by_cases b:97<=c;{skip;have a:zT ((c:Int)>=97)=zW:=l_;(conv=>whnf);rw[a];clear a;by_cases d:c<=102;{skip;have a:zT ((c:Int)<=102)=zW:=l_;(conv=>whnf);rw[a];clear a;(conv=>whnf);rw[w8 (x:=(c:Int)-97) zO zO];(conv=>whnf);rw[U_ (x:=(c:Int)-97) zO];(conv=>whnf);rw[U_ (x:=(c:Int)-97+10) zO];(conv=>whnf);refine⟨?_,C_.refl _ _⟩;have:Ef c=zY (c-87):=by{unfold Ef;rw[G_ zO,I_ zO]};unfold LZ;rw[this];show Value.int .i64 ((c:Int)-97+10)=Value.int .i64 ((c-87:Nat):Int);congr 1;omega};{skip;have a:zT ((c:Int)<=102)=zU:=Z_;(conv=>whnf);rw[a];clear a;(conv=>whnf);refine⟨?_,C_.refl _ _⟩;have:Ef c=zV:=by{unfold Ef;rw[G_ zO,G_ zO]};unfold LZ;rw[this]}};{skip;have a:zT ((c:Int)>=97)=zU:=Z_;(conv=>whnf);rw[a];clear a;(conv=>whnf);refine⟨?_,C_.refl _ _⟩;have:Ef c=zV:=by{unfold Ef;rw[G_ zO,G_ zO]};unfold LZ;rw[this]}}};{skip;have a:zT ((c:Int)>=48)=zU:=Z_;(conv=>whnf);rw[a];clear a;have a:zT ((c:Int)>=97)=zU:=Z_;(conv=>whnf);rw[a];clear a;(conv=>whnf);refine⟨?_,C_.refl _ _⟩;have:Ef c=zV:=by{unfold Ef;rw[G_ zO,G_ zO]};unfold LZ;rw[this]}
def NG(t:ByteArray)(i:Nat)(inner:Bool):v_:=match BW t (if inner then E6 else FA) i with
 | .inl e=>.tuple #[.int .u8 0,A_ 0,A_ e]
 | .inr (c,j)=>.tuple #[.int .u8 (c:Int),A_ j,A_ (-1)]
def FY{e:Nat}{inner:Bool}(h:BW t (if inner then E6 else FA) i= .inl e):Value.tuple #[.int .u8 0,A_ 0,A_ e]=NG t i inner:=by unfold NG;rw[h]
def I5{c:Nat}{inner:Bool}(h:BW t (if inner then E6 else FA) i= .inr (c,j)):Value.tuple #[.int .u8 (c:Int),A_ j,A_ (-1)]=NG t i inner:=by unfold NG;rw[h]
def FX{inner:Bool}(ht:t.size<=1152921504606846976)(ag:i<=t.size):BZ prog 134 #[.string t,A_ i,.bool inner] H (NG t i inner):=by
 refine Aj.of_vc func134 rfl (call134 _) ?_;by_cases hi:i<t.size;(case neg=>have n:=CX hi;have d:zT ((i:Int)>=(t.size:Int))=zW:=l_;obtain rfl:i=t.size:=zO;(conv=>whnf);rw[d];(conv=>whnf);exact⟨FY (by unfold BW;rw[n,G_ zQ,I_ (.inr (.inl zQ))]),C_.refl _ _⟩);have⟨b,W,X,J⟩:=DQ hi;have d0:zT ((i:Int)>=(t.size:Int))=zU:=Z_;(conv=>whnf);rw[d0];refine ED GU rfl W ?_;rw[<-X];by_cases C:bt t i=92;(case neg=>obtain⟨c,D⟩:∃c,c=bt t i:=⟨_,rfl⟩;rw[<-D]at J C ⊢;have dn:((c:Int) != (92:Int))=zW:=by{rw[bne_iff_ne];omega};have l:BW t (if inner then E6 else FA) i=if c<32\/126<c\/wW (if inner then E6 else FA) c=zW then .inl i else .inr (c,i+1):=by{unfold BW;rw[<-D,G_ C]};(conv=>whnf);rw[dn];(conv=>whnf);by_cases E:c<32;{skip;have d:zT ((c:Int)<32)=zW:=l_;(conv=>whnf);rw[d];clear d;cases inner with|true | false=>(conv=>whnf);(try refine Au.run ?_);(conv=>whnf);exact⟨FY (by rw[l,I_ zO]),C_.refl _ _⟩};{skip;have d:zT ((c:Int)<32)=zU:=Z_;(conv=>whnf);rw[d];clear d;by_cases F:126<c;{skip;have d:zT ((c:Int)>126)=zW:=l_;(conv=>whnf);rw[d];clear d;cases inner with|true | false=>(conv=>whnf);(try refine Au.run ?_);(conv=>whnf);exact⟨FY (by rw[l,I_ zO]),C_.refl _ _⟩};{skip;have d:zT ((c:Int)>126)=zU:=Z_;(conv=>whnf);rw[d];clear d;cases inner with|true=>{(conv=>whnf);(try refine Au.run ?_);refine Al (dV J) λG L=>?_;cases p:wW E6 c with|true=>(conv=>whnf);exact⟨FY (by rw[l,I_ (.inr (.inr p))]),L⟩|false=>have q:¬(c<32\/126<c\/wW (if zW=zW then E6 else FA) c=zW):=by{have:wW (if zW=zW then E6 else FA) c=zU:=p;rw[this];simp;omega};(conv=>whnf);rw[Q_ i zO];(conv=>whnf);exact⟨I5 (j:=i+1) (by rw[l,G_ q]),L⟩}|false=>{(conv=>whnf);(try refine Au.run ?_);refine Al (Yb J) λG L=>?_;cases p:wW FA c with|true=>(conv=>whnf);exact⟨FY (by rw[l,I_ (.inr (.inr p))]),L⟩|false=>have q:¬(c<32\/126<c\/wW (if zU=zW then E6 else FA) c=zW):=by{have:wW (if zU=zW then E6 else FA) c=zU:=p;rw[this];simp;omega};(conv=>whnf);rw[Q_ i zO];(conv=>whnf);exact⟨I5 (j:=i+1) (by rw[l,G_ q]),L⟩}}});have l:BW t (if inner then E6 else FA) i=IE t (i+1):=by unfold BW;rw[I_ C]
 rw[C];(conv=>whnf);rw[Q_ i zO];by_cases M:i+1<t.size;(case neg=>have n:=CX M;have d:zT ((i:Int)+1>=(t.size:Int))=zW:=l_;have Y:i+1=t.size:=zO;(conv=>whnf);rw[d];(conv=>whnf);refine⟨?_,C_.refl _ _⟩;have:=FY (inner:=inner) (e:=i+1) (by rw[l];unfold IE;rw[I_ n]);rw[Y]at this;exact this);have⟨b1,Z,a0,a1⟩:=DQ M;have d:zT ((i:Int)+1>=(t.size:Int))=zU:=Z_;(conv=>whnf);rw[d];clear d d0;(conv=>whnf);rw[Q_ i zO];refine ED (i:=i+1) GU rfl Z ?_;rw[<-a0];obtain⟨c,D⟩:∃c,c=bt t (i+1):=⟨_,rfl⟩;rw[<-D]at a1 ⊢;by_cases r:c=110;{have d:((c:Int)==(110:Int))=zW:=by{rw[r];rfl};(conv=>whnf);rw[d];(conv=>whnf);rw[U_ (x:=(i:Int)+2) zO];(conv=>whnf);exact⟨I5 (c:=10) (j:=i+2) (by rw[l];unfold IE;rw[<-D,r];rfl),C_.refl _ _⟩};have N:((c:Int)==(110:Int))=zU:=beq_eq_false_iff_ne.2 zO;(conv=>whnf);rw[N];by_cases s:c=114;{have d:((c:Int)==(114:Int))=zW:=by{rw[s];rfl};(conv=>whnf);rw[d];(conv=>whnf);rw[U_ (x:=(i:Int)+2) zO];(conv=>whnf);exact⟨I5 (c:=13) (j:=i+2) (by rw[l];unfold IE;rw[<-D,s];rfl),C_.refl _ _⟩};have O:((c:Int)==(114:Int))=zU:=beq_eq_false_iff_ne.2 zO;(conv=>whnf);rw[O];by_cases u:c=116;{have d:((c:Int)==(116:Int))=zW:=by{rw[u];rfl};(conv=>whnf);rw[d];(conv=>whnf);rw[U_ (x:=(i:Int)+2) zO];(conv=>whnf);exact⟨I5 (c:=9) (j:=i+2) (by rw[l];unfold IE;rw[<-D,u];rfl),C_.refl _ _⟩}
 have P:((c:Int)==(116:Int))=zU:=beq_eq_false_iff_ne.2 zO;(conv=>whnf);rw[P];have g:IE t (i+1)=(if c=120 then match Ef (bt t (i+1+1))with
   | none=>.inl (i+1+1)
   | some a=>match Ef (bt t (i+1+2))with
     | none=>.inl (i+1+2)
     | some b=>.inr (16*a+b,i+1+3)
  else if c<32\/126<c\/(48<=c/\c<=57)\/(97<=c/\c<=122)\/(65<=c/\c<=90)then .inl (i+1)else .inr (c,i+1+1)):=by
  unfold IE;rw[<-D,G_ (zO:c≠256),G_ r,G_ s,G_ u]<;>rfl
 by_cases w:c=120;{have d:((c:Int)==(120:Int))=zW:=by{rw[w];rfl};rw[I_ w]at g;(conv=>whnf);rw[d];(conv=>whnf);refine Ay.mk [11] (λk:Nat=>[A_ k]) (λk G=>2<=k/\k<=4/\(∀m,2<=m->m<k->(Ef (bt t (i+m))).isSome=zW)/\C_ (H_ H) H G) (λk _=>4-k) ?_ ?_;{(conv=>whnf);exact⟨2,rfl,zO,zO,λm h1 U=>zO,C_.refl _ _⟩};{rintro k G a7 ⟨ah,ai,o,y⟩;refine AD.m2 (λhz=>?_) (λhz=>?_);{(conv=>whnf);(try refine Au.run ?_);(conv=>whnf);rw[U_ (x:=(i:Int)+(k:Int)) zO];have z:Ef (bt t (i+k))=zV->BW t (if inner then E6 else FA) i= .inl (i+k):=λK=>by{rw[l,g];have:k=2\/k=3:=zO;rcases this with rfl | rfl;{have K:Ef (bt t (i+1+1))=zV:=K;rw[K]};{have U:=o 2 zO zO;have⟨a,A⟩:=qD.1 U;have A:Ef (bt t (i+1+1))=zY a:=A;have K:Ef (bt t (i+1+2))=zV:=K;rw[A];show(match Ef (bt t (i+1+2))with | none=>_ | some b=>_)=_;rw[K]}};by_cases Q:i+k<t.size;(case neg=>have n:=CX Q;have d2:zT ((i:Int)+(k:Int)>=(t.size:Int))=zW:=l_;(conv=>whnf);rw[d2];(conv=>whnf);rw[U_ (x:=(i:Int)+(k:Int)) zO];(conv=>whnf);refine⟨?_,y⟩;exact FY (e:=i+k) (z (by rw[n];rfl)));have⟨bk,a2,R,a3⟩:=DQ Q;have d2:zT ((i:Int)+(k:Int)>=(t.size:Int))=zU:=Z_;(conv=>whnf);rw[d2];(conv=>whnf);rw[U_ (x:=(i:Int)+(k:Int)) zO];refine ED (i:=i+k) GU rfl a2 ?_;rw[<-R];refine Al (V5 a3) λG2 B=>?_;have I:=y.trans (B.mono λk S=>Af y S);cases V:Ef (bt t (i+k))with|none=>have d3:zT (LZ (bt t (i+k))<0)=zW:=by{unfold LZ;rw[V];rfl};(conv=>whnf);rw[d3];(conv=>whnf);rw[U_ (x:=(i:Int)+(k:Int)) zO];(conv=>whnf);exact⟨FY (e:=i+k) (z V),I⟩|some v=>{have d3:zT (LZ (bt t (i+k))<0)=zU:=by{unfold LZ;rw[V];show zT ((v:Int)<0)=zU;exact Z_};(conv=>whnf);rw[d3];(conv=>whnf);rw[Q_ k zO];refine⟨rfl,k+1,rfl,⟨zO,zO,λm h1 U=>?_,I⟩,zO⟩;rcases Nat.lt_succ_iff_lt_or_eq.1 U with h | rfl;{exact o m h1 h};{rw[V];rfl}}};{obtain rfl:k=4:=zO;have⟨a,A⟩:=qD.1 (o 2 zO zO);have⟨b,q⟩:=qD.1 (o 3 zO zO);have aj:=Jj A;have ak:=Jj q;have a4:i+2<t.size:=Ei λe=>by{rw[e]at A;cases A};have a5:i+3<t.size:=Ei λe=>by{rw[e]at q;cases q};have⟨x2,p1,p2,p3⟩:=DQ a4;have⟨x3,q1,q2,q3⟩:=DQ a5;have ea:LZ (bt t (i+2))=(a:Int):=by{unfold LZ;rw[A]};have eb:LZ (bt t (i+3))=(b:Int):=by{unfold LZ;rw[q]};refine Ap.held (H_ G) 18 (sq [0,1,2,3,6,7,8,9,13,14] (.f 4 (sq [5] (.f 10 (sq [11,12,15,16,17] .e))))) rfl zX ?_;(conv=>whnf);rw[U_ (x:=(i:Int)+2) zO];refine ED (i:=i+2) GU rfl p1 ?_;rw[<-p2];(conv=>whnf);rw[U_ (x:=(i:Int)+3) zO];refine ED (i:=i+3) GU rfl q1 ?_;rw[<-q2];(conv=>whnf);rw[U_ (x:=(i:Int)+4) zO];refine Al (V5 p3) λG2 B=>(⟨B,?_⟩);rw[ea];(conv=>whnf);rw[U_ (x:=16*(a:Int)) zO];refine Al (V5 q3) λG3 a6=>?_;have T:=B.trans (a6.mono λk S=>Af B S);refine⟨T,?_⟩;rw[eb];(conv=>whnf);rw[U_ (x:=16*(a:Int)+(b:Int)) zO];(conv=>whnf);rw[w8 (x:=16*(a:Int)+(b:Int)) zO zO];(conv=>whnf);refine⟨?_,y.trans (T.mono λk S=>Af y S)⟩;have:=I5 (t:=t) (i:=i) (inner:=inner) (c:=16*a+b) (j:=i+4) (by{rw[l,g];have A:Ef (bt t (i+1+1))=zY a:=A;have q:Ef (bt t (i+1+2))=zY b:=q;rw[A];show(match Ef (bt t (i+1+2))with | none=>_ | some b=>_)=_;rw[q]});rw[<-this];rfl}}};have d:((c:Int)==(120:Int))=zU:=beq_eq_false_iff_ne.2 zO;rw[G_ w]at g;(conv=>whnf);rw[d];clear d;(conv=>whnf);by_cases E:97<=c;{skip;have d:zT ((c:Int)>=97)=zW:=l_;(conv=>whnf);rw[d];clear d;by_cases a8:c<=122;{skip;have d:zT ((c:Int)<=122)=zW:=l_;(conv=>whnf);rw[d];clear d;have d:zT ((c:Int)<32)=zU:=Z_;(conv=>whnf);rw[d];clear d;have d:zT ((c:Int)>126)=zU:=Z_;(conv=>whnf);rw[d];clear d;(conv=>whnf);rw[Q_ i zO];(conv=>whnf);exact⟨FY (e:=i+1) (by rw[l,g,I_ zO]),C_.refl _ _⟩};{skip;have d:zT ((c:Int)<=122)=zU:=Z_;(conv=>whnf);rw[d];clear d;have d:zT ((c:Int)>=65)=zW:=l_;(conv=>whnf);rw[d];clear d;have d:zT ((c:Int)<=90)=zU:=Z_;(conv=>whnf);rw[d];clear d;have d:zT ((c:Int)>=48)=zW:=l_;(conv=>whnf);rw[d];clear d;have d:zT ((c:Int)<=57)=zU:=Z_;(conv=>whnf);rw[d];clear d;have d:zT ((c:Int)<32)=zU:=Z_;(conv=>whnf);rw[d];clear d;by_cases F:126<c;{skip;have d:zT ((c:Int)>126)=zW:=l_;(conv=>whnf);rw[d];clear d;(conv=>whnf);rw[Q_ i zO];(conv=>whnf);exact⟨FY (e:=i+1) (by rw[l,g,I_ zO]),C_.refl _ _⟩};{skip;have d:zT ((c:Int)>126)=zU:=Z_;(conv=>whnf);rw[d];clear d;(conv=>whnf);rw[U_ (x:=(i:Int)+2) zO];(conv=>whnf);exact⟨I5 (j:=i+2) (by rw[l,g,G_ zO]),C_.refl _ _⟩}}};{skip;have d:zT ((c:Int)>=97)=zU:=Z_;(conv=>whnf);rw[d];clear d;by_cases F:65<=c;{skip;have d:zT ((c:Int)>=65)=zW:=l_;(conv=>whnf);rw[d];clear d;by_cases a9:c<=90;{skip;have d:zT ((c:Int)<=90)=zW:=l_;(conv=>whnf);rw[d];clear d;have d:zT ((c:Int)<32)=zU:=Z_;(conv=>whnf);rw[d];clear d;have d:zT ((c:Int)>126)=zU:=Z_;(conv=>whnf);rw[d];clear d;(conv=>whnf);rw[Q_ i zO];(conv=>whnf);exact⟨FY (e:=i+1) (by rw[l,g,I_ zO]),C_.refl _ _⟩};{skip;have d:zT ((c:Int)<=90)=zU:=Z_;(conv=>whnf);rw[d];clear d;have d:zT ((c:Int)>=48)=zW:=l_;(conv=>whnf);rw[d];clear d;have d:zT ((c:Int)<=57)=zU:=Z_;(conv=>whnf);rw[d];clear d;have d:zT ((c:Int)<32)=zU:=Z_;(conv=>whnf);rw[d];clear d;have d:zT ((c:Int)>126)=zU:=Z_;(conv=>whnf);rw[d];clear d;(conv=>whnf);rw[U_ (x:=(i:Int)+2) zO];(conv=>whnf);exact⟨I5 (j:=i+2) (by rw[l,g,G_ zO]),C_.refl _ _⟩}};{skip;have d:zT ((c:Int)>=65)=zU:=Z_;(conv=>whnf);rw[d];clear d;by_cases ab:48<=c;{skip;have d:zT ((c:Int)>=48)=zW:=l_;(conv=>whnf);rw[d];clear d;by_cases ae:c<=57;{skip;have d:zT ((c:Int)<=57)=zW:=l_;(conv=>whnf);rw[d];clear d;have d:zT ((c:Int)<32)=zU:=Z_;(conv=>whnf);rw[d];clear d;have d:zT ((c:Int)>126)=zU:=Z_;(conv=>whnf);rw[d];clear d;(conv=>whnf);rw[Q_ i zO];(conv=>whnf);exact⟨FY (e:=i+1) (by rw[l,g,I_ zO]),C_.refl _ _⟩};{skip;have d:zT ((c:Int)<=57)=zU:=Z_;(conv=>whnf);rw[d];clear d;have d:zT ((c:Int)<32)=zU:=Z_;(conv=>whnf);rw[d];clear d;have d:zT ((c:Int)>126)=zU:=Z_;(conv=>whnf);rw[d];clear d;(conv=>whnf);rw[U_ (x:=(i:Int)+2) zO];(conv=>whnf);exact⟨I5 (j:=i+2) (by rw[l,g,G_ zO]),C_.refl _ _⟩}};{skip;have d:zT ((c:Int)>=48)=zU:=Z_;(conv=>whnf);rw[d];clear d;by_cases E:c<32;{skip;have d:zT ((c:Int)<32)=zW:=l_;(conv=>whnf);rw[d];clear d;(conv=>whnf);rw[Q_ i zO];(conv=>whnf);exact⟨FY (e:=i+1) (by rw[l,g,I_ zO]),C_.refl _ _⟩};{skip;have d:zT ((c:Int)<32)=zU:=Z_;(conv=>whnf);rw[d];clear d;have d:zT ((c:Int)>126)=zU:=Z_;(conv=>whnf);rw[d];clear d;(conv=>whnf);rw[U_ (x:=(i:Int)+2) zO];(conv=>whnf);exact⟨I5 (j:=i+2) (by rw[l,g,G_ zO]),C_.refl _ _⟩}}}}
end Go.Proofs.YtfbghcpdinlmcaaGreatDoor
