import Derived.Test.YtelngokgpnphfaaGreatDoorKAy6
set_option maxHeartbeats 0
open List renaming replicate -> Ao0, range -> AoF
open Option renaming some -> ApG
set_option maxRecDepth 100000
open Go.Proofs.Tryz
open Go renaming TypeId -> x_, Value -> v_, Program -> w_, World -> y_, Operand -> z_
open Option renaming some -> zY, none -> zV
open Bool renaming true -> zW, false -> zU
open Decidable renaming decide -> zT
set_option linter.unusedVariables false
set_option linter.unusedSimpArgs false
set_option linter.defProp false
namespace Go.Proofs.YtelngokgpnphfaaGreatDoor
variable{x:Int×Int}{B:Nat->Prop}{H H0:Aa}{ps:List Pc}{F:List (Int×Int)}{K:v_->Aa->Prop}{va vb:v_}{a o:Option AM}{f:FuncId}{n i s q:Nat}{ca:Option Addr}{b e:Int}{N:P_}{es:List u_}{w:List Nat}{A:BR}{r:ReM}{t:x_}{cap:Array v_}{x':Nat×Except Int BR}{ns:List h_}{l:List (ReM×Nat)}{xs:List (Nat×P_)}
section
attribute [local irreducible] Bs AE Ak
def Ai2(m:Nat){n:Int×Int}(h:Uy n):prog.keyLits (m+2) 263 (yM n)=zY [.int .i64 n.1,.int .i64 n.2]:=by have a:prog.cellsOf 263=2:=zX;have b:prog.cellsOf 3=1:=zX;simp[Program.keyLits,underlying263,underlying3,a,b,yM,gJ h.1,gJ h.2]
def Am4{n:Int×Int}(h:Uy n):∃l,keyOf prog 263 (wH n)=zY l:=by
 have a:prog.keyType 263=zW:=zX;have b:prog.cellsOf 263=2:=zX;have c:(wH n).formed prog 263=zW:=by simp[wH,yM,Value.formed,underlying263,b]
 obtain⟨m,d⟩:∃m,prog.types.size+1=m+2:=⟨prog.types.size-1,by{have:zT (1<=prog.types.size)=zW:=zX;have:=of_decide_eq_true this;omega}⟩;refine⟨.string (keyBytes [.int .i64 n.1,.int .i64 n.2]),?_⟩;unfold keyOf;simp only[underlying263,a,c,Bool.and_self,if_true];rw[d,show(wH n).cells.toList=yM n from rfl,Ai2 m h];rfl
def gA:Ir prog 263 Uy wH:=Ir.ofLaw (deep_law (m:=2) zQ zX zX (by simp[underlying263])) (λa b h=>AiN h) (λa h=>Am4 h)
def gF:Hg prog 272 263 3 (.int .i64 0):=⟨rfl,rfl⟩
def tLp:Ty (Int×Int) where
 size:=2
 rep _ _ cs x:=cs=yM x
 len h:=by rw[h];rfl
 frame h _:=h
 mono h _:=h
def Wf(x:Int×Int):∀u∈yM x,u.oneCell'=zW:=by intro u a;unfold yM at a;simp only[zM,tJ,or_false]at a;rcases a with rfl | rfl<;>rfl
def TN:(prog.info? 263).bind (·.zero)=zY (wH (0,0)):=zX
def Sy(x:Int×Int):Prop:=(0<=x.1/\x.1<65536)/\0<=x.2/\x.2<65536
def Sy.ok(h:Sy x):Uy x:=⟨Hw h.1,Hw h.2⟩
def B_.front{q:Pc}(b:B_ B H0 H (ps++[q])):B_ B H0 H (q::ps):=by have d:=List.pairwise_append.1 b.dis;refine⟨b.old,b.lt0,b.size,λp a=>b.oks p ?_,λp a=>b.rng p ?_,vL.2 ⟨λp a k e c=>d.2.2 p a q zZ k c e,d.1⟩⟩;{rcases zM.1 a with rfl | a;{simp};simp[a]};rcases zM.1 a with rfl | a;{simp};simp[a]
def B_.tail{q:Pc}(a:B_ B H0 H (q::ps)):B_ B H0 H ps:=⟨a.old,a.lt0,a.size,λp b=>a.oks p (by simp[b]),λp b=>a.rng p (by simp[b]),(vL.1 a.dis).2⟩
abbrev oA:x_:=275
def ZL(F:List (Int×Int))(s:Int×Int):Option v_:=(F.findIdx? (·=s)).map fun(i:Nat)=>.int .i64 (i:Int)
def bV{k:Int×Int}(a:F.findIdx? (·=k)=zV):put (ZL F) k (zY (.int .i64 (F.length:Int)))=ZL (F++[k]):=by funext s;unfold put ZL;rw[List.findIdx?_append];by_cases hs:s=k;{subst hs;rw[J_ rfl,a];simp[uS]};rw[I_ hs];cases h:F.findIdx? (·=s)with|some i=>simp|none=>have:k≠s:=λe=>hs e.symm;simp[uS,this]
def OE(xb mb:Nat)(fa:Option Addr)(fc most:Nat)(F:List (Int×Int))(rest:List Pc):List Pc:=pB oA xb (sC mb (.slice fa F.length fc) most)::xN Uy wH mb (ZL F)::pS tLp 263 fa F.length fc F::rest
def iZ{rest:List Pc}{xb mb fc most:Nat}{fa:Option Addr}{k:Int×Int}(G:B_ B H0 H (OE xb mb fa fc most F rest))(T:Uy k)(hm:most<=4096)(X:F.length<=most)
  (Y:∀F' i g l H',I' most F k=zY (F',i)->B_ B H0 H' (OE xb mb g l most F' rest)->K (.tuple #[A_ i,.bool zW]) H')
  (Z:∀H',I' most F k=zV->B_ B H0 H' (OE xb mb fa fc most F rest)->K (.tuple #[A_ 0,.bool zU]) H'):
  Ae prog 153 #[U_ xb,wH k] H K:=by
 refine Ae.mk (R:=λr H'=>(∃(F':List (Int×Int)) (i:Nat) (g:Option Addr) (l:Nat),r= .tuple #[A_ i,.bool zW]/\I' most F k=zY (F',i)/\B_ B H0 H' (OE xb mb g l most F' rest))\/(r= .tuple #[A_ 0,.bool zU]/\I' most F k=zV/\B_ B H0 H' (OE xb mb fa fc most F rest))) ?_ λr H' h=>by{rcases h with⟨F',i,g,l,rfl,I,J⟩ | ⟨rfl,I,J⟩;{exact Y F' i g l H' I J};{exact Z H' I J}};unfold OE at G;refine Ai.of_vc func153 rfl (call153 _) (BI (yM k) rfl ?_);intro D Hk L M t u;have b:=(G.box L M t u).front;clear G t u;have c:=b.blk 1 rfl;have w:Bi Hk D 0 (yM k):=(b.blk 0 rfl).cells λj v x=>by rw[K_];exact x
 refine Ap.lex rfl zX (G_ Y6 ?_);refine C_ (v:=.map (zY mb)) hO (by rw[c.cell];rfl) zA ?_;refine L_ (cs:=yM k) P4 w zA (IM (a:=k) gF gA T (b.mapW 2 rfl) zA ?_);rw[show ZL F k=(F.findIdx? (·=k)).map fun(i:Nat)=>.int .i64 (i:Int)from rfl];cases E:F.findIdx? (·=k)with|some i=>(conv=>whnf);exact .inl ⟨F,i,fa,fc,rfl,by unfold I';rw[E],b.tail⟩|none=>{refine Ap.lex rfl zX (G_ Ic ?_);refine C_ (v:=.slice fa F.length fc) Od (by rw[c.cell];rfl) zA ?_;refine G_ AhH ?_;refine C_ (v:=A_ most) E_ (by rw[c.cell];rfl) zA ?_;by_cases y:F.length<most;{have N:zT ((most:Int)<=(F.length:Int))=zU:=g_;(conv=>whnf);rw[N];refine Ap.heldZ (H_ Hk) [10] (sq [0,1,2,3,4,5,6,7,8,9] (.f 10 .e)) rfl zX (G_ Y6 ?_);refine C_ (v:=.map (zY mb)) hO (by rw[c.cell];rfl) c.lt ?_;refine L_ (cs:=yM k) P4 w (b.blk 0 rfl).lt (G_ Ic ?_);refine C_ (v:=.slice fa F.length fc) Od (by rw[c.cell];rfl) c.lt ?_;refine K3 (a:=k) b 2 gF gA T rfl (bV E) λH1 F_=>?_;have O:=F_.blk 1 rfl;have P:Bi H1 D 0 (yM k):=(F_.blk 0 rfl).cells λj v x=>by{rw[K_];exact x};refine Ap.heldZ (λj=>j=xb\/j=D) [10] (sq [0,1,2,3,4,5] (.f 6 (.f 7 (sq [8,9] (.f 10 .e))))) rfl zX (G_ Ic ?_);refine C_ (v:=.slice fa F.length fc) Od (by rw[O.cell];rfl) (.inl rfl) ?_;refine L_ (cs:=yM k) P4 P (.inr rfl) (Aj Zi (yM k) rfl rfl zQ zQ ?_);intro a0 H11 z U A m;have V:=(F_.blk 1 rfl).lt;have W:=(F_.blk 0 rfl).lt;refine⟨m.mono λj C=>?_,?_⟩;{rcases C with rfl | rfl<;>omega};have n:=F_.skip z m;have Q:=n.apart2 (i:=1) (j:=3) rfl rfl zQ;have S:=n.apart2 (i:=0) (j:=3) rfl rfl zQ;refine S8 (ys:=[k]) n 3 Zi rfl (A.cells λj v x=>by rw[K_];exact x) (Ty.reps_one (show tLp.rep none_ H11 (yM k) k from rfl)) rfl (Wf k) (by simp only[c_];omega) zQ λp q H12 o s=>?_;rw[show F.length+[k].length=(F++[k]).length by simp]at o ⊢;refine⟨(m.mono λj C=>?_).trans (s.mono λj C=>?_),?_⟩;{rcases C with rfl | rfl<;>omega};{rcases C with rfl | rfl;{exact⟨zO,λh=>Q _ rfl (.inl h)⟩};{exact⟨zO,λh=>S _ rfl (.inl h)⟩}};refine G_ Ic (Bb o 1 Od rfl (zQ:1<3) rfl λH13 d=>?_);replace d:B_ B H0 H13 (pB 263 D (yM k)::OE xb mb p q most (F++[k]) rest):=d;refine G_ Ic ?_;refine lT (v:=.slice p (F++[k]).length q) Od ((d.blk 1 rfl).ce rfl) ?_;have w1:IntKind.wrap .i64 (((F++[k]).length:Int)-1)=(F.length:Int):=by{rw[show(F++[k]).length=F.length+1 by simp,xG zO zO];omega};(conv=>whnf);rw[w1];(conv=>whnf);exact .inl ⟨F++[k],F.length,p,q,rfl,by unfold I';rw[E];simp only;rw[J_ y],d.tail⟩};{have N:zT ((most:Int)<=(F.length:Int))=zW:=t_;(conv=>whnf);rw[N];(conv=>whnf);exact .inr ⟨rfl,by unfold I';rw[E];simp only;rw[I_ y],b.tail⟩}}
structure Pt(S:Nat->Prop)(H:Aa)(pa pb:Nat)(va vb:v_)(a b:Option AM):Prop where
 spa:S pa
 spb:S pb
 ca:Bi H pa 0 [va]
 cb:Bi H pb 0 [vb]
 va:Bm S H va a
 vb:Bm S H vb b
section
variable{S:Nat->Prop}
def Pt.frame{H':Aa}{pa pb:Nat}{b:Option AM}(h:Pt S H pa pb va vb a b)(k:D_ S H H'):Pt S H' pa pb va vb a b:=⟨h.spa,h.spb,h.ca.eq (k _ h.spa),h.cb.eq (k _ h.spb),h.va.frame k,h.vb.frame k⟩
def AjD{pa pb:Nat}{b:Option AM}{c:Nat}(p:∀k,S k->k<H.size)(h:Pt S H pa pb va vb a b)(r:c<256):BK prog 144 #[wH x,.int .u8 (c:Int),U_ pa,U_ pb] H (wH (Bl a b x c)):=by have e:Bl a b x c=(Am a x.1 c,Am b x.2 c):=J_ r;rw[e];refine Ai.of_vc func144 rfl (call144 _) (BI (yM x) rfl ?_);intro F H1 s t u w;have F_:=(St.nil H).box s t u w;refine Af (wH (0,0)) (yM (0,0)) TN rfl ?_;intro G H2 y z A B;have d:=F_.box y z A B;have C:=h.frame (d.old.mono p);have q:=d.blk 0 rfl;have i:∀k,S k->k<H2.size:=λk n=>d.up (p k n);refine Ap.heldZ (H_ H2) [11] (sq [0,1,2,3,5,6,7,8] (.f 4 (.f 9 (sq [10] (.f 11 .e))))) rfl zX (C_ (v:=va) L2 (C.ca 0 _ rfl) (i _ h.spa) (G_ Y4 ?_));refine C_ (v:=A_ x.1) E_ (by rw[q.cell];rfl) q.lt ?_;refine C_ (v:=vb) L2 (C.cb 0 _ rfl) (i _ h.spb) (G_ Y5 ?_);refine C_ (v:=A_ x.2) E_ (by rw[q.cell];rfl) q.lt ?_;refine Al (D5 i C.va r) λH3 g=>?_;have l:=d.call g;refine⟨g,?_⟩;refine Al (D5 (λk n=>l.up (p k n)) (h.vb.frame (l.old.mono p)) r) λH4 o=>?_;have D:=l.call o;refine⟨g.trans (o.mono λk n=>An g n),?_⟩;refine Au underlying263 rfl (wH (0,0)) TN (yM (Am a x.1 c,Am b x.2 c)) rfl (AI (cs:=yM (Am a x.1 c,Am b x.2 c)) D 1 rfl rfl (M_ _) rfl λH5 m=>?_);rw[Ar (show(yM (Am a x.1 c,Am b x.2 c)).length=(yM (0,0)).length from rfl)]at m;refine L_ (cs:=yM (Am a x.1 c,Am b x.2 c)) P4 ((m.blk 1 rfl).cells λj v E=>by rw[K_];exact E) zA ?_;exact⟨rfl,m.old⟩
def bY{pa pb pf:Nat}{b:Option AM}{ends:Bool->Bool->Bool}(p:∀k,S k->k<H.size)(h:Pt S H pa pb va vb a b)(i:S pf)(r:Bi H pf 0 [.func (.func f) #[] #[]])(C:∀(G:Aa) (x y:Bool),BK prog f #[.bool x,.bool y] G (.bool (ends x y))):BK prog 145 #[wH x,U_ pf,U_ pa,U_ pb] H (.bool (ends (AL a x.1) (AL b x.2))):=by refine Ai.of_vc func145 rfl (call145 _) (BI (yM x) rfl ?_);intro D H1 s t u w;have F_:=(St.nil H).box s t u w;have z:=h.frame (F_.old.mono p);have q:=F_.blk 0 rfl;have d:∀k,S k->k<H1.size:=λk j=>F_.up (p k j);refine Ap.heldZ (H_ H1) [] (sq [0,1,2,3,5,6,7] (.f 4 (.f 8 (.f 9 (.f 10 .e))))) rfl zX (C_ (v:=.func (.func f) #[] #[]) AnQ ((r.eq (F_.old _ (p _ i))) 0 _ rfl) (d _ i) (C_ (v:=va) L2 (z.ca 0 _ rfl) (d _ h.spa) (G_ Y4 ?_)));refine C_ (v:=A_ x.1) E_ (by rw[q.cell];rfl) q.lt ?_;refine C_ (v:=vb) L2 (z.cb 0 _ rfl) (d _ h.spb) (G_ Y5 ?_);refine C_ (v:=A_ x.2) E_ (by rw[q.cell];rfl) q.lt ?_;refine Al (CR z.va) λH3 c=>?_;have l:=F_.call c;refine⟨c,?_⟩;refine Al (CR (h.vb.frame (l.old.mono p))) λH4 m=>?_;have A:=l.call m;have g:=c.trans (m.mono λk j=>An c j);refine⟨g,?_⟩;refine Al (C H4 _ _) λH5 n=>?_;have B:=A.call n;have o:=g.trans (n.mono λk j=>An g j);refine⟨o,?_⟩;(conv=>whnf);refine⟨o,?_⟩;(conv=>whnf);exact⟨rfl,B.old⟩
end
def S9{K:Type} [DecidableEq K]{most:Nat}{F F':List K}{k:K}(h:I' most F k=zY (F',i))(b:F.length<=most):F'.length<=most/\i<most:=by unfold I' at h;split at h;{rename_i j a;injection h with h;injection h with h1 h2;subst h1;subst h2;have:=(vC.1 a).1;omega};split at h;{injection h with h;injection h with h1 h2;subst h1;subst h2;simp only[O_,b_,i_];omega};cases h
def mV(a b:Option AM)(ends:Bool->Bool->Bool)(most:Nat)(cs:List (BitVec 256))(l0:Int×Int)(H H':Aa)(r:v_):Prop:=D_ (H_ H) H H'/\
 match Dt most (Bl a b) (BO cs) l0 with
 | none=>r= .tuple #[.pointer zV,.bool zU]
 | some (F,rows)=>∃v,r= .tuple #[v,.bool zW]/\Bm (λk=>H.size<=k/\k<H'.size) H' v (if B9 cs (rows.map AG) F.length then zY (BY cs (rows.map AG) (F.map λx=>ends (AL a x.1) (AL b x.2)))else zV)
def WL{S:Nat->Prop}{pa pb pf:Nat}{b:Option AM}{ends:Bool->Bool->Bool}{cc most:Nat}{cs:List (BitVec 256)}{l0:Int×Int}(X:∀k,S k->k<H.size)(aj:Pt S H pa pb va vb a b)(ak:S pf)(c1:Bi H pf 0 [.func (.func f) #[] #[]])(hf:∀(G:Aa) (x y:Bool),BK prog f #[.bool x,.bool y] G (.bool (ends x y)))
  (am:Y_ CA S H ca cc cs) (db:cs.length<=256) (sa:Cs a) (sb:Cs b) (ao:Mc a b l0) (dc:1<=most) (hm:most<=4096):
  Ai prog 146 #[wH l0,.slice ca cs.length cc,.func (.func 144) #[] #[U_ pa,U_ pb],.func (.func 145) #[] #[U_ pf,U_ pa,U_ pb],A_ most] H λr H'=>mV a b ends most cs l0 H H' r:=by
 have ap:∀x,Mc a b x->Sy x:=λx s=>by{have w:=sa.n2;have h2:=sb.n2;obtain⟨⟨x1,x2⟩,x3,x4⟩:=s;exact⟨⟨x1,zO⟩,x3,zO⟩};have aq:∀x c,Mc a b x->Mc a b (Bl a b x c):=λx c s=>by{unfold Bl;split;{rename_i h;exact⟨sa.step x.1 c s.1 h,sb.step x.2 c s.2 h⟩};{exact s}};have c2:∀x∈[l0],Mc a b x:=λx s=>by rw[V_]at s;subst s;exact ao
 refine Ai.of_vc func146 rfl (call146 _) (BI (yM l0) rfl ?_);intro c3 H0' ar c4 au aw;have c5:=(St.nil H).box ar c4 au aw;refine Mi (Ok:=Uy) (enc:=wH) λmb H1 c6 c7 ax c8=>?_;have F_:=c5.mapNewW c6 c7 ax c8;refine Au underlying275 rfl (.agg #[.map zV,.slice zV 0 0,A_ 0]) rfl (sC mb (.slice zV 0 0) most) rfl (BI (sC mb (.slice zV 0 0) most) rfl ?_);intro xb H2 c9 cd ce cg;have ay:=(F_.box c9 cd ce cg).nils tLp 263;have ch:Bi H2 c3 0 (yM l0):=(ay.blk 0 rfl).cells λj v hv=>by rw[K_];exact hv
 have cj:St H H2 (OE xb mb zV 0 most [] []):=ay.pick [2,1,3] zQ;have Y:I' most ([]:List (Int×Int)) l0=zY ([l0],0):=by{unfold I';rw[List.findIdx?_nil];simp only;rw[J_ (by simp only[i_];omega)];rfl};refine L_ (cs:=yM l0) P4 ch zA (iZ cj (ap l0 ao).ok hm (p_ _) (λF' i az b0 H3 w ck=>?_) (λH3 w _=>?_));{
 rw[Y]at w;injection w with w;injection w with w h2;subst w;subst h2;have cm:St H H3 (OE xb mb az b0 most [l0] [pN (zF a_) none_ 39 zV 0 0 [],pS Ay 4 zV 0 0 []]):=(ck.nils (zF a_) 39).nils Ay 4;(conv=>whnf);refine A0.mk [15,16,17] (λx:Nat×List (Int×Int)×List (List Nat)×Option Addr×Nat×Option Addr×Nat=>match x with | (i,F,rows,na,nc,Z,bc)=>[.slice na i nc,.slice Z i bc,A_ i]) (λx H4=>match x with | (i,F,rows,na,nc,Z,bc)=>i<=F.length/\F.length<=most/\(∀x∈F,Mc a b x)/\rows.length=i/\BA most (Bl a b) (BO cs) l0 i=zY (F,rows)/\∃Sx fa fc,St H H4 (OE xb mb fa fc most F [pN (zF a_) Sx 39 na i nc (rows.map AG),pS Ay 4 Z i bc ((F.take i).map λx=>ends (AL a x.1) (AL b x.2))])) (λx _=>most-x.1) ?_ ?_;{(conv=>whnf);exact⟨(0,[l0],[],zV,0,zV,0),rfl,p_ _,by simp only[b_,i_];omega,c2,rfl,rfl,none_,az,b0,cm⟩};{
 rintro⟨i,F,rows,na,nc,Z,bc⟩ H4 co ⟨de,b4,b5,a3,a0,Sx,fa,fc,m⟩;have cp:=m.blk 0 rfl;refine G_ Ic ?_;refine C_ (v:=.slice fa F.length fc) Od (by rw[cp.cell];rfl) zA ?_;refine AB.m2 (λhz=>?_) (λhz=>?_);{
 have⟨x,s⟩:=Ac (l:=F) (k:=i) zO;have b6:=b5 x (d_ s);have o:BA most (Bl a b) (BO cs) l0 (i+1)=((BO cs).foldl (C6 most (Bl a b) x) (zY (F,[]))).map λr=>(r.1,rows++[r.2]):=by{show(BA most (Bl a b) (BO cs) l0 i).bind _=_;rw[a0];simp only[Option.bind_some,s]};refine DH AD rfl zO zO zO zO ?_;intro rb H6 cq b7 b9 a4;rw[O']at b9;rw[O',show(0:Int).toNat=0 from rfl];have a5:=m.newCap (T:=a_) (cap:=cs.length) cq b7 b9 a4 (by simp[E7]) (by unfold maxLen;omega);(conv=>whnf);refine A0.mk [18,51] (λy:Nat×List (Int×Int)×List Nat×Option Addr×Nat=>match y with | (j,F',row,ra,rc)=>[.slice ra row.length rc,A_ j]) (λy H7=>match y with | (j,F',row,ra,rc)=>j<=cs.length/\F'.length<=most/\(∀x∈F',Mc a b x)/\F <+: F'/\row.length=j/\((BO cs).take j).foldl (C6 most (Bl a b) x) (zY (F,[]))=zY (F',row)/\∃fa fc,St H H7 (OE xb mb fa fc most F' [pN (zF a_) Sx 39 na i nc (rows.map AG),pS Ay 4 Z i bc ((F.take i).map λx=>ends (AL a x.1) (AL b x.2)),pS a_ 3 ra row.length rc (AG row)])) (λy _=>cs.length-y.1) ?_ ?_;{(conv=>whnf);exact⟨(0,F,[],zY ⟨rb,0,zV⟩,cs.length),rfl,p_ _,b4,b5,vW _,rfl,rfl,fa,fc,a5⟩};{
 rintro⟨j,F',row,ra,rc⟩ H7 cr ⟨hj,J,a1,z,a6,K,E,I,L⟩;refine AB.m2 (λct=>?_) (λct=>?_);{
 have⟨c,hc⟩:=Ac (l:=cs) (k:=j) zO;have cu:=UF hc;have bd:=CW c 0;have A:=El z s;refine U' (i:=j) CJ (am.frame (L.old.mono X)) hc rfl ?_;rintro b8 o8 df dg cw rfl;refine L_ (cs:=Ag c) Bn cw zA (Af (BD 0) (Ag 0) rfl rfl ?_);intro sx H8 cx cy cz d0;have a7:=L.box cx cy cz d0;refine AI (cs:=Ag c) a7 6 rfl rfl (M_ _) rfl λH9 a8=>?_;rw[Ar (show(Ag c).length=(Ag 0).length from rfl)]at a8;refine L_ (cs:=Ag c) Bn ((a8.blk 6 rfl).cells λj v hv=>by rw[K_];exact hv) zA ?_;refine Al (Qk c 0 zQ H9) λH10 be=>?_;have q:=a8.call be;have bf:=q.blk 0 rfl;refine G_ Ic ?_;refine C_ (v:=.slice E F'.length I) Od (by rw[bf.cell];rfl) zA ?_;have a9:=q.view 2 rfl;refine DY (i:=i) Zi a9 rfl A rfl ?_;rintro d1 d2 d3 bg M rfl;refine lN (cs:=yM x) P4 M ?_;have bh:∀k,S k->k<H10.size:=λk B=>q.up (X k B);refine Al (AjD (S:=S) bh (aj.frame (q.old.mono X)) bd) λH11 bi=>?_;have N:=q.call bi;replace N:St H H11 (OE xb mb E I most F' [pN (zF a_) Sx 39 na i nc (rows.map AG),pS Ay 4 Z i bc ((F.take i).map λx=>ends (AL a x.1) (AL b x.2)),pS a_ 3 ra row.length rc (AG row)]):=N.pick [0,1,2,3,4,5] zQ;have p:((BO cs).take (j+1)).foldl (C6 most (Bl a b) x) (zY (F,[]))=(I' most F' (Bl a b x (AX c 0).1)).map λr=>(r.1,row++[r.2]):=by{rw[Ab cu,xO,K];rfl};refine iZ N (ap _ (aq x _ b6)).ok hm J (λF2 t bj bm H12 g O=>?_) (λH12 g O=>?_);{
 have⟨d4,dh⟩:=S9 g J;rw[g]at p;refine Aj AD [A_ t] rfl rfl zQ zQ ?_;intro d5 H13 P bn Q C;refine IA (x:=(t:Int)) (O.skip P C) 5 AD rfl Q ⟨rfl,Hw ⟨zO,zO⟩⟩ rfl (by unfold AG;rw[e_];omega) zQ λab ae H14 d _=>?_;have e1:(AG row).length+1=(row++[t]).length:=by unfold AG;simp
 have e2:AG row++[(t:Int)]=AG (row++[t]):=by unfold AG;simp
 rw[e1,e2]at d;rw[e1];(conv=>whnf);rw[R_ j zO];exact⟨rfl,(j+1,F2,row++[t],ab,ae),zZ,⟨zO,d4,λy hy=>(P8 g y hy).elim (a1 y) λe=>by rw[e];exact aq x _ b6,z.trans (by
  unfold I' at g;split at g
  ·injection g with h;injection h with w h2;subst w;exact vW _
  ·split at g
   ·injection g with h;injection h with w h2;subst w;exact List.prefix_append _ _
   ·cases g),by simp[a6],p,bj,bm,d⟩,by simp only;omega⟩};{rw[g]at p;have ag:(BO cs).foldl (C6 most (Bl a b) x) (zY (F,[]))=zV:=by{have h3:=(List.take_append_drop (j+1) (BO cs)).symm;rw[h3,xO,p];exact FK x _};have R:Dt most (Bl a b) (BO cs) l0=zV:=KX (n:=i) (by rw[o,ag];rfl) zO;(conv=>whnf);refine⟨O.old,?_⟩;rw[R]}};{obtain rfl:j=cs.length:=zO;have ah:(BO cs).foldl (C6 most (Bl a b) x) (zY (F,[]))=zY (F',row):=by{rw[<-K,uJ (by unfold BO;rw[e_];exact M_ _)]};rw[ah]at o;simp only[wP]at o;have A:=El z s;have d6:(AG row).length=row.length:=by{unfold AG;rw[e_]};have D:(rows.map AG).length=i:=by{rw[e_];exact a3};have bo:((F'.take (i+1)).map λx=>ends (AL a x.1) (AL b x.2))=((F.take i).map λx=>ends (AL a x.1) (AL b x.2))++[ends (AL a x.1) (AL b x.2)]:=by{obtain⟨t,rfl⟩:=z;rw[List.take_append_of_le_length zO,Ab s,yV];rfl};have U:((F.take i).map λx=>ends (AL a x.1) (AL b x.2)).length=i:=by{rw[e_,wI];omega};obtain⟨di,dj,er,ai,-⟩:=(L.at_ 5 rfl).1.view (S':=Q_ (.slice ra row.length rc)) (λb hb=>hb) (λb hb=>hb.elim);injection er with er1 er2 er3;subst er1;subst er3;have a7:St H H7 (pN (zF a_) (λk=>Sx k\/Q_ (.slice ra row.length rc) k) 39 na i nc (rows.map AG)::[pB oA xb (sC mb (.slice E F'.length I) most),xN Uy wH mb (ZL F'),pS tLp 263 E F'.length I F',pS Ay 4 Z i bc ((F.take i).map λx=>ends (AL a x.1) (AL b x.2))]):=B_.absorb (L.pick [3,5,0,1,2,4] zQ);refine Aj Dj [.slice ra row.length rc] rfl rfl zQ zQ ?_;intro d5 H13 P bn Q C;have bp:=a7.skip P C;have W:Y_ a_ (λk=>Sx k\/Q_ (.slice ra row.length rc) k) H13 ra rc (AG row):=(ai.frame (C.mono λk B=>by{have:=(L.in_ 5 rfl (.inl B)).2;omega})).mono λk B=>.inr B;refine U9 (row:=AG row) bp Dj (Q.cells λj v hv=>by rw[K_];exact hv) ⟨ra,rc,by rw[d6],W⟩ rfl (λu hu=>by cases V_.1 hu;rfl) (by rw[D];omega) zQ λab ae H14 d=>?_;rw[D]at d ⊢;have bq:=d.blk 1 rfl;refine G_ Ic ?_;refine C_ (v:=.slice E F'.length I) Od (by rw[bq.cell];rfl) zA ?_;refine DY (i:=i) Zi (d.view 3 rfl) rfl A rfl ?_;rintro d1 d2 d3 bg M rfl;refine lN (cs:=yM x) P4 M ?_;have br:∀k,S k->k<H14.size:=λk B=>d.up (X k B);refine Al (bY (S:=S) br (aj.frame (d.old.mono X)) ak (c1.eq (d.old pf (X pf ak))) hf) λH15 bu=>?_;have bv:=d.call bu;refine Aj Ci [.bool (ends (AL a x.1) (AL b x.2))] rfl rfl zQ zQ ?_;intro dk H16 bw da bx bz;refine IA (x:=ends (AL a x.1) (AL b x.2)) (bv.skip bw bz) 4 Ci rfl bx rfl rfl (by rw[U];omega) zQ λd7 d8 H17 V _=>?_;rw[U,<-bo]at V;rw[U];(conv=>whnf);rw[R_ i zO];refine⟨rfl,(i+1,F',rows++[row],ab,ae,d7,d8),zZ,⟨?_,J,a1,by simp[a3],o,(λk=>Sx k\/Q_ (.slice ra row.length rc) k),E,I,?_⟩,by simp only;omega⟩;{have:=(T_.1 A).1;omega};{have e5:rows.map AG++[AG row]=(rows++[row]).map AG:=zZ;rw[e5]at V;exact V.pick [1,2,3,0,4] zQ}}}};{obtain rfl:i=F.length:=zO;rw[M']at m;have D:(rows.map AG).length=F.length:=by{rw[e_];exact a3};have R:=KW a0 rfl b4;have a2:=nV ca na Z cc nc bc cs (rows.map AG) (F.map λx=>ends (AL a x.1) (AL b x.2)) (H_ H4) H4 (λk B=>B) ((am.frame (m.old.mono X)).mono λk B=>m.up (X k B)) (m.view 3 rfl) (m.view 4 rfl);rw[D,e_]at a2;refine Ae.mk a2 ?_;rintro v H6 ⟨a4,b7,d9⟩;have a5:=m.call a4;(conv=>whnf);refine⟨a5.old,?_⟩;rw[R];exact⟨v,rfl,d9.mono λk B=>⟨yS (BF m.old) B.1,B.2⟩⟩}}};{rw[Y]at w;cases w}
def AkU(a b:Option AM)(ends:Bool->Bool->Bool)(F:List (Int×Int))(p:Option AM):Prop:=Cg p/\Wq (Bl a b) (λx:Int×Int=>ends (AL a x.1) (AL b x.2)) F (Am p) (AL p)/\stN p=F.length
def NX(a b:Option AM)(ends:Bool->Bool->Bool)(m:Int)(H H':Aa)(r:v_):Prop:=if m<1\/4096<m then r= .tuple #[.pointer zV,A_ 2]else
 match nN a b m.toNat with
 | none=>r= .tuple #[.pointer zV,A_ 40]
 | some F=>∃v A,r= .tuple #[v,A_ 0]/\Bm (λk=>H.size<=k/\k<H'.size) H' v (zY A)/\AkU a b ends F (zY A)
def UC{S:Nat->Prop}{v:v_}(h:Bm S H v o):v.cells=[v].toArray:=by cases o with|none=>obtain rfl:=h;rfl|some A=>obtain⟨p,rfl,-⟩:=h;rfl
def RT{S:Nat->Prop}{b:Option AM}{ends:Bool->Bool->Bool}{m:Int}(hS:∀k,S k->k<H.size)(q:Bm S H va a)(s:Bm S H vb b)(ha:Cg a)(V:Cg b)(hf:∀(G:Aa) (x y:Bool),BK prog f #[.bool x,.bool y] G (.bool (ends x y))):Ai prog 130 #[va,vb,A_ m,.func (.func f) #[] #[]] H λr H'=>D_ (H_ H) H H'/\NX a b ends m H H' r:=by
 have sa:=ha.steps;have sb:=V.steps;have ar:=Ke q;have au:=Ke s;have W:0<(A8 b).length:=by{have⟨ls,h⟩:=V.ok;exact R0 h};refine Ai.of_vc func130 rfl (call130 _) (BI [va] (UC q) ?_);intro pa H1 X Y Z a0;have F_:=(St.nil H).box X Y Z a0;refine BI [vb] (UC s) ?_;intro pb H2 M a1 a2 a5;have a6:=F_.box M a1 a2 a5;refine BI [.func (.func f) #[] #[]] rfl ?_;intro pf H3 a7 a8 a9 ab;have c:=a6.box a7 a8 a9 ab;unfold NX;by_cases D:m<1;{have T:zT (m<1)=zW:=r_ D;(conv=>whnf);rw[T];(conv=>whnf);exact⟨c.old,by rw[J_ (.inl D)]⟩};have T:zT (m<1)=zU:=n_ D;by_cases E:4096<m;{have d2:zT (m>4096)=zW:=r_ E;(conv=>whnf);rw[T];(conv=>whnf);rw[d2];(conv=>whnf);exact⟨c.old,by rw[J_ (.inr E)]⟩};have d2:zT (m>4096)=zU:=n_ E;obtain⟨n,rfl⟩:=xR (zO:0<=m);have I:1<=n:=zO;have ae:n<=4096:=zO;(conv=>whnf);rw[T];(conv=>whnf);rw[d2];have u:∀{G:Aa} {ps:List Pc},St H3 G ps->D_ S H G:=λst=>(c.old.trans (st.old.mono λk o=>An c.old o)).mono hS;have J:∀{G:Aa} {ps:List Pc},St H3 G ps->∀k,S k->k<G.size:=λst k o=>An st.old (c.up (hS k o));have K:=St.nil H3;refine Ap.heldZ (H_ H3) [] (sq [0,2] (.f 1 (.f 3 (.f 4 (.f 5 (.f 6 .e)))))) rfl zX ?_;refine C_ (v:=va) L2 ((c.blk 0 rfl).ce rfl) (c.blk 0 rfl).lt ?_;refine C_ (v:=vb) L2 ((c.blk 1 rfl).ce rfl) (c.blk 1 rfl).lt ?_;refine Ae.mk (OS (J K) (q.frame (u K))) ?_;rintro _ G1 ⟨ag,-,ah⟩;obtain⟨aa,ac,rfl,w⟩:=K.got ag ah;refine⟨w.old,?_⟩;refine Ae.mk (OS (J w) (s.frame (u w))) ?_;rintro _ G2 ⟨ai,-,aj⟩;obtain⟨ba,bc,rfl,N⟩:=w.got ai aj;refine⟨N.old,?_⟩;refine Ru N 0 1 CJ rfl rfl W NR zO zQ λa3 c3 G3 A _=>(⟨A.old,?_⟩);obtain⟨sets,g⟩:∃sets,sets=A8 a++A8 b:=⟨_,rfl⟩;have O:(A8 a).length+(A8 b).length=sets.length:=by rw[g,O_]
 rw[O,<-g]at A;rw[O];refine Ae.mk (LS (S:=H_ G3) (λk o=>o) (A.view 0 rfl) zO) ?_;rintro _ G4 ⟨ak,a4,c4,rfl,h4⟩;have d:=A.call ak;refine⟨d.old,?_⟩;(conv=>whnf);refine⟨d.old,?_⟩;have am:=reps_len sets;have i:=Ao2 ha V;rw[<-g]at i;have b1:=(c.blk 0 rfl).agr d.old (c.blk 0 rfl).lt;have b2:=(c.blk 1 rfl).agr d.old (c.blk 1 rfl).lt;have b3:=(c.blk 2 rfl).agr d.old (c.blk 2 rfl).lt;have cl:∀{p t:Nat} {l:List v_},S_ G4 p t l->Bi G4 p 0 l:=λh=>h.cells λj v U=>by rw[K_];exact U
 have hold:∀k,S k->H_ G4 k:=λk o=>J d k o;have P:Pt (H_ G4) G4 pa pb va vb a b:=⟨b1.lt,b2.lt,cl b1,cl b2,(q.frame (u d)).mono hold,(s.frame (u d)).mono hold⟩;refine Au underlying263 rfl (wH (0,0)) TN (yM (0,0)) rfl (Ae.mk (WL (S:=H_ G4) (l0:=(0,0)) (most:=n) (λk o=>o) P b3.lt (cl b3) hf h4 am sa sb i.beg I ae) ?_);rintro r G5 ⟨ao,L⟩;have ap:=d.call ao;have C:D_ (H_ H) H G5:=c.old.trans (ap.old.mono λk o=>An c.old o);rw[show BO (BB sets)=CY sets from rfl]at L;have B:=i.detA I;have Q:nN a b ((n:Int)).toNat=FD n (Bl a b) (0,0):=by rw[O'];rfl
 cases hd:Dt n (Bl a b) (CY sets) (0,0)with|none=>rw[hd]at L B;simp only at L;subst L;(conv=>whnf);refine⟨C,?_⟩;rw[I_ zO,Q,<-B]<;>rfl|some z=>have⟨F,rows⟩:=z;rw[hd]at L B;obtain⟨v,rfl,U⟩:=L;have⟨R,hL,hN⟩:=AnK (fin:=λx:Int×Int=>ends (AL a x.1) (AL b x.2)) i I zO hd;rw[J_ R]at U;(conv=>whnf);refine⟨C,?_⟩;rw[I_ zO,Q,<-B];have aw:=BF c.old;have aq:=BF d.old;exact⟨v,_,rfl,U.mono λk o=>⟨zO,o.2⟩,⟨BB sets,rows.map AG,F.map λx=>ends (AL a x.1) (AL b x.2),by{unfold Ey;rw[e_,J_ R]}⟩,hL,hN⟩
def Re(x y:Bool):Bool:=x&&y
def Ai5(G:Aa)(x y:Bool):BK prog 131 #[.bool x,.bool y] G (.bool (Re x y)):=by refine Ai.of_vc func131 rfl (call131 _) ?_;cases x<;>((conv=>whnf);exact⟨rfl,D_.refl _ _⟩)
def Ai0(G:Aa)(x y:Bool):BK prog 132 #[.bool x,.bool y] G (.bool (Rl x y)):=by refine Ai.of_vc func132 rfl (call132 _) ?_;cases x<;>((conv=>whnf);exact⟨rfl,D_.refl _ _⟩)
def Ox{b:Option AM}{ends:Bool->Bool->Bool}{m:Int}{H':Aa}{r:v_}(h:NX a b ends m H H' r):∃x y,r= .tuple #[x,y]:=by unfold NX at h;split at h;{exact⟨_,_,h⟩};split at h;{exact⟨_,_,h⟩};obtain⟨v,A,h,-⟩:=h;exact⟨_,_,h⟩
section
variable{S:Nat->Prop}{b:Option AM}{m:Int}
def Ai6(g:∀k,S k->k<H.size)(c:Bm S H va a)(d:Bm S H vb b)(h:Cg a)(i:Cg b):Ai prog 106 #[va,vb,A_ m] H λr H'=>D_ (H_ H) H H'/\NX a b Re m H H' r:=by refine Ai.of_vc func106 rfl (call106 _) (Ae.mk (RT g c d h i Ai5) ?_);rintro r H1 ⟨e,f⟩;obtain⟨x,y,rfl⟩:=Ox f;(conv=>whnf);exact⟨e,f⟩
def Ai1(g:∀k,S k->k<H.size)(c:Bm S H va a)(d:Bm S H vb b)(h:Cg a)(i:Cg b):Ai prog 107 #[va,vb,A_ m] H λr H'=>D_ (H_ H) H H'/\NX a b Rl m H H' r:=by refine Ai.of_vc func107 rfl (call107 _) (Ae.mk (RT g c d h i Ai0) ?_);rintro r H1 ⟨e,f⟩;obtain⟨x,y,rfl⟩:=Ox f;(conv=>whnf);exact⟨e,f⟩
end
end
def N1{S:Nat->Prop}{v:v_}{a:P_}(h:sH S H v a)(l:b<1\/4096<b):BK prog 83 #[v,A_ b] H (.tuple #[.pointer zV,A_ 2]):=by refine Ai.of_vc func83 rfl (call83 _) (TE h λm n c o=>?_);subst c;intro p H1 j d e f;have F_:=(St.nil H).box j d e f;by_cases i:b<1;{have g:zT (b<(1:Int))=zW:=r_ i;(conv=>whnf);rw[g];(conv=>whnf);exact⟨rfl,F_.old⟩};have g:zT (b<(1:Int))=zU:=n_ i;have k:zT ((4096:Int)<b)=zW:=t_;(conv=>whnf);rw[g];(conv=>whnf);rw[k];(conv=>whnf);exact⟨rfl,F_.old⟩
section
attribute [local irreducible] Bs AE Ak
noncomputable def L3(a:P_)(b:Int):Except Int (List (List Int)):=if b<1\/4096<b then .error 2 else match UW a b.toNat with
 | none=>.error 40
 | some F=>.ok F
def bH{a:P_}(h:b<1\/4096<b):L3 a b= .error 2:=by unfold L3;rw[J_ h]
def Ye{a:P_}{b:Nat}(c:1<=b)(d:b<=4096):L3 a (b:Int)=match UW a b with | none=>.error 40 | some F=>.ok F:=by unfold L3;rw[I_ zO,O']
def bI{a:P_}(h:L3 a b= .error e):e≠0/\0<=e/\e<=40:=by unfold L3 at h;split at h;{injection h with h;omega};split at h;{injection h with h;omega};cases h
def AgX{a:P_}{F:List (List Int)}(h:L3 a b= .ok F):∃m:Nat,b=(m:Int)/\1<=m/\m<=4096/\UW a m=zY F:=by unfold L3 at h;split at h;{cases h};rename_i d;refine⟨b.toNat,zO,zO,zO,?_⟩;split at h;{cases h};rename_i F' c;injection h with h;rw[c,h]
end
section
attribute [local irreducible] Bs AE Ak FD
section
variable{K:Type} [DecidableEq K]{step:K->Nat->K}{fin:K->Bool}{F:List K}
def vS(step:K->Nat->K)(fin:K->Bool)(F:List K):PA:=⟨F.length,λq b=>((F[q]?).bind λx=>F.findIdx? (·=step x b)).getD 0,λq=>((F[q]?).map fin).getD zU⟩
structure P1(step:K->Nat->K)(F:List K):Prop where
 nd:F.Nodup
 pos:1<=F.length
 cl:∀x∈F,∀b,b<256->step x b∈F
omit [DecidableEq K]in
def aQ{F:List K}(a:F.Nodup){t u:Nat}{x:K}(f:F[t]?=zY x)(g:F[u]?=zY x):t=u:=by have⟨b,c⟩:=T_.1 f;have⟨d,e⟩:=T_.1 g;rcases Nat.lt_trichotomy t u with h | h | h;{exact absurd (c.trans e.symm) (xU.1 a t u b d h)};{exact h};exact absurd (e.trans c.symm) (xU.1 a u t d b h)
def Vd{x:K}(h:x∈F):∃i,F.findIdx? (·=x)=zY i/\F[i]?=zY x:=by cases a:F.findIdx? (·=x)with|none=>rw[List.findIdx?_eq_none_iff]at a;have:=a x h;simp at this|some i=>obtain⟨b,c,-⟩:=vC.1 a;exact⟨i,rfl,by rw[zJ b];simpa using c⟩
def Xq(h:P1 step F){q b:Nat}{x:K}(a:F[q]?=zY x)(c:b<256):F[(vS step fin F).st q b]?=zY (step x b):=by have⟨i,d,f⟩:=Vd (h.cl x (d_ a) b c);have e:(vS step fin F).st q b=i:=by{show((F[q]?).bind λx=>F.findIdx? (·=step x b)).getD 0=i;rw[a];show(F.findIdx? (·=step x b)).getD 0=i;rw[d];rfl};rw[e];exact f
def Xp{q:Nat}{x:K}(a:F[q]?=zY x):(vS step fin F).fi q=fin x:=by show((F[q]?).map fin).getD zU=fin x;rw[a];rfl
def iF(h:P1 step F):(vS step fin F).Ok:=⟨h.pos,λq b a c=>by
 have⟨x,d⟩:=Ac (l:=F) (k:=q) a;exact(T_.1 (Xq (fin:=fin) h d c)).1⟩
def TL(h:P1 step F):∀(w:List Nat) (q:Nat) (x:K),Do w->F[q]?=zY x->F[(vS step fin F).run q w]?=zY (w.foldl step x)| [],q,x,_,hx=>hx | b::w,q,x,hw,hx=>by rw[PA.run_cons];exact TL h w _ _ (λc a=>hw c (yH _ a)) (Xq h hx (hw b (by simp)))
def Lt{most:Nat}{start:K}(c:1<=most)(h:FD most step start=zY F):P1 step F/\F[0]?=zY start/\F.length<=most:=by have⟨m,n,o,p⟩:=bJ c h;refine⟨⟨o,m,?_⟩,p,n⟩;unfold FD at h;cases d:Dt most step (AoF 256) start with|none=>rw[d]at h;cases h|some z=>have⟨G,rows⟩:=z;rw[d]at h;simp only[wP,ApG.injEq]at h;subst h;have e:=Ni c G.length G rows (SN c d) λj r=>r;intro x s b g;have⟨q,i⟩:=xB s;have⟨row,a⟩:=Ac (l:=rows) (k:=q) (by rw[e.rl];exact(T_.1 i).1);have f:=e.cols row (d_ a);have⟨t,u⟩:=Ac (l:=row) (k:=b) (by rw[f];simpa using g);exact d_ (e.ok q b row b t x a (wJ g) u i)
def MM{K':Type}{step':K'->Nat->K'}{fin':K'->Bool}{f:K->K'}(h:P1 step F)(c:∀x∈F,∀y∈F,f x=f y->x=y)(g:∀x∈F,∀b,b<256->step' (f x) b=f (step x b))(i:∀x∈F,fin' (f x)=fin x){s1:Int->Nat->Int}{f1:Int->Bool}(j:∀(q b:Nat) (x:K'),(F.map f)[q]?=zY x->b<256->∃t:Nat,s1 (q:Int) b=(t:Int)/\(F.map f)[t]?=zY (step' x b)) (m:∀(q:Nat) (x:K'),(F.map f)[q]?=zY x->f1 (q:Int)=fin' x):(∀q b:Nat,q<F.length->b<256->s1 (q:Int) b=((vS step fin F).st q b:Int))/\∀q:Nat,q<F.length->f1 (q:Int)=(vS step fin F).fi q:=by constructor;{intro q b n e;have⟨x,a⟩:=Ac (l:=F) (k:=q) n;have d:=d_ a;have⟨t,r,e2⟩:=j q b (f x) (by rw[Y',a];rfl) e;rw[Y']at e2;have⟨y,o,p⟩:=eE.1 e2;rw[g x d b e]at p;have s:y=step x b:=c y (d_ o) _ (h.cl x d b e) p;rw[s]at o;rw[r,aQ h.nd o (Xq (fin:=fin) h a e)]};intro q n;have⟨x,a⟩:=Ac (l:=F) (k:=q) n;rw[m q (f x) (by rw[Y',a];rfl),i x (d_ a),Xp a]
end
structure FR(o:Option AM)(d:PA):Prop where
 n:stN o=d.n
 st:∀q b:Nat,q<d.n->b<256->Am o (q:Int) b=(d.st q b:Int)
 fi:∀q:Nat,q<d.n->AL o (q:Int)=d.fi q
variable{d c:PA}
def FR.run(h:FR o d)(a:d.Ok):∀(w:List Nat) (q:Nat),q<d.n->Do w->w.foldl (Am o) (q:Int)=(d.run q w:Int)| [],q,_,_=>rfl | b::w,q,hq,hw=>by have e:=hw b zZ;rw[wW,h.st q b hq e,PA.run_cons];exact FR.run h a w _ (a.cl q b hq e) λc f=>hw c (yH _ f)
noncomputable def HN(b:Int)(a:P_):Except Int PA:=match L3 a b with
 | .error e=>.error e
 | .ok F=>.ok (vS (Bf a) (λX=>zT (a.fin∈X)) F)
def GK(d1 d2:PA)(x:Nat×Nat)(c:Nat):Nat×Nat:=if c<256 then(d1.st x.1 c,d2.st x.2 c)else x
def sF(d1 d2:PA)(m:Nat):Option (List (Nat×Nat)):=FD m (GK d1 d2) (0,0)
def qF(ends:Bool->Bool->Bool)(d1 d2:PA)(x:Nat×Nat):Bool:=ends (d1.fi x.1) (d2.fi x.2)
def wK(b:Int)(ends:Bool->Bool->Bool)(d1 d2:PA):Except Int PA:=if b<1\/4096<b then .error 2 else match sF d1 d2 b.toNat with
 | none=>.error 40
 | some F=>.ok (vS (GK d1 d2) (qF ends d1 d2) F)
noncomputable def FF(b:Int)(x:Nat×Except Int BR):Nat×Except Int PA:=Bv x λA s=>if 65536<A.u then(s,.error 40)else match HN b ⟨A.u,A.p,A.q,A.es⟩with
 | .error e=>(s,.error e)
 | .ok d=>(max s d.n,.ok d)
noncomputable def C7(b:Int)(ends:Bool->Bool->Bool)(f g:Nat->Nat×Except Int PA)(s:Nat):Nat×Except Int P_:=Bv (f s) λd1 s1=>Bv (g s1) λd2 s2=>match wK b ends d1 d2 with
 | .error e=>(s2,.error e)
 | .ok d=>(max s2 d.n,.ok (A9 d))
noncomputable def AY(b:Int):ReM->Nat->Nat->Nat×Except Int BR | .eps,n,s=>(s,.ok ⟨n,n+1,2,[AK n (n+1)]⟩)| .cls t,n,s=>(s,.ok ⟨n,n+1,2,[C3 n (n+1) t]⟩)| .cat x y,n,s=>Bv (AY b x n s) λA s1=>Bv (AY b y (n+A.u) s1) λC s2=>(s2,.ok (M3 A C))| .alt x y,n,s=>Bv (AY b x (n+1) s) λA s1=>Bv (AY b y (n+1+A.u) s1) λC s2=>(s2,.ok (Mz n A C))| .star x,n,s=>Bv (AY b x (n+1) s) λA s1=>(s1,.ok (Io n A))| .and_ x y,n,s=>CP (C7 b Re (λs=>FF b (AY b x 0 s)) (λs=>FF b (AY b y 0 s)) s) n | .minus x y,n,s=>CP (C7 b Rl (λs=>FF b (AY b x 0 s)) (λs=>FF b (AY b y 0 s)) s) n
noncomputable def EI(b:Int):ReM->Nat->Nat×Except Int P_ | .and_ x y,s=>C7 b Re (λs=>FF b (AY b x 0 s)) (λs=>FF b (AY b y 0 s)) s | .minus x y,s=>C7 b Rl (λs=>FF b (AY b x 0 s)) (λs=>FF b (AY b y 0 s)) s | _,s=>(s,.error 2)
noncomputable def AW(b:Int)(r:ReM)(s:Nat):Nat×Except Int PA:=FF b (AY b r 0 s)
def Ds(b:Int):∀(r:ReM) (n s:Nat),AY b r n s=BG (EI b) r n s
 | .eps,n,s=>rfl
 | .cls t,n,s=>rfl
 | .cat x y,n,s=>by
   simp only[AY,BG];rw[Ds b x n s]
   congr 1
   funext A s1;rw[Ds b y _ s1];rfl
 | .alt x y,n,s=>by
   simp only[AY,BG];rw[Ds b x _ s]
   congr 1
   funext A s1;rw[Ds b y _ s1];rfl
 | .star x,n,s=>by
   simp only[AY,BG];rw[Ds b x _ s];rfl
 | .and_ x y,n,s=>rfl
 | .minus x y,n,s=>rfl
def Yh{a:P_}(h:HN b a= .ok d):∃F,L3 a b= .ok F/\d=vS (Bf a) (λX=>zT (a.fin∈X)) F/\P1 (Bf a) F/\F[0]?=zY (L1 a)/\d.Ok/\(d.n:Int)<=b/\d.n<=4096:=by unfold HN at h;cases c:L3 a b with|error e=>rw[c]at h;cases h|ok F=>{rw[c]at h;injection h with h;obtain⟨m,rfl,g,k,i⟩:=AgX c;have⟨f,j,l⟩:=Lt g i;subst h;exact⟨F,rfl,rfl,f,j,iF f,by show(F.length:Int)<=(m:Int);omega,by show F.length<=4096;omega⟩}
def PP{a:P_}(h:HN b a= .error e):L3 a b= .error e/\e≠0:=by unfold HN at h;cases c:L3 a b with|error d=>{rw[c]at h;injection h with h;subst h;exact⟨rfl,(bI c).1⟩}|ok F=>rw[c]at h;cases h
section
variable{ends:Bool->Bool->Bool}{a:PA}
def Ml(h:wK b ends a c= .ok d):∃F,sF a c b.toNat=zY F/\d=vS (GK a c) (qF ends a c) F/\P1 (GK a c) F/\F[0]?=zY (0,0)/\d.Ok/\(d.n:Int)<=b/\d.n<=4096/\1<=b/\b<=4096:=by unfold wK at h;split at h;{cases h};rename_i i;cases e:sF a c b.toNat with|none=>rw[e]at h;cases h|some F=>{rw[e]at h;injection h with h;have⟨f,g,j⟩:=Lt zO e;subst h;exact⟨F,rfl,rfl,f,g,iF f,by show(F.length:Int)<=b;omega,by show F.length<=4096;omega,zO,zO⟩}
def TQ(h:wK b ends a c= .error e):e=2\/e=40:=by unfold wK at h;split at h;{injection h with h;exact .inl h.symm};cases d:sF a c b.toNat with|none=>{rw[d]at h;injection h with h;exact .inr h.symm}|some F=>rw[d]at h;cases h
end
def PA.edges_len(d:PA)(h:d.n<=4096):(d.edgesTo d.n).length<=16785408:=by
 have a:∀q k,(d.hopsTo q k).length<=k:=λq k=>by{unfold PA.hopsTo;have:=List.length_filterMap_le (λt=>if(d.use t&&(d.set q t != 0#256))=zW then zY (C3 (d.place q) (d.place t) (d.set q t))else zV) (AoF k);rwa [rS]at this};have b:∀q,(d.endE q).length<=1:=λq=>by unfold PA.endE;split<;>simp
 have c:∀k,(d.edgesTo k).length<=k*4097:=λk=>by{induction k with|zero=>simp[PA.edgesTo]|succ k f=>have e:d.edgesTo (k+1)=d.edgesTo k++(if d.use k=zW then d.hopsTo k d.n++d.endE k else []):=by{unfold PA.edgesTo;rw[xW,tH];simp};rw[e,O_];have:=a k d.n;have:=b k;have:(if d.use k=zW then d.hopsTo k d.n++d.endE k else []).length<=4097:=by{split;{rw[O_];omega};simp};omega};have:=c d.n;omega
def Lh(h:d.n<=4096):(A9 d).edges.length<=33554432:=by unfold A9;split;{exact yS (PA.edges_len d h) zQ};simp
def AN{σ α β:Type}{x:σ×Except Int α}{f:α->σ->σ×Except Int β}{s:σ}(h:Bv x f=(s,.error e)):x=(s,.error e)\/∃b a,x=(b,.ok a)/\f a b=(s,.error e):=by have⟨b,r⟩:=x;cases r with|error c=>have h:((b,.error c):σ×Except Int β)=(s,.error e):=h;cases h;exact .inl rfl|ok a=>exact .inr ⟨b,a,rfl,h⟩
variable{g J:Nat->Nat×Except Int PA}
def KF{ends:Bool->Bool->Bool}{f:Nat->Nat×Except Int PA}{m:Nat}(h:C7 b ends f g s=(m,.ok N)):∃i a j c d,f s=(i,.ok a)/\g i=(j,.ok c)/\wK b ends a c= .ok d/\N=A9 d/\m=max j d.n:=by have⟨i,a,o,p⟩:=AP h;have⟨j,c,q,k⟩:=AP p;cases l:wK b ends a c with|error e=>simp only[l]at k;cases k|ok d=>simp only[l]at k;cases k;exact⟨i,a,j,c,d,o,q,l,rfl,rfl⟩
def Yq{x:Nat×Except Int BR}{g:Nat}(h:FF b x=(g,.ok d)):∃c A,x=(c,.ok A)/\A.u<=65536/\HN b ⟨A.u,A.p,A.q,A.es⟩= .ok d/\g=max c d.n:=by have⟨c,A,i,a⟩:=AP h;split at a;{cases a};rename_i j;cases f:HN b ⟨A.u,A.p,A.q,A.es⟩with|error e=>simp only[f]at a;cases a|ok d=>simp only[f]at a;cases a;exact⟨c,A,i,zO,f,rfl⟩
def Wa(b:Int){ends:Bool->Bool->Bool}{f:Nat->Nat×Except Int PA}{a:Nat}(c:∀s a e,f s=(a,.error e)->e≠0)(d:∀s a e,g s=(a,.error e)->e≠0)(h:CP (C7 b ends f g s) n=(a,.error e)):e≠0:=by rcases AN (show Bv _ _=_ from h)with h | ⟨i,N,-,h⟩;{rcases AN (show Bv _ _=_ from h)with h | ⟨i,k,-,h⟩;{exact c _ _ _ h};rcases AN h with h | ⟨l,m,-,h⟩;{exact d _ _ _ h};split at h;{rename_i j;cases h;rcases TQ j with h | h<;>omega};cases h};split at h;{cases h};cases h;decide
mutual
def Hc(b:Int):∀(r:ReM) (n s a:Nat) (e:Int),AY b r n s=(a,.error e)->e≠0
 | .eps,n,s,a,e,h=>by cases h
 | .cls t,n,s,a,e,h=>by cases h
 | .cat x y,n,s,a,e,h=>by
   simp only[AY]at h;rcases AN h with h | ⟨c,A,-,h⟩
   ·exact Hc b x _ _ _ _ h
   ·rcases AN h with h | ⟨d,C,-,h⟩
    ·exact Hc b y _ _ _ _ h
    ·cases h
 | .alt x y,n,s,a,e,h=>by
   simp only[AY]at h;rcases AN h with h | ⟨c,A,-,h⟩
   ·exact Hc b x _ _ _ _ h
   ·rcases AN h with h | ⟨d,C,-,h⟩
    ·exact Hc b y _ _ _ _ h
    ·cases h
 | .star x,n,s,a,e,h=>by
   simp only[AY]at h;rcases AN h with h | ⟨c,A,-,h⟩
   ·exact Hc b x _ _ _ _ h
   ·cases h
 | .and_ x y,n,s,a,e,h=>by
   simp only[AY]at h;exact Wa b (λs a e=>Cm b x s a e) (λs a e=>Cm b y s a e) h
 | .minus x y,n,s,a,e,h=>by
   simp only[AY]at h;exact Wa b (λs a e=>Cm b x s a e) (λs a e=>Cm b y s a e) h
def Cm(b:Int):∀(r:ReM) (s c:Nat) (e:Int),AW b r s=(c,.error e)->e≠0:=λr s c e h=>by
 rcases AN (show Bv _ _=_ from h)with h | ⟨f,A,-,h⟩
 ·exact Hc b r _ _ _ _ h
 ·split at h
  ·cases h;decide
  ·cases a:HN b ⟨A.u,A.p,A.q,A.es⟩with
   | error e=>simp only[a]at h;cases h;exact(PP a).2
   | ok d=>simp only[a]at h;cases h
end
def GG{l:List Nat}:∀{r:ReM} {i j:Nat},Mt l r i j->i<=j/\(j<=l.length\/j=i)
 | .eps,i,j,h=>by rw[show i=j from h];exact⟨M_ _,.inr rfl⟩
 | .cls s,i,j,⟨c,h1,_,h3⟩=>by have:=(T_.1 h1).1;omega
 | .cat a b,i,j,⟨k,h1,d⟩=>by have:=GG h1;have:=GG d;omega
 | .alt a b,i,j,h=>by
   rcases h with h | h
   ·exact GG h
   ·exact GG h
 | .star a,i,j,h=>by
   replace h:E9 (Mt l a) i j:=h
   induction h with
   | refl=>exact⟨M_ _,.inr rfl⟩
   | step _ d e=>have:=GG d;omega
 | .and_ a b,i,j,h=>GG h.1
 | .minus a b,i,j,h=>GG h.1
def jD{l:List Nat}{p q:Int}{j:Nat}(h:Pth es l p i q j):i<=j/\(j<=l.length\/j=i):=by induction h with|refl=>exact⟨M_ _,.inr rfl⟩|sil _ _ _ _ a=>exact a|eat _ _ _ _ b _ a=>have:=(T_.1 b).1;omega
def Nr(w l:List Nat)(d m:Nat):Prop:=∀k,k<m->w[k]?=l[k+d]?
def Ee{w l:List Nat}{d m:Nat}(n:Nr w l d m):∀{r:ReM} {i j:Nat},i<=j->j<=m->(Mt w r i j↔Mt l r (i+d) (j+d))
 | .eps,i,j,hi,f=>by
   show i=j↔i+d=j+d;omega
 | .cls s,i,j,hi,f=>by
   constructor
   ·rintro⟨c,o,g,rfl⟩;exact⟨c,by rw[<-n i (by omega)];exact o,g,by omega⟩
   ·rintro⟨c,o,g,y⟩;obtain rfl:j=i+1:=zO
    exact⟨c,by rw[n i zO];exact o,g,rfl⟩
 | .cat a b,i,j,hi,f=>by
   constructor
   ·rintro⟨k,o,g⟩;have v:=(GG o).1;have q:=(GG g).1;exact⟨k+d,(Ee n v zO).1 o,(Ee n q f).1 g⟩
   ·rintro⟨k,o,g⟩;have v:=(GG o).1;have q:=(GG g).1;obtain⟨p,rfl⟩:∃p,k=p+d:=⟨k-d,zO⟩;exact⟨p,(Ee n zO zO).2 o,(Ee n zO f).2 g⟩
 | .alt a b,i,j,hi,f=>or_congr (Ee n hi f) (Ee n hi f)
 | .star a,i,j,hi,f=>by
   constructor
   ·intro h;replace h:E9 (Mt w a) i j:=h;show E9 (Mt l a) (i+d) (j+d);clear hi
    induction h with
    | refl=>exact .refl
    | @step k j o g t=>
      have q:=(GG g).1;exact .step (t zO) ((Ee n q f).1 g)
   ·intro h;replace h:E9 (Mt l a) (i+d) (j+d):=h;show E9 (Mt w a) i j;have x:∀u,E9 (Mt l a) (i+d) u->∀j,u=j+d->j<=m->E9 (Mt w a) i j:=by
     intro u h
     induction h with
     | refl=>intro j e _;obtain rfl:i=j:=zO
             exact .refl
     | @step k u o g t=>
       intro j e f;subst e;have q:=(GG g).1;have v:i+d<=k:=by
        clear t g q
        induction o with
        | refl=>exact M_ _
        | step _ g t=>have:=(GG g).1;omega
       obtain⟨p,rfl⟩:∃p,k=p+d:=⟨k-d,zO⟩;exact .step (t p rfl zO) ((Ee n zO f).2 g)
    exact x _ h j rfl f
 | .and_ a b,i,j,hi,f=>and_congr (Ee n hi f) (Ee n hi f)
 | .minus a b,i,j,hi,f=>and_congr (Ee n hi f) (not_congr (Ee n hi f))
def cI{l:List Nat}{d m:Nat}(s:Nr w l d m){p q:Int}{j:Nat}(n:j<=m):Pth es w p i q j↔Pth es l p (i+d) q (j+d):=by constructor;{intro h;induction h with|refl=>exact .refl|sil _ a b f g=>exact .sil (g n) a b f|@eat q j c e _ a b f h4 h5 g=>have:=Pth.eat (g zO) a b f (by rw[<-s j zO];exact h4) h5;rwa [(zO:j+d+1=j+1+d)]at this};intro h;have r:∀q o,Pth es l p (i+d) q o->∀j,o=j+d->j<=m->Pth es w p i q j:=by{intro q o h;induction h with|refl=>intro j e _;obtain rfl:i=j:=zO;exact .refl|sil _ a b f g=>exact λj e n=>.sil (g j e n) a b f|@eat q o c e h0 a b f h4 h5 g=>intro j t n;have u:=(jD h0).1;obtain⟨k,rfl⟩:∃k,j=k+1:=⟨j-1,zO⟩;obtain rfl:o=k+d:=zO;exact .eat (g k rfl zO) a b f (by rw[s k zO];exact h4) h5};exact r _ _ h j rfl n
def Nr.of(l:List Nat)(i j:Nat)(a:i<=j)(c:j<=l.length\/j=i):Nr ((l.drop i).take (j-i)) l i (j-i)/\((l.drop i).take (j-i)).length=j-i:=by refine⟨λk b=>?_,?_⟩;{rw[List.getElem?_take,J_ b,List.getElem?_drop,Nat.add_comm]};rw[wI,List.length_drop];omega
def AkY{l:List Nat}{p q:Int}{j:Nat}(n:Int):Pth (es.map (zB n)) l (p+n) i (q+n) j↔Pth es l p i q j:=by have hs:∀e:u_,(zB n e).sil=e.sil:=λe=>rfl;constructor;{intro h;have k:∀x j,Pth (es.map (zB n)) l (p+n) i x j->∃q,x=q+n/\Pth es l p i q j:=by{intro x j h;induction h with|refl=>exact⟨p,rfl,.refl⟩|sil _ f a d b=>obtain⟨q,rfl,b⟩:=b;obtain⟨e,m,rfl⟩:=yD.1 f;have d:e.fr+n=q+n:=d;exact⟨e.to,rfl,.sil b m a zO⟩|eat _ f a d o g b=>obtain⟨q,rfl,b⟩:=b;obtain⟨e,m,rfl⟩:=yD.1 f;have d:e.fr+n=q+n:=d;have a:e.sil=zU:=a;have r:(zB n e).set=e.set:=by{unfold zB;rw[a];rfl};rw[r]at g;exact⟨e.to,rfl,.eat b m a zO o g⟩};have⟨s,e,t⟩:=k _ _ h;obtain rfl:q=s:=zO;exact t};intro h;induction h with|refl=>exact .refl|sil _ f a d b=>exact .sil (e:=zB n _) b (eB f) a (by show _+n=_+n;rw[d])|@eat q j c e _ f a d o g b=>have r:(zB n e).set=e.set:=by{unfold zB;rw[a];rfl};exact .eat (e:=zB n e) b (eB f) a (by show e.fr+n=_+n;rw[d]) o (by rw[r];exact g)
def O5{σ:Type}{x:σ×Except Int P_}{c:σ}(h:CP x n=(c,.ok A)):∀e∈A.es,((n:Nat):Int)<=e.fr/\e.fr<((n+A.u:Nat):Int)/\((n:Nat):Int)<=e.to/\e.to<((n+A.u:Nat):Int):=by intro e d;have⟨j,N,l,a⟩:=AP h;split at a;{rename_i f;cases a;obtain⟨-,-,g⟩:=Ed.1 f;obtain⟨i,b,rfl⟩:=yD.1 d;have k:=g i b;have m:=P_.has_iff.1 k.1;have o:=P_.has_iff.1 k.2;simp only[zB];omega};cases a
def Ek{σ:Type}{sub:ReM->σ->σ×Except Int P_}{E:Nat}(d:U2 sub E):∀(r:ReM) (n:Nat) (s f:σ) (A:BR),BG sub r n s=(f,.ok A)->∀e∈A.es,((n:Nat):Int)<=e.fr/\e.fr<((n+A.u:Nat):Int)/\((n:Nat):Int)<=e.to/\e.to<((n+A.u:Nat):Int)
 | .eps,n,s,f,A,h,e,c=>by
   cases h;rcases V_.1 c with rfl;simp only[AK];omega
 | .cls t,n,s,f,A,h,e,c=>by
   cases h;rcases V_.1 c with rfl;simp only[C3];omega
 | .cat a b,n,s,f,A,h,e,c=>by
   have⟨l,A1,g,i⟩:=AP h;have⟨o,A2,j,k⟩:=AP i;cases k;have m:=BW d a _ _ _ _ g;have p:=BW d b _ _ _ _ j;simp only[k_,V_]at c;rcases c with(c | c) | rfl
   ·have:=Ek d a _ _ _ _ g e c;dsimp only;omega
   ·have:=Ek d b _ _ _ _ j e c;dsimp only;omega
   ·simp only[AK];omega
 | .alt a b,n,s,f,A,h,e,c=>by
   have⟨l,A1,g,i⟩:=AP h;have⟨o,A2,j,k⟩:=AP i;cases k;have m:=BW d a _ _ _ _ g;have p:=BW d b _ _ _ _ j;simp only[k_,zM,tJ,or_false]at c;rcases c with(c | c) | rfl | rfl | rfl | rfl
   ·have:=Ek d a _ _ _ _ g e c;dsimp only;omega
   ·have:=Ek d b _ _ _ _ j e c;dsimp only;omega
   all_goals simp only[AK];omega
 | .star a,n,s,f,A,h,e,c=>by
   have⟨l,A1,g,i⟩:=AP h;cases i;have m:=BW d a _ _ _ _ g;simp only[k_,zM,tJ,or_false]at c;rcases c with c | rfl | rfl | rfl | rfl
   ·have:=Ek d a _ _ _ _ g e c;dsimp only;omega
   all_goals simp only[AK];omega
 | .and_ a b,n,s,f,A,h,e,c=>O5 (show CP _ n=_ from h) e c
 | .minus a b,n,s,f,A,h,e,c=>O5 (show CP _ n=_ from h) e c
def dG(a:P_)(w:List Nat):w.foldl (Bf a) (L1 a)=Xv a w:=by have c:∀k,k<=w.length->(w.take k).foldl (Bf a) (L1 a)=Xv a (w.take k):=by{intro k;induction k with|zero=>intro _;rfl|succ k f=>intro g;obtain⟨b,d⟩:∃b,w[k]?=zY b:=⟨_,zJ zO⟩;have e:(λq=>q∈Xv a (w.take k))=OH a (w.take k):=funext λq=>propext (VF a _ q);have hs:Bf a (Xv a (w.take k)) b=Xv a (w.take (k+1)):=by{unfold Bf;rw[e,<-NH,<-Ab d];rfl};rw[<-hs,<-f zO,Ab d,xO];rfl};have:=c w.length (M_ _);rwa [M']at this
def bL{a:P_}(h:HN b a= .ok d)(e:Do w):d.fi (d.run 0 w)=Zx a w:=by obtain⟨F,i,rfl,f,g,j,-,-⟩:=Yh h;have c:=TL (fin:=λX=>zT (a.fin∈X)) f w 0 _ e g;rw[dG]at c;rw[Xp c];show zT (a.fin∈Xv a w)=Zx a w;rw[sR,z',Mx,VF]
def Sk(a b:PA):∀(w:List Nat) (x:Nat×Nat),Do w->w.foldl (GK a b) x=(a.run x.1 w,b.run x.2 w)| [],x,_=>rfl | c::w,x,hw=>by have d:=hw c zZ;rw[wW,Sk a b w _ λy e=>hw y (yH _ e)];unfold GK;rw[J_ d]<;>rfl
def AiT{ends:Bool->Bool->Bool}{a:PA}(h:wK b ends a c= .ok d)(e:Do w):d.fi (d.run 0 w)=ends (a.fi (a.run 0 w)) (c.fi (c.run 0 w)):=by obtain⟨F,j,rfl,g,i,k,-,-,-,-⟩:=Ml h;have f:=TL (fin:=qF ends a c) g w 0 _ e i;rw[Sk _ _ _ _ e]at f;rw[Xp f];rfl
def AgB(c:A.u<=65536)(d:A.p<A.u)(f:A.q<A.u)(b:∀e∈A.es,(0:Int)<=e.fr/\e.fr<(A.u:Int)/\(0:Int)<=e.to/\e.to<(A.u:Int)):Zx ⟨A.u,A.p,A.q,A.es⟩ w=zW↔Pth A.es w (A.p:Int) 0 (A.q:Int) w.length:=by rw[Mx];constructor;{intro h;exact Pm (a:=⟨A.u,A.p,A.q,A.es⟩) (M_ _) _ (by rw[M'];exact h)};intro h;have:=(Ud (a:=⟨A.u,A.p,A.q,A.es⟩) (P_.has_iff.2 ⟨by show(0:Int)<=(A.p:Int);omega,by show(A.p:Int)<(A.u:Int);omega,by show(A.u:Int)<=65536;omega⟩) (λe h=>P_.has_iff.2 ⟨(b e h).2.2.1,(b e h).2.2.2,by show(A.u:Int)<=65536;omega⟩) h).2;rwa [M']at this
def ZX(h:d.Ok)(j:d.n<=4096)(a:Do w):Pth (A9 d).edges w (A9 d).start 0 (A9 d).fin w.length↔d.fi (d.run 0 w)=zW:=by rw[<-ZV h zO a,Mx];have⟨b,k,c⟩:=NC (d:=d) zO;constructor;{intro f;have:=(Ud b (λe g=>(c e g).2) f).2;rwa [M']at this};{intro i;exact Pm (M_ _) _ (by rw[M'];exact i)}
def ZW(d:PA):(A9 d).start=(((A9 d).start.toNat:Nat):Int)/\(A9 d).fin=(((A9 d).fin.toNat:Nat):Int):=by unfold A9;split;{exact⟨rfl,by show(d.count:Int)=((d.count:Int).toNat:Int);omega⟩};exact⟨rfl,rfl⟩
def KK(b:Int):U2 (EI b) 33554432:=by have i:∀{ends:Bool->Bool->Bool} {f g:Nat->Nat×Except Int PA} {s c:Nat} {N:P_},C7 b ends f g s=(c,.ok N)->N.edges.length<=33554432:=λh=>by{obtain⟨k,l,m,n,d,u,v,o,rfl,w⟩:=KF h;exact Lh (Ml o).choose_spec.2.2.2.2.2.2.1};have j:∀{ends:Bool->Bool->Bool} {f g:Nat->Nat×Except Int PA} {s c:Nat} {e:Int},(∀s c e,f s=(c,.error e)->e≠0)->(∀s c e,g s=(c,.error e)->e≠0)->C7 b ends f g s=(c,.error e)->e≠0:=λp q h=>by{rcases AN h with h | ⟨k,l,-,h⟩;{exact p _ _ _ h};rcases AN h with h | ⟨m,n,-,h⟩;{exact q _ _ _ h};split at h;{rename_i t;cases h;rcases TQ t with h | h<;>omega};cases h};refine⟨λr s c a h=>?_,λr s c e h=>?_⟩;{cases r with|and_ x y=>exact i (show C7 b Re (λs=>FF b (AY b x 0 s)) (λs=>FF b (AY b y 0 s)) _=_ from h)|minus x y=>exact i (show C7 b Rl (λs=>FF b (AY b x 0 s)) (λs=>FF b (AY b y 0 s)) _=_ from h)|_=>cases h};cases r with|and_ x y=>exact j (λs c e h=>Cm b x s c e h) (λs c e h=>Cm b y s c e h) (show C7 b Re (λs=>FF b (AY b x 0 s)) (λs=>FF b (AY b y 0 s)) _=_ from h)|minus x y=>exact j (λs c e h=>Cm b x s c e h) (λs c e h=>Cm b y s c e h) (show C7 b Rl (λs=>FF b (AY b x 0 s)) (λs=>FF b (AY b y 0 s)) _=_ from h)|_=>cases h;decide
def IR{a:Nat}(h:AY b r n s=(a,.ok A)):n<=A.p/\A.p<n+A.u/\n<=A.q/\A.q<n+A.u:=by rw[Ds]at h;have:=BW (KK b) r n s a A h;omega
def EX{a:Nat}(h:AY b r n s=(a,.ok A)):∀e∈A.es,((n:Nat):Int)<=e.fr/\e.fr<((n+A.u:Nat):Int)/\((n:Nat):Int)<=e.to/\e.to<((n+A.u:Nat):Int):=by rw[Ds]at h;exact Ek (KK b) r n s a A h
def Kl{a:Nat}(h:FF b (AY b r 0 s)=(a,.ok d))(f:Do w)(g:∀(s a:Nat) (A:BR),AY b r 0 s=(a,.ok A)->∀i j,Pth A.es w (A.p:Int) i (A.q:Int) j↔Mt w r i j):d.fi (d.run 0 w)=zW↔Mt w r 0 w.length:=by have⟨o,A,c,k,l,t⟩:=Yq h;have u:=IR c;have m:=EX c;rw[bL l f,AgB k zO zO (λe n=>by have:=m e n;omega)];exact g _ _ _ c 0 w.length
def Zd{ends:Bool->Bool->Bool}{f:Nat->Nat×Except Int PA}{o:Nat}{P Q:List Nat->Prop}(h:CP (C7 b ends f g s) n=(o,.ok A))(G:∀s o d,f s=(o,.ok d)->∀w,Do w->(d.fi (d.run 0 w)=zW↔P w))(H:∀s o d,g s=(o,.ok d)->∀w,Do w->(d.fi (d.run 0 w)=zW↔Q w))
  (l:List Nat) (I:Do l) (i j:Nat):Pth A.es l (A.p:Int) i (A.q:Int) j↔i<=j/\(j<=l.length\/j=i)/\∃x y,(x=zW↔P ((l.drop i).take (j-i)))/\(y=zW↔Q ((l.drop i).take (j-i)))/\ends x y=zW:=by have⟨W,N,J,z⟩:=AP h;obtain⟨X,C,Y,D,d,K,L,E,rfl,-⟩:=KF J;obtain⟨-,-,-,-,-,B,-,M,-,-⟩:=Ml E;have⟨O,e2⟩:=ZW d;split at z;{rename_i Z;cases z;dsimp only;rw[show((n+(A9 d).start.toNat:Nat):Int)=(A9 d).start+(n:Int) by rw[O];omega,show((n+(A9 d).fin.toNat:Nat):Int)=(A9 d).fin+(n:Int) by rw[e2];omega,AkY];have a:∀(k:i<=j) (F:j<=l.length\/j=i),Pth (A9 d).edges l (A9 d).start i (A9 d).fin j↔∃x y,(x=zW↔P ((l.drop i).take (j-i)))/\(y=zW↔Q ((l.drop i).take (j-i)))/\ends x y=zW:=by{intro k F;have⟨m,e⟩:=Nr.of l i j k F;have r:Do ((l.drop i).take (j-i)):=λc R=>I c (List.mem_of_mem_drop (List.mem_of_mem_take R));generalize (l.drop i).take (j-i)=w at m e r;have t:=cI (es:=(A9 d).edges) m (p:=(A9 d).start) (q:=(A9 d).fin) (i:=0) (j:=j-i) (M_ _);rw[K_,eD k,<-e]at t;rw[<-t,ZX B M r,AiT E r];have p1:=G _ _ _ K w r;have p2:=H _ _ _ L w r;constructor;{intro h;exact⟨_,_,p1,p2,h⟩};{rintro⟨x,y,S,T,h⟩;have U:C.fi (C.run 0 w)=x:=by{rw[sR,p1,S]};have V:D.fi (D.run 0 w)=y:=by{rw[sR,p2,T]};rw[U,V];exact h}};constructor;{intro m;have⟨u,v⟩:=jD m;exact⟨u,v,(a u v).1 m⟩};{rintro⟨u,v,m⟩;exact(a u v).2 m}};{cases z}
def I7{l:List Nat}{j:Nat}(a:i<=j)(c:j<=l.length\/j=i):Mt ((l.drop i).take (j-i)) r 0 ((l.drop i).take (j-i)).length↔Mt l r i j:=by have⟨d,b⟩:=Nr.of l i j a c;rw[b];have:=Ee d (r:=r) (i:=0) (j:=j-i) (p_ _) (M_ _);rw[K_,eD a]at this;exact this
def ED(b:Int):∀(r:ReM) (n s e:Nat) (A:BR),AY b r n s=(e,.ok A)->∀(l:List Nat),Do l->∀i j,Pth A.es l (A.p:Int) i (A.q:Int) j↔Mt l r i j
 | .eps,n,s,e,A,h,l,hl,i,j=>by cases h;exact HL l .eps rfl n i j
 | .cls t,n,s,e,A,h,l,hl,i,j=>by cases h;exact HL l (.cls t) rfl n i j
 | .cat x y,n,s,e,A,h,l,hl,i,j=>by
   have⟨C,A1,a,f⟩:=AP (show Bv _ _=_ from h);have⟨D,A2,c,B⟩:=AP f;cases B;exact AlG (IR a) (IR c) (EX a) (EX c) (ED b x _ _ _ _ a l hl) (ED b y _ _ _ _ c l hl) i j
 | .alt x y,n,s,e,A,h,l,hl,i,j=>by
   have⟨C,A1,a,f⟩:=AP (show Bv _ _=_ from h);have⟨D,A2,c,B⟩:=AP f;cases B;exact Al6 (IR a) (IR c) (EX a) (EX c) (ED b x _ _ _ _ a l hl) (ED b y _ _ _ _ c l hl) i j
 | .star x,n,s,e,A,h,l,hl,i,j=>by
   have⟨C,A1,a,f⟩:=AP (show Bv _ _=_ from h);cases f;exact AjA (IR a) (EX a) (ED b x _ _ _ _ a l hl) i j
 | .and_ x y,n,s,e,A,h,l,hl,i,j=>by
   rw[Zd (P:=λw=>Mt w x 0 w.length) (Q:=λw=>Mt w y 0 w.length) (show CP (C7 b Re _ _ s) n=_ from h) (λs e d o w g=>Kl o g λs e A z=>ED b x _ _ _ _ z w g) (λs e d o w g=>Kl o g λs e A z=>ED b y _ _ _ _ z w g) l hl i j];constructor
   ·rintro⟨k,m,u,v,a,f,c⟩;rw[I7 k m]at a f;have c:(u&&v)=zW:=c;rw[X']at c;exact⟨a.1 c.1,f.1 c.2⟩
   ·rintro⟨a,f⟩;have⟨k,m⟩:=GG a;exact⟨k,m,zW,zW,by rw[I7 k m];simp[a],by rw[I7 k m];simp[f],rfl⟩
 | .minus x y,n,s,e,A,h,l,hl,i,j=>by
   rw[Zd (P:=λw=>Mt w x 0 w.length) (Q:=λw=>Mt w y 0 w.length) (show CP (C7 b Rl _ _ s) n=_ from h) (λs e d o w g=>Kl o g λs e A z=>ED b x _ _ _ _ z w g) (λs e d o w g=>Kl o g λs e A z=>ED b y _ _ _ _ z w g) l hl i j];constructor
   ·rintro⟨k,m,u,v,a,f,c⟩;rw[I7 k m]at a f;have c:(u&& !v)=zW:=c;rw[X']at c;refine⟨a.1 c.1,λB=>?_⟩;rw[f.2 B]at c;exact absurd c.2 zQ
   ·rintro⟨a,f⟩;have⟨k,m⟩:=GG a;exact⟨k,m,zW,zU,by rw[I7 k m];simp[a],by rw[I7 k m];simp[f],rfl⟩
def W7{a:Nat}(h:AW b r s=(a,.ok d))(c:Do w):d.fi (d.run 0 w)=zW↔Mt w r 0 w.length:=Kl h c λs a A e=>ED b r _ _ _ _ e w c
def Ha{a:Nat}(h:AW b r s=(a,.ok d)):d.Ok/\(d.n:Int)<=b/\d.n<=4096:=by have⟨i,A,j,k,c,l⟩:=Yq h;obtain⟨F,-,-,-,-,e,f,g⟩:=Yh c;exact⟨e,f,g⟩
end
def wX(er:Int)(n:Nat)(v sub:v_):List v_:=[A_ n,A_ 0,A_ 0,v,sub,A_ er]
def M8{p:Nat}(a:p<=4398046511104)(b:q<=4398046511104)(s:Bool)(t:BitVec 256):(u_.mk p q s t).Ok:=⟨BJ zO,BJ zO⟩
section
variable{rest:List Pc}{bb:Nat}
def Dn{v sub:v_}{er:Int}(a:B_ B H0 H (pB vK bb (wX er n v sub)::rest))(d:n<=4398046511104)(k:∀H',B_ B H0 H' (pB vK bb (wX er (n+1) v sub)::rest)->K (.int .i64 (n:Int)) H'):Ae prog 126 #[U_ bb] H K:=by
 refine Ae.mk (R:=λr H'=>r= .int .i64 (n:Int)/\B_ B H0 H' (pB vK bb (wX er (n+1) v sub)::rest)) ?_ λr H' ⟨b,c⟩=>by rw[b];exact k H' c
 refine Ai.of_vc func126 rfl (call126 _) (fa Cl (fa DN ?_));refine lT (v:=A_ n) E_ ((a.blk 0 rfl).ce rfl) ?_;(conv=>whnf);rw[R_ n zO];refine fa Cl (fa DN (Bb a 0 E_ rfl (zQ:0<6) rfl λH1 F_=>(fa Cl (fa DN ?_))));refine lT (v:=A_ ((n:Int)+1)) E_ ((F_.blk 0 rfl).ce rfl) ?_;(conv=>whnf);rw[W_ (x:=(n:Int)+1-1) zO,show(n:Int)+1-1=(n:Int) by omega];(conv=>whnf);exact⟨rfl,F_⟩
def BX{sub:v_}{er:Int}{a:Option Addr}{c p:Nat}(h:B_ B H0 H (pB vK bb (wX er n (.slice a es.length c) sub)::pS tEd 225 a es.length c es::rest))(i:p<=4398046511104)(l:q<=4398046511104)(E:es.length+1<=1099511627776)(k:∀a' d H',B_ B H0 H' (pB vK bb (wX er n (.slice a' (es++[AK p q]).length d) sub)::pS tEd 225 a' (es++[AK p q]).length d (es++[AK p q])::rest)->K (.tuple #[]) H'):Ae prog 127 #[U_ bb,A_ p,A_ q] H K:=by
 refine Ae.mk (R:=λr H'=>r= .tuple #[]/\∃a' d,B_ B H0 H' (pB vK bb (wX er n (.slice a' (es++[AK p q]).length d) sub)::pS tEd 225 a' (es++[AK p q]).length d (es++[AK p q])::rest)) ?_ λr H' ⟨m,a',d,s⟩=>by rw[m];exact k a' d H' s
 refine Ai.of_vc func127 rfl (call127 _) (fa Cl (fa Eh ?_));refine lT (v:=.slice a es.length c) FV ((h.blk 0 rfl).ce rfl) ?_;refine Sg p q (Aj Gs (yA (AK p q)) rfl rfl zQ zQ ?_);intro y H1 t w e f;have F_:=h.skip t f;refine GM (ys:=[AK p q]) F_ 1 Gs rfl (e.cells (o:=0) (cs:=yA (AK p q)) λj v x=>by rw[K_];exact x) (Ty.reps_one ⟨rfl,M8 i l _ _⟩) rfl (λu z=>yC.1 (KZ _) u z) (by unfold maxLen;simp;omega) (by simp;omega) λA C H9 g _=>?_;refine fa Cl (fa Eh (Bb g 0 FV rfl (zQ:3<6) rfl λH10 b=>?_));(conv=>whnf);have D:es.length+[AK p q].length=(es++[AK p q]).length:=zZ;rw[D]at b;exact⟨rfl,A,C,b⟩
def UH{sub:v_}{er:Int}{a:Option Addr}{c:Nat}{s:BitVec 256}(M:B_ B H0 H (pB vK bb (wX er n (.slice a es.length c) sub)::pS tEd 225 a es.length c es::rest))(X:n<=2199023255552)(Y:es.length+1<=1099511627776)(k:∀a' g H',B_ B H0 H' (pB vK bb (wX er (n+2) (.slice a' (es++[C3 n (n+1) s]).length g) sub)::pS tEd 225 a' (es++[C3 n (n+1) s]).length g (es++[C3 n (n+1) s])::rest)->K (.tuple #[A_ n,A_ ((n+1:Nat):Int)]) H'):Ae prog 128 #[U_ bb,BD s] H K:=by
 refine Ae.mk (R:=λr H'=>r= .tuple #[A_ n,A_ ((n+1:Nat):Int)]/\∃a' g,B_ B H0 H' (pB vK bb (wX er (n+2) (.slice a' (es++[C3 n (n+1) s]).length g) sub)::pS tEd 225 a' (es++[C3 n (n+1) s]).length g (es++[C3 n (n+1) s])::rest)) ?_ λr H' ⟨N,a',g,O⟩=>by rw[N];exact k a' g H' O
 refine Ai.of_vc func128 rfl (call128 _) (BI (Ag s) rfl ?_);intro x H1 P t w z;have F_:=(M.box P t w z).perm (xJ _ _);have A:B_ B H0 H1 (pB vK bb (wX er n (.slice a es.length c) sub)::pB 108 x (Ag s)::pS tEd 225 a es.length c es::rest):=F_.perm (List.Perm.swap _ _ _);refine Dn A zO λH3 C=>(Dn C zO λH4 b=>?_);have q:=b.apart2 (i:=0) (j:=2) rfl rfl zQ;have l:=b.apart2 (i:=1) (j:=2) rfl rfl zQ;refine Ap.heldZ (λk=>k<H4.size/\¬Q_ (.slice a es.length c) k) [15] (sq [0,1,2,3,4,5,6,7,8,9] (.f 10 (.f 11 (sq [12,13,14] (.f 15 .e))))) rfl zX ?_;have D:bb<H4.size/\¬Q_ (.slice a es.length c) bb:=⟨(b.in_ 0 rfl rfl).2,λh=>q bb rfl (.inl h)⟩;have E:x<H4.size/\¬Q_ (.slice a es.length c) x:=⟨(b.in_ 1 rfl rfl).2,λh=>l x rfl (.inl h)⟩;refine fa Cl (fa Eh ?_);refine C_ (v:=.slice a es.length c) FV ((b.blk 0 rfl).ce rfl) D ?_;refine L_ (cs:=Ag s) Bn ((b.blk 1 rfl).cells λj v F=>by rw[K_];exact F) E ?_;refine Se n (n+1) s (Aj Gs (yA (C3 n (n+1) s)) rfl rfl zQ zQ ?_);intro y H5 Q S G m;have I:=b.skip Q m;refine⟨m.mono λk p=>by have:=p.1;omega,?_⟩;refine GM (ys:=[C3 n (n+1) s]) I 2 Gs rfl (G.cells (o:=0) (cs:=yA (C3 n (n+1) s)) λj v F=>by rw[K_];exact F) (Ty.reps_one ⟨rfl,M8 zO zO _ _⟩) rfl (λu T=>yC.1 (KZ _) u T) (by unfold maxLen;simp;omega) (by simp;omega) λU V H9 J L=>?_;refine⟨(m.mono λk p=>by have:=p.1;omega).trans (L.mono λk p=>⟨by have:=p.1;omega,p.2⟩),?_⟩;refine fa Cl (fa Eh (Bb J 0 FV rfl (zQ:3<6) rfl λH10 d=>?_));(conv=>whnf);have W:es.length+[C3 n (n+1) s].length=(es++[C3 n (n+1) s]).length:=zZ;rw[W]at d;exact⟨rfl,U,V,(d.perm (List.Perm.swap _ _ _)).sub (xD _ _)⟩
end
abbrev zN(bb:Nat)(er:Int)(n:Nat)(sub:v_)(a:Option Addr)(c:Nat)(es:List u_)(rest:List Pc):List Pc:=pB vK bb (wX er n (.slice a es.length c) sub)::pS tEd 225 a es.length c es::rest
def Pg:(prog.info? 164).bind (·.zero)=zY (.agg #[.nilIface,.nilIface]):=rfl
def TF:(prog.info? 165).bind (·.zero)=zY (.agg #[.nilIface,.nilIface]):=rfl
def AmL{P:w_}{d:TypeDesc}{f:Fn}{first:Array v_}(h:P.underlying t=zY d)(a:∀w:y_,∀k:Nat,(Op.equalIn (k+1) t (.func f first cap) .nilFunc).run P w= .ok zU w)(w:y_):(Op.equal t (.func f first cap) .nilFunc).run P w= .ok zU w:=a w 9999
def lX{P:w_}{x:z_}{c:v_}{d:TypeDesc}{f:Fn}{first:Array v_}{S:Nat->Prop}{K:v_->Prop}(h:P.underlying t=zY d)(a:∀w:y_,∀k:Nat,(Op.equalIn (k+1) t (.func f first cap) .nilFunc).run P w= .ok zU w)(k:K (.bool zU)):AH P (do eqGuard .eql t x (.const c) (.func f first cap) .nilFunc;binOp .eql t (.func f first cap) .nilFunc) S H K:=by refine AH.mk _ (λw _=>?_) k;simp[eqGuard,binOp,AmL h a]
def U3{σ:Type}(B:Nat->Prop)(H0:Aa)(E:Nat)(ps:List Pc)(P:σ->List Pc)(x:σ×Except Int P_)(v:v_)(H':Aa):Prop:=match x.2 with
 | .ok a=>a.edges.length<=E/\a.Rng/\∃ea ec,v= .tuple #[.agg (s_ a (.slice ea a.edges.length ec)).toArray,A_ 0]/\B_ B H0 H' (ps++P x.1++[pS tEd 225 ea a.edges.length ec a.edges])
 | .error e=>∃l:List v_,v= .tuple #[.agg l.toArray,A_ e]/\l.length=4/\l.all (·.oneCell')=zW/\B_ B H0 H' (ps++P x.1)
def nQ{σ:Type}(B:Nat->Prop)(H0:Aa)(E:Nat)(bb n N:Nat)(es:List u_)(sub:v_)(ps:List Pc)(P:σ->List Pc)(x:σ×Except Int BR)(v:v_)(H':Aa):Prop:=match x.2 with
 | .ok A=>∃a' c',v= .tuple #[A_ (A.p:Int),A_ (A.q:Int)]/\B_ B H0 H' (zN bb 0 (n+A.u) sub a' c' (es++A.es) (ps++P x.1))
 | .error e=>e≠0/\∃(p q n':Nat) (a':Option Addr) (c':Nat) (es':List u_),v= .tuple #[A_ p,A_ q]/\p<=n'/\q<=n'/\n<=n'/\n'<=n+65536*N/\es'.length<=es.length+(E+4)*N/\B_ B H0 H' (zN bb e n' sub a' c' es' (ps++P x.1))
def Yn{e:u_}{n:Int}:yA (zB n e)=if e.sil then [A_ (e.fr+n),A_ (e.to+n),.bool zW,.int .u64 0,.int .u64 0,.int .u64 0,.int .u64 0]else [A_ (e.fr+n),A_ (e.to+n),.bool zU]++Ag e.set:=by
 have h:∀i,wd 0#256 i=0:=λi=>by unfold wd;simp
 unfold zB yA;cases e.sil with|true=>simp[h]|false=>simp[Ag]
def AoV{σ:Type}{P:σ->List Pc}{s:σ}{sub:ReM->σ->σ×Except Int P_}{E:Nat}(hE:U2 sub E)(bq:E<=33554432){bb c:Nat}{N:Option Addr}{first:Array v_}
  (st:B_ B H0 H (zN bb 0 n (.func (.func f) first cap) N c es (ps++P s))) (hn:n<=1099511627776) (hl:es.length+E<=1099511627776)
  (aj:∀{ps':List Pc} {H':Aa},B_ B H0 H' (ps'++P s)->Ai prog f (first.toList++[Ax r]++cap.toList).toArray H' (U3 B H0 E ps' P (sub r s))):
  Ai prog 129 #[U_ bb,Ax r] H (nQ B H0 E bb n 1 es (.func (.func f) first cap) ps P (CP (sub r s) n)):=by
 refine Ai.of_vc func129 rfl (call129 _) (fa Yz ?_);refine lT (v:=.func (.func f) first cap) hH ((st.blk 0 rfl).ce rfl) ?_;refine lX underlying174 (λw k=>by simp[Op.equalIn,run_underlying underlying174]) (fa Yz ?_);refine lT (v:=.func (.func f) first cap) hH ((st.blk 0 rfl).ce rfl) ?_;have R:=aj (ps':=zN bb 0 n (.func (.func f) first cap) N c es ps) st;obtain⟨t,a2,hx⟩:∃t a2,sub r s=(t,a2):=⟨_,_,rfl⟩;rw[hx]at R ⊢;refine Ae.mk R ?_;rintro v H1 hv;cases a2 with
 | error e=>
   have Q:=hE.err _ _ _ _ hx;obtain⟨l,rfl,ak,aw,F_⟩:=hv;replace F_:B_ B H0 H1 (zN bb 0 n (.func (.func f) first cap) N c es (ps++P t)):=F_;refine Af _ [A_ 0,A_ 0,A_ 0,.slice zV 0 0] Gj rfl ?_;intro x H2 a3 a4 a5 a6;have U:=(F_.box a3 a4 a5 a6).perm (xJ _ _);refine AI (cs:=l) U 0 (by rw[ak];rfl) rfl (by rw[ak];decide) aw λH3 d=>?_;replace d:=d.sub (xD _ _);have d1:(e != 0)=zW:=bne_iff_ne.2 Q;(conv=>whnf);rw[d1];refine fa CT (Bb d 0 M6 rfl (zQ:5<6) rfl λH4 C=>?_);(conv=>whnf);exact⟨Q,0,0,n,N,c,es,rfl,zO,zO,zO,zO,zO,C⟩
 | ok a=>
   obtain⟨br,I,g,m,rfl,F_⟩:=hv;have J:a.edges.length<=33554432:=zO
   replace F_:B_ B H0 H1 (pS tEd 225 g a.edges.length m a.edges::zN bb 0 n (.func (.func f) first cap) N c es (ps++P t)):=B_.perm F_ (xJ _ (zN bb 0 n (.func (.func f) first cap) N c es (ps++P t)));refine Af _ [A_ 0,A_ 0,A_ 0,.slice zV 0 0] Gj rfl ?_;intro x H2 a3 a4 a5 a6;have U:=(F_.box a3 a4 a5 a6).perm (xJ _ _);refine AI (cs:=s_ a (.slice g a.edges.length m)) U 0 rfl rfl (M_ _) rfl λH3 d=>?_;rw[Ar (show(s_ a (.slice g a.edges.length m)).length=4 from rfl)]at d;replace d:B_ B H0 H3 (pB 171 x (s_ a (.slice g a.edges.length m))::pS tEd 225 g a.edges.length m a.edges::zN bb 0 n (.func (.func f) first cap) N c es (ps++P t)):=d;clear F_ U;have L:∀(G:Aa) (K:Aa->Prop),E8 a=zU->B_ B H0 G (pB 171 x (s_ a (.slice g a.edges.length m))::pS tEd 225 g a.edges.length m a.edges::zN bb 0 n (.func (.func f) first cap) N c es (ps++P t))->
     (∀G',nQ B H0 E bb n 1 es (.func (.func f) first cap) ps P (CP (t,.ok a) n) (.tuple #[A_ 0,A_ 0]) G'->K G')->Co prog (Instr.storeAt 25 (.pointer (zY ⟨bb,0+5,zV⟩)) (.int .i64 2)) G K:=λG K V D k=>
    Bb D 2 M6 rfl (zQ:5<6) rfl λG' ax=>k G' (by
     have e1:CP (t,(.ok a:Except Int P_)) n=(t,.error 2):=by unfold CP Bv;simp[V]
     rw[e1];exact⟨zQ,0,0,n,N,c,es,rfl,zO,zO,zO,zO,zO,ax.sub (List.Sublist.cons _ (xD _ _))⟩)
   refine Lm I J (d.blk 0 rfl) ET zA (d.view 1 rfl) λv4 ay=>(fa Jp ?_);refine lT (v:=A_ a.start) E_ ((d.blk 0 rfl).ce rfl) ?_;refine Al (YE ay) λH4 az=>?_;have C:=d.call az;cases hs:a.has a.start with
   | false=>
     have V:E8 a=zU:=by unfold E8;simp[hs]
     refine fa CT (L _ _ V C λG' hG=>?_);(conv=>whnf);exact hG
   | true=>
   refine Lm I J (C.blk 0 rfl) ET zA (C.view 1 rfl) λv5 b0=>(fa Lc ?_);refine lT (v:=A_ a.fin) E_ ((C.blk 0 rfl).ce rfl) ?_;refine Al (YE b0) λH5 b4=>?_;have W:=C.call b4;cases hf:a.has a.fin with
   | false=>
     have V:E8 a=zU:=by unfold E8;simp[hf]
     refine fa CT (L _ _ V W λG' hG=>?_);(conv=>whnf);exact hG
   | true=>
   refine fa Eh ?_;refine lT (v:=.slice g a.edges.length m) FV ((W.blk 0 rfl).ce rfl) ?_;(conv=>whnf);refine A0.mk [54] (λk:Nat=>[A_ k]) (λk G=>k<=a.edges.length/\(∀e∈a.edges.take k,a.has e.fr=zW/\a.has e.to=zW)/\B_ B H0 G (pB 171 x (s_ a (.slice g a.edges.length m))::pS tEd 225 g a.edges.length m a.edges::zN bb 0 n (.func (.func f) first cap) N c es (ps++P t))) (λk _=>a.edges.length-k) ?_ ?_
   ·(conv=>whnf);exact⟨0,rfl,p_ _,(λe Q=>by simp at Q),W⟩
   ·rintro k G am ⟨Z,F,D⟩;refine AB.m2 (λhz=>?_) (λhz=>?_)
    ·obtain⟨e,Q⟩:∃e,a.edges[k]?=zY e:=⟨_,zJ zO⟩;have X:e∈a.edges:=d_ Q;(conv=>whnf);try refine A7.run ?_
     refine zK (j:=k) (x:=e) Gs D 1 rfl Q rfl λb9 o9 b5 b6 a7 a8=>?_;obtain⟨rfl,b7⟩:=a8;refine L_ (cs:=yA e) P3 a7 zA (Af _ [A_ 0,A_ 0,.bool zU,.int .u64 0,.int .u64 0,.int .u64 0,.int .u64 0] LW rfl ?_);intro y G1 hy ab ae ag;have Y:=(D.box hy ab ae ag).perm (xJ _ _);refine AI (cs:=yA e) Y 0 rfl rfl (M_ _) rfl λG2 b=>?_;rw[Ar (show(yA e).length=7 from rfl)]at b;replace b:B_ B H0 G2 (pB 225 y (yA e)::pB 171 x (s_ a (.slice g a.edges.length m))::pS tEd 225 g a.edges.length m a.edges::zN bb 0 n (.func (.func f) first cap) N c es (ps++P t)):=b;(conv=>whnf);try refine A7.run ?_
     refine Lm I J (b.blk 1 rfl) ET zA (b.view 2 rfl) λv6 b8=>(fa Ia ?_);refine lT (v:=A_ e.fr) E_ ((b.blk 0 rfl).ce rfl) ?_;refine Al (YE b8) λG3 bd=>?_;have A:=b.call bd;have nw:a.has e.fr=zU\/a.has e.to=zU->E8 a=zU:=λh=>by
      cases V:E8 a with
      | false=>rfl
      | true=>
        have:=(Ed.1 V).2.2 e X;rw[this.1,this.2]at h;rcases h with h | h<;>cases h
     cases h1:a.has e.fr with
     | false=>
       refine fa CT (L _ _ (nw (.inl h1)) (A.sub (xD _ _)) λG' hG=>?_);(conv=>whnf);exact hG
     | true=>
     refine Lm I J (A.blk 1 rfl) ET zA (A.view 2 rfl) λv7 be=>(fa Le ?_);refine lT (v:=A_ e.to) E_ ((A.blk 0 rfl).ce rfl) ?_;refine Al (YE be) λG4 bf=>?_;have p:=A.call bf;cases h2:a.has e.to with
     | false=>
       refine fa CT (L _ _ (nw (.inr h2)) (p.sub (xD _ _)) λG' hG=>?_);(conv=>whnf);exact hG
     | true=>
     (conv=>whnf);rw[R_ k zO];refine⟨rfl,k+1,rfl,⟨zO,λe' O=>?_,p.sub (xD _ _)⟩,zO⟩;rw[sS,Q]at O;rcases k_.1 O with O | O
     ·exact F e' O
     ·rw[show e'=e by simpa using O];exact⟨h1,h2⟩
    ·obtain rfl:k=a.edges.length:=zO
     rw[uJ (M_ _)]at F;have V:E8 a=zW:=Ed.2 ⟨hs,hf,F⟩;have bu:=P_.has_iff.1 hs;have bv:=P_.has_iff.1 hf;obtain⟨u,hu⟩:∃u:Nat,a.st=(u:Int):=⟨a.st.toNat,zO⟩;obtain⟨s0,ao⟩:∃u:Nat,a.start=(u:Int):=⟨a.start.toNat,zO⟩;obtain⟨f0,ap⟩:∃u:Nat,a.fin=(u:Int):=⟨a.fin.toNat,zO⟩;refine fa Cl (fa DN ?_);refine lT (v:=A_ n) E_ ((D.blk 2 rfl).ce rfl) ?_;refine Ap.heldZ (λk=>k=bb\/k=x) [11] (sq [0,1,2,3,4,5,6,7,8,9,10] (.f 11 .e)) rfl zX (fa Cl (fa DN ?_));refine C_ (v:=A_ n) E_ ((D.blk 2 rfl).ce rfl) (.inl rfl) ?_;refine fa DN ?_;refine C_ (v:=A_ u) E_ (by rw[(D.blk 0 rfl).cell,<-hu];rfl) (.inr rfl) ?_;(conv=>whnf);rw[W_ (x:=(n:Int)+(u:Int)) zO,show(n:Int)+(u:Int)=((n+u:Nat):Int) by omega];refine fa Cl (fa DN (Bb D 2 E_ rfl (zQ:0<6) rfl λH7 S=>?_));replace S:B_ B H0 H7 (pB 171 x (s_ a (.slice g a.edges.length m))::pS tEd 225 g a.edges.length m a.edges::zN bb 0 (n+u) (.func (.func f) first cap) N c es (ps++P t)):=S;clear d C W D;refine fa Eh ?_;refine lT (v:=.slice g a.edges.length m) FV ((S.blk 0 rfl).ce rfl) ?_;(conv=>whnf);refine A0.mk [93] (λk:Nat=>[A_ k]) (λk G=>k<=a.edges.length/\∃a' T,B_ B H0 G (pB 171 x (s_ a (.slice g a.edges.length m))::pS tEd 225 g a.edges.length m a.edges::zN bb 0 (n+u) (.func (.func f) first cap) a' T (es++(a.edges.take k).map (zB n)) (ps++P t))) (λk _=>a.edges.length-k) ?_ ?_
     ·(conv=>whnf);refine⟨0,rfl,p_ _,N,c,?_⟩;rw[tE,uQ,yU];exact S
     ·rintro k G am ⟨Z,a',T,D⟩;clear S;refine AB.m2 (λhz=>?_) (λhz=>?_)
      ·obtain⟨e,Q⟩:∃e,a.edges[k]?=zY e:=⟨_,zJ zO⟩;have X:e∈a.edges:=d_ Q;have bw:=P_.has_iff.1 (F e X).1;have bx:=P_.has_iff.1 (F e X).2;have aq:(es++(a.edges.take k).map (zB n)).length=es.length+k:=by simp;omega
       refine zK (j:=k) (x:=e) Gs D 1 rfl Q rfl λb9 o9 b5 b6 a7 a8=>?_;obtain⟨rfl,b7⟩:=a8;refine L_ (cs:=yA e) P3 a7 zA (Af _ [A_ 0,A_ 0,.bool zU,.int .u64 0,.int .u64 0,.int .u64 0,.int .u64 0] LW rfl ?_);intro y G1 hy ab ae ag;have Y:=(D.box hy ab ae ag).perm (xJ _ _);refine AI (cs:=yA e) Y 0 rfl rfl (M_ _) rfl λG2 b=>?_;rw[Ar (show(yA e).length=7 from rfl)]at b;replace b:B_ B H0 G2 (pB 225 y (yA e)::pB 171 x (s_ a (.slice g a.edges.length m))::pS tEd 225 g a.edges.length m a.edges::zN bb 0 (n+u) (.func (.func f) first cap) a' T (es++(a.edges.take k).map (zB n)) (ps++P t)):=b;refine fa Ia ?_;refine lT (v:=A_ e.fr) E_ ((b.blk 0 rfl).ce rfl) ?_;(conv=>whnf);rw[W_ (x:=e.fr+(n:Int)) zO];refine fa Ia (Bb b 0 E_ rfl (zQ:0<7) rfl λG3 A=>(fa Le ?_));refine lT (v:=A_ e.to) E_ ((A.blk 0 rfl).ce rfl) ?_;(conv=>whnf);rw[W_ (x:=e.to+(n:Int)) zO];refine fa Le (Bb A 0 E_ rfl (zQ:1<7) rfl λG4 p=>?_);replace p:B_ B H0 G4 (pB 225 y ([A_ (e.fr+n),A_ (e.to+n),.bool e.sil]++Ag e.set)::pB 171 x (s_ a (.slice g a.edges.length m))::pS tEd 225 g a.edges.length m a.edges::zN bb 0 (n+u) (.func (.func f) first cap) a' T (es++(a.edges.take k).map (zB n)) (ps++P t)):=p;(conv=>whnf);refine A7.cut (α:=Unit) [] (λ_=>[]) (λ_ G=>B_ B H0 G (pB 225 y (yA (zB n e))::pB 171 x (s_ a (.slice g a.edges.length m))::pS tEd 225 g a.edges.length m a.edges::zN bb 0 (n+u) (.func (.func f) first cap) a' T (es++(a.edges.take k).map (zB n)) (ps++P t))) ?_ ?_
       ·refine fa Y0 ?_;refine lT (v:=.bool e.sil) zE ((p.blk 0 rfl).ce rfl) ?_;cases M:e.sil with
        | true=>
          refine CB Ct (BD 0) rfl [.int .u64 0,.int .u64 0,.int .u64 0,.int .u64 0] rfl (fa Tb ?_);refine AI (cs:=[.int .u64 0,.int .u64 0,.int .u64 0,.int .u64 0]) p 0 rfl rfl (by show 3+4<=7;decide) rfl λG5 q=>?_;(conv=>whnf);refine⟨rfl,(),rfl,?_⟩;rw[Yn,M,J_ rfl];rw[M]at q;exact q
        | false=>
          (conv=>whnf);refine⟨rfl,(),rfl,?_⟩;rw[Yn,M];rw[M]at p;exact p
       ·rintro⟨⟩ G5 bg q;clear D Y b A p;have ar:=q.apart2 (i:=3) (j:=4) rfl rfl zQ;have ah:=q.apart2 (i:=0) (j:=4) rfl rfl zQ;have bh:bb<G5.size/\¬Q_ (.slice a' (es++(a.edges.take k).map (zB n)).length T) bb:=⟨(q.in_ 3 rfl rfl).2,λh=>ar bb rfl (.inl h)⟩;have bi:y<G5.size/\¬Q_ (.slice a' (es++(a.edges.take k).map (zB n)).length T) y:=⟨(q.in_ 0 rfl rfl).2,λh=>ah y rfl (.inl h)⟩;refine Ap.heldZ (λk2=>k2<G5.size/\¬Q_ (.slice a' (es++(a.edges.take k).map (zB n)).length T) k2) [12] (sq [0,1,2,3,4,5,6] (.f 7 (.f 8 (sq [9,10,11] (.f 12 .e))))) rfl zX (fa Cl (fa Eh ?_));refine C_ (v:=.slice a' (es++(a.edges.take k).map (zB n)).length T) FV ((q.blk 3 rfl).ce rfl) bh ?_;refine L_ (cs:=yA (zB n e)) P3 ((q.blk 0 rfl).cells λj v hv=>by rw[K_];exact hv) bi ?_;refine Aj Gs (yA (zB n e)) rfl rfl zQ zQ ?_;intro z G6 bj bz bm ai;have bn:=q.skip bj ai;refine⟨ai.mono λk Z=>by have:=Z.1;omega,?_⟩;refine GM (ys:=[zB n e]) bn 4 Gs rfl (bm.cells (o:=0) (cs:=yA (zB n e)) λj v hv=>by rw[K_];exact hv) (Ty.reps_one ⟨rfl,show(zB n e).Ok from⟨⟨by show(-9223372036854775808:Int)<=e.fr+(n:Int);omega,by show e.fr+(n:Int)<=(9223372036854775807:Int);omega⟩,⟨by show(-9223372036854775808:Int)<=e.to+(n:Int);omega,by show e.to+(n:Int)<=(9223372036854775807:Int);omega⟩⟩⟩) rfl (λu hu=>yC.1 (KZ _) u hu) (by unfold maxLen;simp;omega) (by rw[aq];simp;omega) λa9 c9 G9 bo bp=>?_;refine⟨(ai.mono λk Z=>by have:=Z.1;omega).trans (bp.mono λk Z=>⟨by have:=Z.1;omega,Z.2⟩),?_⟩;refine fa Cl (fa Eh (Bb bo 3 FV rfl (zQ:3<6) rfl λG10 a1=>?_));have au:(es++(a.edges.take k).map (zB n))++[zB n e]=es++(a.edges.take (k+1)).map (zB n):=by rw[sS,Q];simp
        have el:(es++(a.edges.take k).map (zB n)).length+[zB n e].length=(es++(a.edges.take (k+1)).map (zB n)).length:=by rw[<-au];simp;omega
        rw[el,au]at a1;(conv=>whnf);rw[R_ k zO];exact⟨rfl,k+1,rfl,⟨zO,a9,c9,a1.sub (xD _ _)⟩,zO⟩
      ·obtain rfl:k=a.edges.length:=zO
       rw[uJ (M_ _)]at D;refine Ap.lex rfl zX (fa Jp ?_);refine C_ (v:=A_ s0) E_ (by rw[(D.blk 0 rfl).cell,<-ao];rfl) zA ?_;(conv=>whnf);rw[W_ (x:=(s0:Int)+(n:Int)) zO];refine fa Lc ?_;refine C_ (v:=A_ f0) E_ (by rw[(D.blk 0 rfl).cell,<-ap];rfl) zA ?_;(conv=>whnf);rw[W_ (x:=(f0:Int)+(n:Int)) zO];(conv=>whnf);have e1:CP (t,(.ok a:Except Int P_)) n=(t,.ok ⟨n+s0,n+f0,u,a.edges.map (zB n)⟩):=by unfold CP Bv;simp[V,ao,ap,hu]
       rw[e1];exact⟨a',T,by rw[show(s0:Int)+(n:Int)=((n+s0:Nat):Int) by omega,show(f0:Int)+(n:Int)=((n+f0:Nat):Int) by omega],D.sub (List.Sublist.cons _ (xD _ _))⟩
def Qv{rest:List Pc}{bb c:Nat}{a:Option Addr}{er:Int}{b:v_}(e:er≠0)(d:B_ B H0 H (zN bb er n b a c es rest)):Ai prog 105 #[U_ bb,Ax r] H λv H'=>v= .tuple #[A_ ((0:Nat):Int),A_ ((0:Nat):Int)]/\B_ B H0 H' (zN bb er n b a c es rest):=by refine Ai.of_vc func105 rfl (call105 _) (fa CT ?_);refine lT (v:=A_ er) M6 ((d.blk 0 rfl).ce rfl) ?_;have f:(er != 0)=zW:=bne_iff_ne.2 e;(conv=>whnf);rw[f];(conv=>whnf);exact⟨rfl,d⟩
def AiM{σ:Type}{P:σ->List Pc}{sub:ReM->σ->σ×Except Int P_}{E N:Nat}(hE:U2 sub E)(aw:E<=33554432){bb:Nat}{first:Array v_}(ae:∀(r:ReM),Md r=zW->r.nodes<=N->∀(s:σ) {ps':List Pc} {H':Aa},B_ B H0 H' (ps'++P s)->Ai prog f (first.toList++[Ax r]++cap.toList).toArray H' (U3 B H0 E ps' P (sub r s))):∀(r:ReM),r.nodes<=N->∀{H:Aa} {ps:List Pc} {n c:Nat} {a:Option Addr} {es:List u_} {s:σ} (O:B_ B H0 H (zN bb 0 n (.func (.func f) first cap) a c es (ps++P s))),n+65536*r.nodes<=1099511627776->es.length+(E+4)*r.nodes<=1099511627776->Ai prog 105 #[U_ bb,Ax r] H (nQ B H0 E bb n r.nodes es (.func (.func f) first cap) ps P (BG sub r n s)):=λr=>by
 induction r with
 | eps=>
   intro hN H ps n c a es s O hn hl;generalize g:BG sub .eps n s=xF;refine Ai.of_vc func105 rfl (call105 _) (fa CT ?_);refine lT (v:=A_ 0) M6 ((O.blk 0 rfl).ce rfl) ?_;simp only[ReM.nodes,xC,zI]at hn hl hN;refine GW underlying210 (by intro y h;cases h) ?_;refine Af (.agg #[]) [] rfl rfl ?_;intro x H1 hx C D F;have F_:B_ B H0 H1 (pB 210 x []::zN bb 0 n (.func (.func f) first cap) a c es (ps++P s)):=(O.box hx C D F).perm (xJ _ _);refine AI (cs:=[]) F_ 0 rfl rfl (M_ _) rfl λH2 i=>?_;have A:B_ B H0 H2 (zN bb 0 n (.func (.func f) first cap) a c es (ps++P s)):=i.sub (xD _ _);refine Dn A zO λH4 G=>(Dn G zO λH5 ax=>(BX ax zO zO zO λa' c' H6 T=>?_));(conv=>whnf);subst g;exact⟨a',c',rfl,T⟩
 | cls t=>
   intro hN H ps n c a es s O hn hl;generalize g:BG sub (.cls t) n s=xF;refine Ai.of_vc func105 rfl (call105 _) (fa CT ?_);refine lT (v:=A_ 0) M6 ((O.blk 0 rfl).ce rfl) ?_;simp only[ReM.nodes,xC,zI]at hn hl hN;refine DI underlying210 (by intro y h;cases h) Ln zQ ?_;refine GW underlying239 (by intro y h;cases h) ?_;refine Af _ [.int .u64 0,.int .u64 0,.int .u64 0,.int .u64 0] Lo rfl ?_;intro x H1 hx C D F;have F_:B_ B H0 H1 (pB 239 x [.int .u64 0,.int .u64 0,.int .u64 0,.int .u64 0]::zN bb 0 n (.func (.func f) first cap) a c es (ps++P s)):=(O.box hx C D F).perm (xJ _ _);refine AI (cs:=Ag t) F_ 0 rfl rfl (M_ _) rfl λH2 i=>?_;rw[Ar (show(Ag t).length=4 from rfl)]at i;refine fa AhF (L_ (cs:=Ag t) Bn ((i.blk 0 rfl).cells λj v hv=>by simpa using hv) zA ?_);have A:B_ B H0 H2 (zN bb 0 n (.func (.func f) first cap) a c es (ps++P s)):=i.sub (xD _ _);refine UH A zO zO λa' c' H4 G=>?_;(conv=>whnf);subst g;exact⟨a',c',rfl,G⟩
 | cat d m W a2=>
   intro hN H ps n c a es s O hn hl;generalize g:BG sub (.cat d m) n s=xF;refine Ai.of_vc func105 rfl (call105 _) (fa CT ?_);refine lT (v:=A_ 0) M6 ((O.blk 0 rfl).ce rfl) ?_;simp only[ReM.nodes,xC,zI]at hn hl hN;refine DI underlying210 (by intro y h;cases h) Ln zQ ?_;refine DI underlying239 (by intro y h;cases h) Lo zQ ?_;refine GW underlying240 (by intro y h;cases h) ?_;refine Af _ [.nilIface,.nilIface] MQ rfl ?_;intro x H1 hx C D F;have F_:B_ B H0 H1 (pB 240 x [.nilIface,.nilIface]::zN bb 0 n (.func (.func f) first cap) a c es (ps++P s)):=(O.box hx C D F).perm (xJ _ _);refine AI (cs:=[Ax d,Ax m]) F_ 0 rfl rfl (M_ _) (by simp[IN]) λH2 i=>?_;rw[Ar (show([Ax d,Ax m]).length=([.nilIface,.nilIface]:List v_).length from rfl)]at i;have A:B_ B H0 H2 (zN bb 0 n (.func (.func f) first cap) a c es ((pB 240 x [Ax d,Ax m]::ps)++P s)):=i.pickN 3 [1,2,0] zQ;refine fa Y1 ?_;refine lT (v:=Ax d) F0 ((A.blk 2 rfl).ce rfl) ?_;obtain⟨s4,x4,U⟩:∃s1 z,BG sub d (n) s=(s1,z):=⟨_,_,rfl⟩;have X:=W zO (s:=s) A zO (by(try simp only[O_,b_,i_]);omega);rw[U]at X;refine Ae.mk X ?_;rintro v4 G4 a0;cases x4 with
   | error e4=>
     obtain⟨a3,p4,q4,n4,a4,c4,a7,rfl,ag,ah,ai,ay,aj,o⟩:=a0;replace o:B_ B H0 G4 (zN bb e4 n4 (.func (.func f) first cap) a4 c4 a7 ((pB 240 x [Ax d,Ax m]::ps)++P s4)):=o
     try simp only[O_,b_,i_]at aj
     refine fa Tc ?_;refine lT (v:=Ax m) F0 ((o.blk 2 rfl).ce rfl) ?_;refine Ae.mk (Qv (r:=m) a3 o) ?_;rintro _ G5 ⟨rfl,b⟩;refine BX b zO zO (by(try simp only[O_,b_,i_]);omega) λb6 d6 H6 T=>?_;(conv=>whnf);obtain rfl:xF=(s4,.error e4):=by rw[<-g];simp only[BG];rw[Dy U]
     exact⟨a3,p4,0,n4,b6,d6,(a7++[AK q4 0]),rfl,zO,zO,zO,by simp only[ReM.nodes];omega,by simp only[ReM.nodes,xC,zI,O_,b_,i_];omega,T.pickN 3 [0,1] zQ⟩
   | ok A4=>
     obtain⟨a4,c4,rfl,o⟩:=a0;have b5:=BW hE _ _ _ _ _ U;replace o:B_ B H0 G4 (zN bb 0 (n+A4.u) (.func (.func f) first cap) a4 c4 (es++A4.es) ((pB 240 x [Ax d,Ax m]::ps)++P s4)):=o;refine fa Tc ?_;refine lT (v:=Ax m) F0 ((o.blk 2 rfl).ce rfl) ?_;obtain⟨V,x5,e⟩:∃s1 z,BG sub m (n+A4.u) s4=(s1,z):=⟨_,_,rfl⟩;have Q:=a2 zO (s:=s4) o zO (by(try simp only[O_,b_,i_]);omega);rw[e]at Q;refine Ae.mk Q ?_;rintro v5 G5 R;cases x5 with
     | error e5=>
       obtain⟨Y,p5,q5,n5,a5,c5,Z,rfl,ak,am,ao,ap,a1,b⟩:=R;replace b:B_ B H0 G5 (zN bb e5 n5 (.func (.func f) first cap) a5 c5 Z ((pB 240 x [Ax d,Ax m]::ps)++P V)):=b
       try simp only[O_,b_,i_]at a1
       refine BX b zO zO (by(try simp only[O_,b_,i_]);omega) λb6 d6 H6 T=>?_;(conv=>whnf);obtain rfl:xF=(V,.error e5):=by rw[<-g];simp only[BG];rw[Dm U,Dy e]
       exact⟨Y,A4.p,q5,n5,b6,d6,(Z++[AK A4.q p5]),rfl,zO,zO,zO,by simp only[ReM.nodes];omega,by simp only[ReM.nodes,xC,zI,O_,b_,i_];omega,T.pickN 3 [0,1] zQ⟩
     | ok A5=>
       obtain⟨a5,c5,rfl,b⟩:=R;have aq:=BW hE _ _ _ _ _ e;replace b:B_ B H0 G5 (zN bb 0 (n+A4.u+A5.u) (.func (.func f) first cap) a5 c5 (es++A4.es++A5.es) ((pB 240 x [Ax d,Ax m]::ps)++P V)):=b;refine BX b zO zO (by(try simp only[O_,b_,i_]);omega) λb6 d6 H6 T=>?_;(conv=>whnf);obtain rfl:xF=(V,.ok ⟨A4.p,A5.q,A4.u+A5.u,A4.es++A5.es++[AK A4.q A5.p]⟩):=by rw[<-g];simp only[BG];rw[Dm U,Dm e]
       have w:=T.pickN 3 [0,1] zQ;rw[Nat.add_assoc n A4.u A5.u]at w;have ee:es++A4.es++A5.es++[AK A4.q A5.p]=es++(A4.es++A5.es++[AK A4.q A5.p]):=zZ
       rw[ee]at w;exact⟨b6,d6,rfl,w⟩
 | alt d m W a2=>
   intro hN H ps n c a es s O hn hl;generalize g:BG sub (.alt d m) n s=xF;refine Ai.of_vc func105 rfl (call105 _) (fa CT ?_);refine lT (v:=A_ 0) M6 ((O.blk 0 rfl).ce rfl) ?_;simp only[ReM.nodes,xC,zI]at hn hl hN;refine DI underlying210 (by intro y h;cases h) Ln zQ ?_;refine DI underlying239 (by intro y h;cases h) Lo zQ ?_;refine DI underlying240 (by intro y h;cases h) MQ zQ ?_;refine GW underlying167 (by intro y h;cases h) ?_;refine Af _ [.nilIface,.nilIface] Ph rfl ?_;intro x H1 hx C D F;have F_:B_ B H0 H1 (pB 167 x [.nilIface,.nilIface]::zN bb 0 n (.func (.func f) first cap) a c es (ps++P s)):=(O.box hx C D F).perm (xJ _ _);refine AI (cs:=[Ax d,Ax m]) F_ 0 rfl rfl (M_ _) (by simp[IN]) λH2 i=>?_;rw[Ar (show([Ax d,Ax m]).length=([.nilIface,.nilIface]:List v_).length from rfl)]at i;have A:B_ B H0 H2 (zN bb 0 n (.func (.func f) first cap) a c es ((pB 167 x [Ax d,Ax m]::ps)++P s)):=i.pickN 3 [1,2,0] zQ;refine Dn A zO λH4 G=>(fa Yy ?_);refine lT (v:=Ax d) F0 ((G.blk 2 rfl).ce rfl) ?_;obtain⟨V,x5,e⟩:∃s1 z,BG sub d (n+1) s=(s1,z):=⟨_,_,rfl⟩;have Q:=W zO (s:=s) G zO (by(try simp only[O_,b_,i_]);omega);rw[e]at Q;refine Ae.mk Q ?_;rintro v5 G5 R;cases x5 with
   | error e5=>
     obtain⟨Y,p5,q5,n5,a5,c5,Z,rfl,ak,am,ao,ap,a1,b⟩:=R;replace b:B_ B H0 G5 (zN bb e5 n5 (.func (.func f) first cap) a5 c5 Z ((pB 167 x [Ax d,Ax m]::ps)++P V)):=b
     try simp only[O_,b_,i_]at a1
     refine fa SY ?_;refine lT (v:=Ax m) F0 ((b.blk 2 rfl).ce rfl) ?_;refine Ae.mk (Qv (r:=m) Y b) ?_;rintro _ G6 ⟨rfl,I⟩;refine Dn I zO λH7 w=>?_;refine BX w zO zO (by(try simp only[O_,b_,i_]);omega) λb8 d8 H8 J=>?_;refine BX J zO zO (by(try simp only[O_,b_,i_]);omega) λb9 d9 H9 K=>?_;refine BX K zO zO (by(try simp only[O_,b_,i_]);omega) λa8 a9 H10 k=>?_;refine BX k zO zO (by(try simp only[O_,b_,i_]);omega) λL M H11 l=>?_;(conv=>whnf);obtain rfl:xF=(V,.error e5):=by rw[<-g];simp only[BG];rw[Dy e]
     exact⟨Y,n,n5,(n5+1),L,M,_,rfl,zO,zO,zO,by simp only[ReM.nodes];omega,by simp only[ReM.nodes,xC,zI,O_,b_,i_];omega,l.pickN 3 [0,1] zQ⟩
   | ok A5=>
     obtain⟨a5,c5,rfl,b⟩:=R;have aq:=BW hE _ _ _ _ _ e;replace b:B_ B H0 G5 (zN bb 0 (n+1+A5.u) (.func (.func f) first cap) a5 c5 (es++A5.es) ((pB 167 x [Ax d,Ax m]::ps)++P V)):=b;refine fa SY ?_;refine lT (v:=Ax m) F0 ((b.blk 2 rfl).ce rfl) ?_;obtain⟨s6,x6,ab⟩:∃s1 z,BG sub m (n+1+A5.u) V=(s1,z):=⟨_,_,rfl⟩;have ar:=a2 zO (s:=V) b zO (by(try simp only[O_,b_,i_]);omega);rw[ab]at ar;refine Ae.mk ar ?_;rintro v6 G6 au;cases x6 with
     | error e6=>
       obtain⟨az,p6,q6,n6,a6,c6,b0,rfl,b7,bd,be,bf,b4,I⟩:=au;replace I:B_ B H0 G6 (zN bb e6 n6 (.func (.func f) first cap) a6 c6 b0 ((pB 167 x [Ax d,Ax m]::ps)++P s6)):=I
       try simp only[O_,b_,i_]at b4
       refine Dn I zO λH7 w=>?_;refine BX w zO zO (by(try simp only[O_,b_,i_]);omega) λb8 d8 H8 J=>?_;refine BX J zO zO (by(try simp only[O_,b_,i_]);omega) λb9 d9 H9 K=>?_;refine BX K zO zO (by(try simp only[O_,b_,i_]);omega) λa8 a9 H10 k=>?_;refine BX k zO zO (by(try simp only[O_,b_,i_]);omega) λL M H11 l=>?_;(conv=>whnf);obtain rfl:xF=(s6,.error e6):=by rw[<-g];simp only[BG];rw[Dm e,Dy ab]
       exact⟨az,n,n6,(n6+1),L,M,_,rfl,zO,zO,zO,by simp only[ReM.nodes];omega,by simp only[ReM.nodes,xC,zI,O_,b_,i_];omega,l.pickN 3 [0,1] zQ⟩
     | ok A6=>
       obtain⟨a6,c6,rfl,I⟩:=au;have bg:=BW hE _ _ _ _ _ ab;replace I:B_ B H0 G6 (zN bb 0 (n+1+A5.u+A6.u) (.func (.func f) first cap) a6 c6 (es++A5.es++A6.es) ((pB 167 x [Ax d,Ax m]::ps)++P s6)):=I;refine Dn I zO λH7 w=>?_;refine BX w zO zO (by(try simp only[O_,b_,i_]);omega) λb8 d8 H8 J=>?_;refine BX J zO zO (by(try simp only[O_,b_,i_]);omega) λb9 d9 H9 K=>?_;refine BX K zO zO (by(try simp only[O_,b_,i_]);omega) λa8 a9 H10 k=>?_;refine BX k zO zO (by(try simp only[O_,b_,i_]);omega) λL M H11 l=>?_;(conv=>whnf);obtain rfl:xF=(s6,.ok ⟨n,n+1+A5.u+A6.u,A5.u+A6.u+2,A5.es++A6.es++[AK n A5.p,AK n A6.p,AK A5.q (n+1+A5.u+A6.u),AK A6.q (n+1+A5.u+A6.u)]⟩):=by rw[<-g];simp only[BG];rw[Dm e,Dm ab]
       have S:=l.pickN 3 [0,1] zQ;have en:n+1+A5.u+A6.u+1=n+(A5.u+A6.u+2):=zO
       have ee:es++A5.es++A6.es++[AK n A5.p]++[AK n A6.p]++[AK A5.q (n+1+A5.u+A6.u)]++[AK A6.q (n+1+A5.u+A6.u)]=es++(A5.es++A6.es++[AK n A5.p,AK n A6.p,AK A5.q (n+1+A5.u+A6.u),AK A6.q (n+1+A5.u+A6.u)]):=zZ
       rw[en,ee]at S;exact⟨L,M,rfl,S⟩
 | star d W=>
   intro hN H ps n c a es s O hn hl;generalize g:BG sub (.star d) n s=xF;refine Ai.of_vc func105 rfl (call105 _) (fa CT ?_);refine lT (v:=A_ 0) M6 ((O.blk 0 rfl).ce rfl) ?_;simp only[ReM.nodes,xC,zI]at hn hl hN;refine DI underlying210 (by intro y h;cases h) Ln zQ ?_;refine DI underlying239 (by intro y h;cases h) Lo zQ ?_;refine DI underlying240 (by intro y h;cases h) MQ zQ ?_;refine DI underlying167 (by intro y h;cases h) Ph zQ ?_;refine GW underlying243 (by intro y h;cases h) ?_;refine Af _ [.nilIface] TG rfl ?_;intro x H1 hx C D F;have F_:B_ B H0 H1 (pB 243 x [.nilIface]::zN bb 0 n (.func (.func f) first cap) a c es (ps++P s)):=(O.box hx C D F).perm (xJ _ _);refine AI (cs:=[Ax d]) F_ 0 rfl rfl (M_ _) (by simp[IN]) λH2 i=>?_;rw[Ar (show([Ax d]).length=([.nilIface]:List v_).length from rfl)]at i;have A:B_ B H0 H2 (zN bb 0 n (.func (.func f) first cap) a c es ((pB 243 x [Ax d]::ps)++P s)):=i.pickN 3 [1,2,0] zQ;refine Dn A zO λH4 G=>(fa Y2 ?_);refine lT (v:=Ax d) F0 ((G.blk 2 rfl).ce rfl) ?_;obtain⟨V,x5,e⟩:∃s1 z,BG sub d (n+1) s=(s1,z):=⟨_,_,rfl⟩;have Q:=W zO (s:=s) G zO (by(try simp only[O_,b_,i_]);omega);rw[e]at Q;refine Ae.mk Q ?_;rintro v5 G5 R;cases x5 with
   | error e5=>
     obtain⟨Y,p5,q5,n5,a5,c5,Z,rfl,ak,am,ao,ap,a1,b⟩:=R;replace b:B_ B H0 G5 (zN bb e5 n5 (.func (.func f) first cap) a5 c5 Z ((pB 243 x [Ax d]::ps)++P V)):=b
     try simp only[O_,b_,i_]at a1
     refine Dn b zO λH7 w=>?_;refine BX w zO zO (by(try simp only[O_,b_,i_]);omega) λb8 d8 H8 J=>?_;refine BX J zO zO (by(try simp only[O_,b_,i_]);omega) λb9 d9 H9 K=>?_;refine BX K zO zO (by(try simp only[O_,b_,i_]);omega) λa8 a9 H10 k=>?_;refine BX k zO zO (by(try simp only[O_,b_,i_]);omega) λL M H11 l=>?_;(conv=>whnf);obtain rfl:xF=(V,.error e5):=by rw[<-g];simp only[BG];rw[Dy e]
     exact⟨Y,n,n5,(n5+1),L,M,_,rfl,zO,zO,zO,by simp only[ReM.nodes];omega,by simp only[ReM.nodes,xC,zI,O_,b_,i_];omega,l.pickN 3 [0,1] zQ⟩
   | ok A5=>
     obtain⟨a5,c5,rfl,b⟩:=R;have aq:=BW hE _ _ _ _ _ e;replace b:B_ B H0 G5 (zN bb 0 (n+1+A5.u) (.func (.func f) first cap) a5 c5 (es++A5.es) ((pB 243 x [Ax d]::ps)++P V)):=b;refine Dn b zO λH7 w=>?_;refine BX w zO zO (by(try simp only[O_,b_,i_]);omega) λb8 d8 H8 J=>?_;refine BX J zO zO (by(try simp only[O_,b_,i_]);omega) λb9 d9 H9 K=>?_;refine BX K zO zO (by(try simp only[O_,b_,i_]);omega) λa8 a9 H10 k=>?_;refine BX k zO zO (by(try simp only[O_,b_,i_]);omega) λL M H11 l=>?_;(conv=>whnf);obtain rfl:xF=(V,.ok ⟨n,n+1+A5.u,A5.u+2,A5.es++[AK n A5.p,AK n (n+1+A5.u),AK A5.q A5.p,AK A5.q (n+1+A5.u)]⟩):=by rw[<-g];simp only[BG];rw[Dm e]
     have S:=l.pickN 3 [0,1] zQ;have en:n+1+A5.u+1=n+(A5.u+2):=zO
     have ee:es++A5.es++[AK n A5.p]++[AK n (n+1+A5.u)]++[AK A5.q A5.p]++[AK A5.q (n+1+A5.u)]=es++(A5.es++[AK n A5.p,AK n (n+1+A5.u),AK A5.q A5.p,AK A5.q (n+1+A5.u)]):=zZ
     rw[en,ee]at S;exact⟨L,M,rfl,S⟩
 | _ d m W a2=>
   first | (obtain⟨r0,h0⟩:∃r0,r0=ReM.and_ d m:=⟨_,rfl⟩;rw[<-h0]) | (obtain⟨r0,h0⟩:∃r0,r0=ReM.minus d m:=⟨_,rfl⟩;rw[<-h0])
   have h1:1<=r0.nodes:=by rw[h0];simp only[ReM.nodes];omega
   have hp:Md r0=zW:=by rw[h0];rfl
   have h2:=vY (E+4) h1;intro hN H ps n c a es s O hn hl;rw[show BG sub r0 n s=CP (sub r0 s) n by rw[h0];rfl];obtain⟨v,hv⟩:∃v,v=Ax r0:=⟨_,rfl⟩;rw[<-hv];rw[h0]at hv;subst hv;refine Ai.of_vc func105 rfl (call105 _) (fa CT ?_);refine lT (v:=A_ 0) M6 ((O.blk 0 rfl).ce rfl) ?_;refine DI underlying210 (by intro y h;cases h) Ln zQ ?_;refine DI underlying239 (by intro y h;cases h) Lo zQ ?_;refine DI underlying240 (by intro y h;cases h) MQ zQ ?_;refine DI underlying167 (by intro y h;cases h) Ph zQ ?_;refine DI underlying243 (by intro y h;cases h) TG zQ ?_;(conv=>whnf);first | refine GW underlying164 (by intro y h;cases h) ?_ | refine DI underlying164 (by intro y h;cases h) Pg zQ ?_
   (conv=>whnf);first | refine GW underlying165 (by intro y h;cases h) ?_ | refine DI underlying165 (by intro y h;cases h) TF zQ ?_
   obtain⟨s4,x4,U⟩:∃s1 z,CP (sub r0 s) n=(s1,z):=⟨_,_,rfl⟩;have X:=AoV (r:=r0) hE aw O zO zO (ae r0 hp hN s);rw[U]at X ⊢;rw[h0]at X;refine Ae.mk X ?_;rintro v4 G4 a0;cases x4 with
   | error e4=>
     obtain⟨a3,p4,q4,n4,a4,c4,a7,rfl,ag,ah,ai,ay,aj,o⟩:=a0;(conv=>whnf);exact⟨a3,p4,q4,n4,a4,c4,a7,rfl,ag,ah,ai,zO,zO,o⟩
   | ok A4=>
     obtain⟨a4,c4,rfl,o⟩:=a0;(conv=>whnf);exact⟨a4,c4,rfl,o⟩
def LN{σ:Type}(sub:ReM->σ->σ×Except Int P_)(r:ReM)(s:σ):σ×Except Int P_:=if 2000<r.nodes then(s,.error 24)else Bv (BG sub r 0 s) λA s1=>if 65536<A.u then(s1,.error 40)else(s1,.ok ⟨A.u,A.p,A.q,A.es⟩)
def SI{σ:Type}{P:σ->List Pc}{sub:ReM->σ->σ×Except Int P_}{E:Nat}{first:Array v_}(hE:U2 sub E)(I:E<=33554432)(r:ReM)(S:r.nodes<=1000000000)(J:∀(G:ReM),Md G=zW->G.nodes<=r.nodes->∀(s:σ) {ps':List Pc} {H':Aa},B_ B H0 H' (ps'++P s)->Ai prog f (first.toList++[Ax G]++cap.toList).toArray H' (U3 B H0 E ps' P (sub G s))){s:σ} (st:B_ B H0 H (ps++P s)):Ai prog 80 #[Ax r,.func (.func f) first cap] H (U3 B H0 ((E+4)*2000) ps P (LN sub r s)):=by
 have l:=fun(bb:Nat) (H:Aa) (ps:List Pc) (n c:Nat) (a:Option Addr) (es:List u_)=>AiM (N:=r.nodes) hE I (f:=f) (first:=first) (cap:=cap) (B:=B) (H0:=H0) (P:=P) (λG h1 h2 s ps' H' T=>J G h1 h2 s T) r (M_ _) (bb:=bb) (H:=H) (ps:=ps) (n:=n) (c:=c) (a:=a) (es:=es) (s:=s);rw[Ql]at l ⊢;refine Ai.of_vc func80 rfl (call80 _) (Af _ [A_ 0,A_ 0,A_ 0,.slice zV 0 0] Gj rfl ?_);intro y H1 hy U V W;have F_:B_ B H0 H1 (pB 171 y [A_ 0,A_ 0,A_ 0,.slice zV 0 0]::(ps++P s)):=(st.box hy U V W).perm (xJ _ _);refine YH underlying24 (L0.mk (IX r) #[GI r] (HJ r) (iL r S H1) ?_);rintro _ H2 ⟨rfl,X⟩;have K:=F_.call X;by_cases w:2000<r.nodes;{have Y:zT ((2000:Int)<(r.nodes:Int))=zW:=t_;(conv=>whnf);rw[Y];refine Au underlying171 rfl _ Gj [A_ 0,A_ 0,A_ 0,.slice zV 0 0] rfl (AI (cs:=[A_ 0,A_ 0,A_ 0,.slice zV 0 0]) K 0 rfl rfl (M_ _) rfl λH3 m=>?_);refine L_ (cs:=[A_ 0,A_ 0,A_ 0,.slice zV 0 0]) ET ((m.blk 0 rfl).cells λj v g=>by rw[K_];exact g) zA ?_;(conv=>whnf);have e1:LN sub r s=(s,.error 24):=by{unfold LN;rw[J_ w]};rw[e1];exact⟨_,rfl,rfl,rfl,m.sub (xD _ _)⟩};have Y:zT ((2000:Int)<(r.nodes:Int))=zU:=g_;(conv=>whnf);rw[Y];refine Au underlying215 rfl _ qX (wX 0 0 (.slice zV 0 0) (.func (.func f) first cap)) zX (BI (wX 0 0 (.slice zV 0 0) (.func (.func f) first cap)) rfl ?_);intro bb H3 Z a0 a1 a2;have z:B_ B H0 H3 (pB vK bb (wX 0 0 (.slice zV 0 0) (.func (.func f) first cap))::(pB 171 y [A_ 0,A_ 0,A_ 0,.slice zV 0 0]::(ps++P s))):=(K.box Z a0 a1 a2).perm (xJ _ _);have C:=(z.nils tEd 225).perm (xJ _ _);have m:B_ B H0 H3 (zN bb 0 0 (.func (.func f) first cap) zV 0 [] ((pB 171 y [A_ 0,A_ 0,A_ 0,.slice zV 0 0]::ps)++P s)):=C.perm (List.Perm.swap _ _ _);clear z C;have hp:=l _ _ _ 0 _ _ _ m zO (by simp only[i_,K_];exact yS (Nat.mul_le_mul (Nat.add_le_add_right I 4) (zO:r.nodes<=2000)) zQ);obtain⟨L,x4,D⟩:∃R a3,BG sub r 0 s=(R,a3):=⟨_,_,rfl⟩;rw[D]at hp;refine Ae.mk hp ?_;rintro v4 H4 M;have a5:LN sub r s=Bv (L,x4) λA R=>if 65536<A.u then(R,.error 40)else(R,.ok ⟨A.u,A.p,A.q,A.es⟩):=by unfold LN;rw[I_ w,D]
 rw[a5];cases x4 with|error O=>{obtain⟨a6,p4,q4,n4,o,t,a7,rfl,ag,ah,ai,aj,ak,i⟩:=M;replace i:B_ B H0 H4 (zN bb O n4 (.func (.func f) first cap) o t a7 ((pB 171 y [A_ 0,A_ 0,A_ 0,.slice zV 0 0]::ps)++P L)):=i;refine fa Cl (fa Jp (Bb i 0 E_ rfl (zQ:1<6) rfl λH5 F=>(fa Cl (fa Lc (Bb F 0 E_ rfl (zQ:2<6) rfl λH6 b=>(fa CT ?_))))));refine lT (v:=A_ O) M6 ((b.blk 0 rfl).ce rfl) ?_;have Q:(O != 0)=zW:=bne_iff_ne.2 a6;(conv=>whnf);rw[Q];have a8:bb≠y:=(b.blk 0 rfl).ne (b.blk 2 rfl) zQ;refine Ap.held (λk=>k=bb) 7 (sq [0,1,2,3,4] (.f 5 (sq [6] .e))) rfl zX (Au underlying171 rfl _ Gj [A_ 0,A_ 0,A_ 0,.slice zV 0 0] rfl (fa CT ?_));refine C_ (v:=A_ O) M6 ((b.blk 0 rfl).ce rfl) rfl ?_;refine BH (cs:=[A_ 0,A_ 0,A_ 0,.slice zV 0 0]) b 2 rfl rfl (M_ _) rfl λH7 d ja js=>?_;refine⟨ja.mono λk hk=>by rw[show k=bb from hk];exact a8,?_⟩;refine L_ (cs:=[A_ 0,A_ 0,A_ 0,.slice zV 0 0]) ET ((d.blk 2 rfl).cells λj v g=>by rw[K_];exact g) zA ?_;(conv=>whnf);rw[Dy (x:=(L,(.error O:Except Int BR))) rfl];exact⟨_,rfl,rfl,rfl,d.sub (.cons _ (.cons _ (xD _ _)))⟩}|ok A=>{obtain⟨o,t,rfl,i⟩:=M;have a9:=BW hE _ _ _ _ _ D;replace i:B_ B H0 H4 (zN bb 0 A.u (.func (.func f) first cap) o t A.es ((pB 171 y [A_ 0,A_ 0,A_ 0,.slice zV 0 0]::ps)++P L)):=by{have h:=i;rwa [List.nil_append,K_]at h};refine fa Cl (fa Jp (Bb i 0 E_ rfl (zQ:1<6) rfl λH5 F=>(fa Cl (fa Lc (Bb F 0 E_ rfl (zQ:2<6) rfl λH6 b=>(fa CT ?_))))));refine lT (v:=A_ 0) M6 ((b.blk 0 rfl).ce rfl) ?_;refine fa Cl (fa DN ?_);refine lT (v:=A_ (A.u:Int)) E_ ((b.blk 0 rfl).ce rfl) ?_;rw[Dm (x:=(L,(.ok A:Except Int BR))) rfl];by_cases hu:65536<A.u;{have Q:zT ((65536:Int)<(A.u:Int))=zW:=t_;(conv=>whnf);rw[Q];refine Au underlying171 rfl _ Gj [A_ 0,A_ 0,A_ 0,.slice zV 0 0] rfl (AI (cs:=[A_ 0,A_ 0,A_ 0,.slice zV 0 0]) b 2 rfl rfl (M_ _) rfl λH7 d=>?_);refine L_ (cs:=[A_ 0,A_ 0,A_ 0,.slice zV 0 0]) ET ((d.blk 2 rfl).cells λj v g=>by rw[K_];exact g) zA ?_;(conv=>whnf);rw[J_ hu];exact⟨_,rfl,rfl,rfl,d.sub (.cons _ (.cons _ (xD _ _)))⟩};have Q:zT ((65536:Int)<(A.u:Int))=zU:=g_;(conv=>whnf);rw[Q];refine fa Cl ?_;have ab:Bi H6 bb 0 (s_ ⟨A.u,A.p,A.q,A.es⟩ (.slice o A.es.length t)):=(b.blk 0 rfl).cells λj v g=>by{rw[K_];match j,g with|0,g=>exact g|1,g=>exact g|2,g=>exact g|3,g=>exact g};refine L_ (cs:=s_ ⟨A.u,A.p,A.q,A.es⟩ (.slice o A.es.length t)) ET ab zA (AI (cs:=s_ ⟨A.u,A.p,A.q,A.es⟩ (.slice o A.es.length t)) b 2 rfl rfl (M_ _) rfl λH7 d=>?_);rw[Ar (show(s_ ⟨A.u,A.p,A.q,A.es⟩ (.slice o A.es.length t)).length=4 from rfl)]at d;refine L_ (cs:=s_ ⟨A.u,A.p,A.q,A.es⟩ (.slice o A.es.length t)) ET ((d.blk 2 rfl).cells λj v g=>by rw[K_];exact g) zA ?_;(conv=>whnf);rw[I_ hu];have ae:A.es.length<=(E+4)*2000:=yS a9.2.2.2.2.2 (vY _ zO);exact⟨ae,⟨BJ zO,BJ zO,BJ zO⟩,o,t,rfl,((d.sub (xD _ _)).perm (List.Perm.swap _ _ _) |>.sub (xD _ _)).perm (xJ _ _).symm⟩}
section
attribute [local irreducible] Bs AE Ak FD
def PA.hops_len(d:PA)(q k:Nat):(d.hopsTo q k).length<=256:=by have c:∀l:List Nat,(l.filterMap λt=>if(d.use t&&(d.set q t != 0#256))=zW then zY (C3 (d.place q) (d.place t) (d.set q t))else zV).length=(l.filter λt=>d.use t&&(d.set q t != 0#256)).length:=by{intro l;induction l with|nil=>rfl|cons t l e=>by_cases h:(d.use t&&(d.set q t != 0#256))=zW;{rw[nK,J_ h,tW,J_ h,b_,b_,e]};rw[nK,I_ h,tW,I_ h,e]};unfold PA.hopsTo;rw[c];have:=AjE (a:=(AoF k).filter λt=>d.use t&&(d.set q t != 0#256)) (b:=(AoF 256).map (d.st q)) (List.nodup_range.filter _) λt f=>by{have h:=(zP.1 f).2;rw[X',bne_iff_ne]at h;refine Classical.byContradiction λg=>h.2 (tQ λi j=>?_);rw[BitVec.getLsbD_zero];cases m:(d.set q t).getLsbD i with|false=>rfl|true=>exact absurd (yD.2 ⟨i,yR.2 j,(PA.set_bit.1 m).2⟩) g};rwa [e_,rS]at this
def PA.edges_place(d:PA):∀k,(d.edgesTo k).length<=257*d.place k:=λk=>by
 induction k with
 | zero=>simp[PA.edgesTo]
 | succ k a=>
   have e:d.edgesTo (k+1)=d.edgesTo k++(if d.use k=zW then d.hopsTo k d.n++d.endE k else []):=by
    unfold PA.edgesTo;rw[xW,tH];simp
   rw[e,O_,PA.place_succ];have b:=PA.hops_len d k d.n;have c:(d.endE k).length<=1:=by unfold PA.endE;split<;>simp
   split
   ·rw[O_];omega
   ·simp;omega
def WZ(d:PA):(A9 d).edges.length+1<=258*(A9 d).st.toNat:=by unfold A9;split;{have:=PA.edges_place d d.n;show(d.edgesTo d.n).length+1<=258*((d.count:Int)+1).toNat;have:((d.count:Int)+1).toNat=d.count+1:=zO;rw[this];have:d.place d.n=d.count:=rfl;omega};decide
def EW{σ:Type}{sub:ReM->σ->σ×Except Int P_}{E:Nat}(g:U2 sub E)(f:∀r s d a,sub r s=(d,.ok a)->a.edges.length+1<=258*a.st.toNat):∀(r:ReM) (n:Nat) (s d:σ) (A:BR),BG sub r n s=(d,.ok A)->A.es.length+1<=258*A.u
 | .eps,n,s,d,A,h=>by cases h;simp
 | .cls t,n,s,d,A,h=>by cases h;simp
 | .cat a b,n,s,d,A,h=>by
   have⟨i,A1,e,c⟩:=AP h;have⟨o,A2,j,k⟩:=AP c;cases k;have m:=EW g f a _ _ _ _ e;have p:=EW g f b _ _ _ _ j;simp only[O_,c_,xC];omega
 | .alt a b,n,s,d,A,h=>by
   have⟨i,A1,e,c⟩:=AP h;have⟨o,A2,j,k⟩:=AP c;cases k;have m:=EW g f a _ _ _ _ e;have p:=EW g f b _ _ _ _ j;simp only[O_,b_,i_,xC];omega
 | .star a,n,s,d,A,h=>by
   have⟨i,A1,e,c⟩:=AP h;cases c;have m:=EW g f a _ _ _ _ e;simp only[O_,b_,i_,xC];omega
 | .and_ a b,n,s,d,A,h=>by
   have⟨i,N,e,c⟩:=AP (show CP _ n=_ from h);have l:=f _ _ _ _ e;split at c
   ·cases c;simp only[e_];exact l
   ·cases c
 | .minus a b,n,s,d,A,h=>by
   have⟨i,N,e,c⟩:=AP (show CP _ n=_ from h);have l:=f _ _ _ _ e;split at c
   ·cases c;simp only[e_];exact l
   ·cases c
def dV(b:Int):∀r s c a,EI b r s=(c,.ok a)->a.edges.length+1<=258*a.st.toNat:=λr s c a h=>by
 have e:∀{ends:Bool->Bool->Bool} {f g:Nat->Nat×Except Int PA} {s c:Nat} {N:P_},C7 b ends f g s=(c,.ok N)->N.edges.length+1<=258*N.st.toNat:=λh=>by
  obtain⟨i,j,k,l,d,m,n,o,rfl,p⟩:=KF h;exact WZ d
 cases r with
 | and_ x y=>exact e (show C7 b Re (λs=>FF b (AY b x 0 s)) (λs=>FF b (AY b y 0 s)) _=_ from h)
 | minus x y=>exact e (show C7 b Rl (λs=>FF b (AY b x 0 s)) (λs=>FF b (AY b y 0 s)) _=_ from h)
 | _=>cases h
def Qu{a:Nat}(h:AY b r n s=(a,.ok A)):A.es.length+1<=258*A.u:=by rw[Ds]at h;exact EW (KK b) (dV b) r n s a A h
def AgY{S:Nat->Prop}{v:v_}{a:P_}(w:∀k,S k->k<H.size)(h:sH S H v a)(g:Iw prog H):Ai prog 83 #[v,A_ b] H λr H'=>D_ (H_ H) H H'/\match HN b a with | .error e=>r= .tuple #[.pointer zV,A_ e]| .ok d=>∃v A,r= .tuple #[v,A_ 0]/\Bm (λk=>H.size<=k/\k<H'.size) H' v (zY A)/\Cg (zY A)/\FR (zY A) d:=by
 have x:HN b a=match L3 a b with
   | .error e=>.error e
   | .ok F=>.ok (vS (Bf a) (λX=>zT (a.fin∈X)) F):=rfl
 rw[x];by_cases o:b<1\/4096<b;{rw[bH o];exact(N1 h o).mono λr H' ⟨j,c⟩=>⟨c,j⟩};obtain⟨m,rfl⟩:=xR (zO:0<=b);rw[Ye zO zO];refine(Rh w h g (budget:=m) zO zO).mono λr H' ⟨j,c⟩=>⟨j,?_⟩;have i:=detA a (most:=m) zO;cases n:Dt m (Bf a) (CY (D9 a)) (L1 a)with|none=>rw[n]at c i;rw[<-i];exact c|some q=>have⟨F,rows⟩:=q;rw[n]at c i;rw[<-i];obtain⟨y,rfl,p⟩:=c;have⟨s,t,z⟩:=AnI zO zO n;rw[s,J_ rfl]at p;have⟨g1,g2,B⟩:=Lt (step:=Bf a) (start:=L1 a) (most:=m) (F:=F) zO (by{have:UW a m=zY F:=i.symm;exact this});have u:=MM (K':=List Int) (f:=id) (step':=Bf a) (fin':=λX=>zT (a.fin∈X)) (fin:=λX=>zT (a.fin∈X)) g1 (λ_ _ _ _ e=>e) (λ_ _ _ _=>rfl) (λ_ _=>rfl) (s1:=Am (zY _)) (f1:=AL (zY _)) (by rw[List.map_id];exact t.st) (by rw[List.map_id];exact t.fi);exact⟨y,_,rfl,p,⟨BB (D9 a),rows.map AG,F.map λl=>zT (a.fin∈l),by unfold Ey;rw[e_,s];rfl⟩,⟨z,u.1,u.2⟩⟩
def Yf{K:Type} [DecidableEq K]{most:Nat}{step:K->Nat->K}{start:K}{P:K->Prop}(c:1<=most)(d:P start)(hs:∀x b,P x->P (step x b)){F:List K}(h:FD most step start=zY F):∀x∈F,P x:=by unfold FD at h;cases a:Dt most step (AoF 256) start with|none=>rw[a]at h;cases h|some z=>have⟨G,rows⟩:=z;rw[a]at h;simp only[wP,ApG.injEq]at h;subst h;exact(Gq (P:=P) c d hs _ most G rows a).2.2.2
def ZR(x:Nat×Nat):Int×Int:=((x.1:Int),(x.2:Int))
def YY{b:Option AM}{g h:PA}(l:FR a g)(o:FR b h)(j:g.Ok)(k:h.Ok)(m:Nat):(sF g h m).map (List.map ZR)=nN a b m:=by refine bK (most:=m) (step:=GK g h) (step':=Bl a b) (start:=(0,0)) (f:=ZR) (I:=λx=>x.1<g.n/\x.2<h.n) (λy z _ _ e=>?_) ⟨j.pos,k.pos⟩ λx c i d=>?_;{have p:(y.1:Int)=(z.1:Int):=congrArg Prod.fst e;have e2:(y.2:Int)=(z.2:Int):=congrArg Prod.snd e;exact Prod.ext zO zO};unfold GK Bl;rw[J_ d,J_ d];exact⟨⟨j.cl _ _ i.1 d,k.cl _ _ i.2 d⟩,Prod.ext (l.st _ _ i.1 d).symm (o.st _ _ i.2 d).symm⟩
def AoO{b:Option AM}{g i:PA}{ends:Bool->Bool->Bool}{m:Int}{H':Aa}{r:v_}(q:FR a g)(s:FR b i)(t:g.Ok)(u:i.Ok)(h:NX a b ends m H H' r):
  match wK m ends g i with
   | .error e=>r= .tuple #[.pointer zV,A_ e]
   | .ok d=>∃v A,r= .tuple #[v,A_ 0]/\Bm (λk=>H.size<=k/\k<H'.size) H' v (zY A)/\Cg (zY A)/\FR (zY A) d:=by
 unfold NX at h;unfold wK;by_cases B:m<1\/4096<m
 ·rw[J_ B]at h ⊢;exact h
 ·rw[I_ B]at h ⊢;rw[<-YY q s t u]at h;cases o:sF g i m.toNat with
  | none=>
    rw[o]at h;exact h
  | some F=>
    rw[o]at h;obtain⟨v,A,rfl,E,w,C,G⟩:=h;have⟨g1,g2,I⟩:=Lt (step:=GK g i) (start:=(0,0)) (most:=m.toNat) (F:=F) zO o;have p:∀x∈F,x.1<g.n/\x.2<i.n:=by
     have:=Yf (step:=GK g i) (start:=(0,0)) (most:=m.toNat) (P:=λx=>x.1<g.n/\x.2<i.n) zO ⟨t.pos,u.pos⟩ (λx c j=>by
      unfold GK;split
      ·rename_i l;exact⟨t.cl _ _ j.1 l,u.cl _ _ j.2 l⟩
      ·exact j) o
     exact this
    have D:=MM (K':=Int×Int) (f:=ZR) (step':=Bl a b) (fin':=λx:Int×Int=>ends (AL a x.1) (AL b x.2)) (fin:=qF ends g i) g1 (λy _ z _ e=>by
      have J:(y.1:Int)=(z.1:Int):=congrArg Prod.fst e;have e2:(y.2:Int)=(z.2:Int):=congrArg Prod.snd e;exact Prod.ext zO zO) (λx j c l=>by
      unfold GK Bl;rw[J_ l,J_ l];exact Prod.ext (q.st _ _ (p x j).1 l) (s.st _ _ (p x j).2 l)) (λx j=>by
      show ends (AL a (x.1:Int)) (AL b (x.2:Int))=ends (g.fi x.1) (i.fi x.2);rw[q.fi _ (p x j).1,s.fi _ (p x j).2]) C.st C.fi
    exact⟨v,A,rfl,E,w,by rw[G,e_];rfl,D.1,D.2⟩
end
section
attribute [local irreducible] Bs AE Ak
end
variable{d c:PA}
section
attribute [local irreducible] Bs AE Ak FD
def GH(d:PA)(reps:List Nat)(q j t:Nat):List Nat:=((AoF q).flatMap λp=>(reps.filter λr=>d.st p r==t).map λ_=>p)++((reps.take j).filter λr=>d.st q r==t).map λ_=>q
def yL(l:List Nat):List Int:=l.map fun(p:Nat)=>(p:Int)
def LC(d:PA)(reps:List Nat)(q j:Nat):List (List Int):=(AoF d.n).map λt=>yL (GH d reps q j t)
section
variable{d:PA}{reps:List Nat}{q j t:Nat}
def Wx{r:Nat}(h:reps[j]?=zY r):GH d reps q (j+1) t=GH d reps q j t++if d.st q r=t then [q]else []:=by unfold GH;rw[Ab h,vI,yV,zS];congr 2;by_cases e:d.st q r=t<;>simp[e]
def Wy(h:reps.length<=j):GH d reps q j t=GH d reps (q+1) 0 t:=by unfold GH;rw[uJ h,xW,tH];simp
def Rw(a:reps.length<=256):(GH d reps q j t).length<=q*256+256:=by have b:∀p,((reps.filter λr=>d.st p r==t).map λ_=>p).length<=256:=λp=>by{rw[e_];exact yS (vX _ _) a};have c:∀q,((AoF q).flatMap λp=>(reps.filter λr=>d.st p r==t).map λ_=>p).length<=q*256:=λq=>by{induction q with|zero=>simp|succ q e=>rw[xW,tH,O_];have:=b q;simp only[List.flatMap_cons,List.flatMap_nil,yU];omega};unfold GH;rw[O_,e_];have f:=c q;have g:=vX (λr=>d.st q r==t) (reps.take j);have h:=List.length_take_le' j reps;omega
def Vx{p:Nat}:p∈GH d reps q 0 t↔p<q/\∃r∈reps,d.st p r=t:=by unfold GH;simp only[tE,List.filter_nil,uQ,yU,List.mem_flatMap,yR,yD,zP,beq_iff_eq];constructor;{rintro⟨c,a,r,⟨b,h⟩,rfl⟩;exact⟨a,r,b,h⟩};rintro⟨a,r,b,h⟩;exact⟨p,a,r,⟨b,h⟩,rfl⟩
def KL:(LC d reps q j).length=d.n:=by simp[LC]
def Nl(h:t<d.n):(LC d reps q j)[t]?=zY (yL (GH d reps q j t)):=by unfold LC;rw[Y',wJ h];rfl
def AfM{r:Nat}(h:reps[j]?=zY r)(b:d.st q r<d.n):(LC d reps q j).set (d.st q r) (yL (GH d reps q j (d.st q r))++[(q:Int)])=LC d reps q (j+1):=by apply yP;intro i;by_cases a:i<d.n;{rw[xV,Nl a,Nl a,KL,Wx h];by_cases e:d.st q r=i;{subst e;rw[J_ rfl,J_ a,J_ rfl];unfold yL;rw[yV];rfl};rw[I_ e,I_ e,yU]};rw[zC (by rw[yT,KL];omega),zC (by rw[KL];omega)]
def dZ(h:reps.length<=j):LC d reps q j=LC d reps (q+1) 0:=by unfold LC;refine uR λt _=>?_;rw[Wy h]
def cC:LC d reps 0 0=Ao0 d.n []:=by unfold LC;rw[nJ];refine⟨zZ,λb a=>?_⟩;obtain⟨i,-,rfl⟩:=yD.1 a;rfl
def L8(d:PA)(k:Nat):List Bool:=(AoF d.n).map λi=>zT (i<k)&&d.fi i
def JW(d:PA)(k:Nat):List Int:=yL ((AoF k).filter d.fi)
def Hr{k:Nat}:(L8 d k).length=d.n:=by simp[L8]
def ZO:L8 d 0=Ao0 d.n zU:=by unfold L8;rw[nJ];refine⟨zZ,λb a=>?_⟩;obtain⟨i,-,rfl⟩:=yD.1 a;simp
def IG{k i:Nat}(h:i<d.n):(L8 d k)[i]?=zY (zT (i<k)&&d.fi i):=by unfold L8;rw[Y',wJ h];rfl
def bW{k:Nat}(h:k<d.n)(c:d.fi k=zW):(L8 d k).set k zW=L8 d (k+1):=by apply yP;intro i;by_cases a:i<d.n;{rw[xV,IG a,IG a,Hr];by_cases e:k=i;{subst e;rw[J_ rfl,J_ a,c];simp};rw[I_ e];by_cases b:i<k;{simp[b,(zO:i<k+1)]};simp[b,show¬i<k+1 by omega]};rw[zC (by rw[yT,Hr];omega),zC (by rw[Hr];omega)]
def ZN{k:Nat}(b:d.fi k=zU):L8 d k=L8 d (k+1):=by unfold L8;refine uR λi _=>?_;by_cases e:i=k;{subst e;simp[b]};by_cases a:i<k;{simp[a,(zO:i<k+1)]};simp[a,show¬i<k+1 by omega]
def Sm{k:Nat}(a:d.fi k=zW):JW d (k+1)=JW d k++[(k:Int)]:=by unfold JW yL;rw[xW,vI,yV];simp[a]
def So{k:Nat}(a:d.fi k=zU):JW d (k+1)=JW d k:=by unfold JW yL;rw[xW,vI,yV];simp[a]
def AfO(k:Nat):(JW d k).length<=k:=by unfold JW yL;rw[e_];have:=vX d.fi (AoF k);rwa [rS]at this
def AkX(d:PA)(p t:Nat):Prop:=∃b,b<256/\d.st p b=t
structure UsI(d:PA)(Ex:Nat->Prop)(outs:List Bool)(todo:List Int):Prop where
 len:outs.length=d.n
 td:∀x∈todo,∃q:Nat,x=(q:Int)/\outs[q]?=zY zW
 live:∀q:Nat,outs[q]?=zY zW->d.Live q
 fin:∀q:Nat,q<d.n->d.fi q=zW->outs[q]?=zY zW
 cl:∀q:Nat,outs[q]?=zY zW->(q:Int)∈todo\/Ex q\/∀p:Nat,p<d.n->AkX d p q->outs[p]?=zY zW
 room:todo.length+outs.count zU<=d.n
def UsI.start(d:PA):UsI d (λ_=>False) (L8 d d.n) (JW d d.n):=by refine⟨Hr,λx g=>?_,λq a=>?_,λq a j=>?_,λq a=>?_,?_⟩;{unfold JW yL at g;obtain⟨p,k,rfl⟩:=yD.1 g;have⟨c,m⟩:=zP.1 k;have c:=yR.1 c;exact⟨p,rfl,by rw[IG c];simp[c,m]⟩};{have b:=(T_.1 a).1;rw[Hr]at b;rw[IG b]at a;simp[b]at a;exact .fin b a};{rw[IG a];simp[a,j]};{have b:=(T_.1 a).1;rw[Hr]at b;rw[IG b]at a;simp[b]at a;refine .inl ?_;unfold JW yL;exact yD.2 ⟨q,zP.2 ⟨yR.2 b,a⟩,rfl⟩};have f:∀l:List Nat,(l.filter d.fi).length+(l.map λi=>d.fi i).count zU=l.length:=by{intro l;induction l with|nil=>rfl|cons i l r=>cases h:d.fi i<;>simp[h]<;>omega};have e:L8 d d.n=(AoF d.n).map λi=>d.fi i:=by{unfold L8;refine uR λi o=>?_;simp[yR.1 o]};have:=f (AoF d.n);rw[rS]at this;rw[e];unfold JW yL;rw[e_];omega
section
variable{a:List Bool}
def UsI.pop{q:Nat}{todo:List Int}(h:UsI d (λ_=>False) a ((q:Int)::todo)):UsI d (·=q) a todo:=by refine⟨h.len,λx c=>h.td x (yH _ c),h.live,h.fin,λp e=>?_,by have:=h.room;simp only[b_]at this;omega⟩;rcases h.cl p e with b | b | b;{rcases zM.1 b with b | b;{exact .inr (.inl zO)};exact .inl b};{exact b.elim};exact .inr (.inr b)
def R3{p:Nat}(c:a[p]?=zY zU):(a.set p zW).count zU+1=a.count zU:=by induction a generalizing p with|nil=>cases c|cons b l d=>{cases p with|zero=>cases c;simp|succ p=>have:=d (p:=p) c;cases b<;>simp<;>omega}
def KB{p q:Nat}(h:a[q]?=zY zW):(a.set p zW)[q]?=zY zW:=by rw[xV];split;{rename_i e;subst e;rw[J_ (T_.1 h).1]};exact h
end
def UsI.push{Ex:Nat->Prop}{a:List Bool}{p q:Nat}{todo:List Int}(h:UsI d Ex a todo)(o:a[p]?=zY zU)(r:a[q]?=zY zW)(j:AkX d p q):UsI d Ex (a.set p zW) (todo++[(p:Int)]):=by
 have g:=(T_.1 o).1;have k:p<d.n:=by rw[<-h.len];exact g
 have f:(a.set p zW)[p]?=zY zW:=by rw[xV,J_ rfl,J_ g]
 refine⟨by rw[yT];exact h.len,λx c=>?_,λx c=>?_,λx c s=>KB (h.fin x c s),λx c=>?_,?_⟩;{rcases k_.1 c with c | c;{have⟨y,e,l⟩:=h.td x c;exact⟨y,e,KB l⟩};exact⟨p,V_.1 c,f⟩};{rw[xV]at c;split at c;{rename_i e;subst e;have⟨b,t,e⟩:=j;exact .step k t (by rw[e];exact h.live q r)};exact h.live x c};{by_cases e:p=x;{subst e;exact .inl (xX _ (V_.2 rfl))};rw[xV,I_ e]at c;rcases h.cl x c with i | i | i;{exact .inl (yO _ i)};{exact .inr (.inl i)};exact .inr (.inr λy l m=>KB (i y l m))};have:=h.room;have:=R3 o;rw[O_,c_];omega
def UsI.shut{a:List Bool}{q:Nat}{todo:List Int}(h:UsI d (·=q) a todo)(hs:∀p:Nat,p<d.n->AkX d p q->a[p]?=zY zW):UsI d (λ_=>False) a todo:=by refine⟨h.len,h.td,h.live,h.fin,λx c=>?_,h.room⟩;rcases h.cl x c with b | b | b;{exact .inl b};{subst b;exact .inr (.inr hs)};exact .inr (.inr b)
noncomputable def KO(d:PA):List Bool:=(AoF d.n).map d.use
def KP:(KO d).length=d.n:=by simp[KO]
def Fz{q:Nat}(h:q<d.n):(KO d)[q]?=zY (d.use q):=by unfold KO;rw[Y',wJ h];rfl
def UsI.done{a:List Bool}(h:UsI d (λ_=>False) a []):a=KO d:=by have f:∀q:Nat,d.Live q->a[q]?=zY zW:=by{intro q e;induction e with|fin g i=>exact h.fin _ g i|@step q b g i h3 ih=>{rcases h.cl _ ih with c | c | c;{cases c};{exact c.elim};exact c _ g ⟨b,i,rfl⟩}};apply yP;intro q;by_cases e:q<d.n;{rw[Fz e];have⟨b,j⟩:=Ac (l:=a) (k:=q) (by rw[h.len];exact e);rw[j];congr 1;cases b with|true=>exact(PA.use_iff.2 (h.live q j)).symm|false=>{cases m:d.use q with|false=>rfl|true=>have:=f q (PA.use_iff.1 m);rw[j]at this;cases this}};rw[zC (by rw[h.len];omega),zC (by rw[KP];omega)]
end
def AeW(r:Cg o)(f:FR o d){b:Nat}(m:q<d.n)(g:b<256):∃(k c:Nat) (s:BitVec 256),(A8 o)[k]?=zY s/\(BO (A8 o))[k]?=zY c/\s.getLsbD b=zW/\d.st q c=d.st q b:=by have⟨v,h⟩:=r.ok;obtain⟨k,s,e,a,-⟩:=h.part b g;obtain⟨l,t,-,i,-⟩:=h.least _ s e;have j:=(h.keeps _ s l b e t g a).2 (q:Int) zO (by rw[f.n];omega);refine⟨k,(AX s 0).1,s,e,by unfold BO;rw[Y',e];rfl,a,?_⟩;have p:=f.st q (AX s 0).1 m (CW s 0);have u:=f.st q b m g;rw[i]at p ⊢;rw[p,u]at j;omega
def XS{cells:List (BitVec 256)}:∀b∈BO cells,b<256:=λb a=>by
 unfold BO at a;obtain⟨c,-,rfl⟩:=yD.1 a;exact CW c 0
def UG(cells:List (BitVec 256)):(BO cells).length=cells.length:=by unfold BO;rw[e_]
def Ai3{S:Nat->Prop}{ra:Option Addr}{rc:Nat}(hS:∀k,S k->k<H.size)(Y:Bm S H va o)(hm:Cg o)(hd:FR o d)(bg:d.Ok)(hr:Y_ (E7 .u8) S H ra rc (yL (BO (A8 o)))):
  Ai prog 133 #[va,.slice ra (BO (A8 o)).length rc] H λr H'=>D_ (H_ H) H H'/\Z_ Ay none_ H' H.size 4 r (KO d):=by
 have hs:=hm.steps;have h1:=hs.n1;have h2:=hs.n2;have Z:(BO (A8 o)).length<=256:=by rw[UG];exact Ke Y
 have K:=XS (cells:=A8 o);have V:=fun{q b:Nat} (hq:q<d.n) (hb:b<256)=>AeW hm hd hq hb;generalize BO (A8 o)=reps at hr Z K V ⊢;have a6:=hd.n;rw[a6]at h1 h2;have a7:∀{G:Aa} {ps:List Pc},St H G ps->Bm S G va o:=λst=>Y.frame (st.old.mono hS);refine Ai.of_vc func133 rfl (call133 _) (Al (QM Y) λH2 bh=>?_);have ab:=(St.nil H).call bh;rw[a6];refine DH Dj rfl zO zO zO zO ?_;intro nb H3 bi bj ae bm;rw[O']at ae ⊢;have a0:=ab.tabNew tI 3 bi bj ae bm;rw[<-cC (reps:=reps)]at a0;(conv=>whnf);refine A0.mk [22] (λq:Nat=>[A_ q]) (λq G=>q<=d.n/\∃vs,St H G [pT tI 3 39 nb vs (LC d reps q 0)]) (λq _=>d.n-q) ?_ ?_
 ·(conv=>whnf);exact⟨0,rfl,p_ _,_,a0⟩
 ·clear a0 ab;rintro q H6 bn ⟨hq,vs,U⟩;refine AB.m2 (λhz=>?_) (λhz=>?_)
  ·have ag:q<d.n:=zO
   (conv=>whnf);refine A0.mk [27] (λj:Nat=>[A_ j]) (λj G=>j<=reps.length/\∃vs,St H G [pT tI 3 39 nb vs (LC d reps q j)]) (λj _=>reps.length-j) ?_ ?_
   ·(conv=>whnf);exact⟨0,rfl,p_ _,_,U⟩
   ·clear U;rintro j H7 bo ⟨hj,ah,z⟩;refine AB.m2 (λa1=>?_) (λa1=>?_)
    ·have⟨c,hc⟩:=Ac (l:=reps) (k:=j) zO;have a2:=K c (d_ hc);have ai:=bg.cl q c ag a2;refine DY (i:=j) (x:=(c:Int)) OL (hr.frame (z.old.mono hS)) (by unfold yL;rw[e_]) (by unfold yL;rw[Y',hc];rfl) rfl ?_;rintro b8 o8 c8 cy bp ⟨rfl,cz⟩;refine C_ vZ bp.one zA (Al (D5 (λk hk=>z.up (hS k hk)) (a7 z) a2) λH8 bq=>?_);have A:=z.call bq;rw[hd.st q c ag a2];have B:=Nl (reps:=reps) (q:=q) (j:=j) ai;have aj:=Rw (d:=d) (q:=q) (j:=j) (t:=d.st q c) Z;obtain⟨wa,wc,L,-⟩:=A.row 0 rfl B;have ak:ah.length=d.n:=by rw[(A.tab 0 rfl).len,KL]
     refine ix Dj zO zO (C_ C4 (A.tcell 0 rfl L (by rw[K_,zI,O'])) zA (Aj AD [A_ q] rfl rfl zQ zQ ?_));intro br H12 M am N O;have P:=A.skip M O;refine lQ P 0 AD rfl L B N ⟨rfl,Hw ⟨zO,zO⟩⟩ rfl (by unfold yL;rw[e_];omega) zQ λd0 d1 H13 mid=>?_;refine ix Dj zO zO (nO mid C4 (by rw[K_,zI,O']) λH14 F=>?_);(conv=>whnf);rw[R_ j zO];rw[AfM hc ai]at F;exact⟨rfl,j+1,rfl,⟨zO,_,F⟩,zO⟩
    ·obtain rfl:j=reps.length:=zO
     rw[dZ (M_ _)]at z;(conv=>whnf);rw[R_ q zO];exact⟨rfl,q+1,rfl,⟨zO,ah,z⟩,zO⟩
  ·obtain rfl:q=d.n:=zO
   refine DH Ci rfl zO zO zO zO ?_;intro fb H7 bu bv ao bw;rw[O']at ao ⊢;have bx:Ay.reps none_ H7 (Ao0 d.n (Value.bool zU)) (Ao0 d.n zU):=by
    have:=Ny (S:=none_) (H:=H7) (Ao0 d.n zU);rwa [List.map_replicate]at this
   have z:=((U.new (T:=Ay) (n:=d.n) (xs:=Ao0 d.n zU) bu bv (by simpa using ao) bw bx zZ (by unfold maxLen;omega)).nils a_ 3);rw[<-ZO]at z;clear U;(conv=>whnf);refine A0.mk [12,50] (λx:Nat×Option Addr×Nat=>match x with | (k,a,c)=>[.slice a (JW d k).length c,A_ k]) (λx G=>match x with | (k,a,c)=>k<=d.n/\St H G [pT tI 3 39 nb vs (LC d reps d.n 0),pS Ay 4 (N_ fb) d.n d.n (L8 d k),pS a_ 3 a (JW d k).length c (JW d k)]) (λx _=>d.n-x.1) ?_ ?_
   ·(conv=>whnf);exact⟨(0,zV,0),rfl,p_ _,z⟩
   ·clear z;rintro⟨k,a8,c8⟩ H8 bz ⟨hk,A⟩;refine AB.m2 (λhz=>?_) (λhz=>?_)
    ·have ap:k<d.n:=zO
     refine A7.run (Al (CR (a7 A)) λH9 c1=>?_);have w:=A.call c1;rw[hd.fi k ap];cases hf:d.fi k with
     | true=>
       refine ix Ci zO zO ?_;refine LB (j:=k) (x:=zW) w 1 zE rfl rfl zO (by rw[Hr];omega) rfl (λH' _=>rfl) λH10 g=>?_;rw[bW ap hf]at g;refine Aj AD [A_ k] rfl rfl zQ zQ ?_;intro br H12 M am N O;have P:=g.skip M O;have ak:=AfO (d:=d) k;refine IA (x:=(k:Int)) P 2 AD rfl N ⟨rfl,Hw ⟨zO,zO⟩⟩ rfl zO zQ λc2 aq H13 W _=>?_;(conv=>whnf);rw[R_ k zO];have el:(JW d k).length+1=(JW d (k+1)).length:=by rw[Sm hf];simp
       rw[el,<-Sm hf]at W;exact⟨rfl,(k+1,c2,aq),by rw[el];rfl,⟨zO,W⟩,by simp only;omega⟩
     | false=>
       (conv=>whnf);rw[R_ k zO];rw[ZN hf,<-So hf]at w;exact⟨rfl,(k+1,a8,c8),by rw[<-So hf];rfl,⟨zO,w⟩,by simp only;omega⟩
    ·obtain rfl:k=d.n:=zO
     have w:=A.toQ 2 rfl;clear A;(conv=>whnf);refine A0.mk [12] (λx:List Bool×List Int×Option Addr×Nat=>match x with | (_,todo,a,c)=>[.slice a todo.length c]) (λx G=>match x with | (m,todo,a,c)=>UsI d (λ_=>False) m todo/\St H G [pT tI 3 39 nb vs (LC d reps d.n 0),pS Ay 4 (N_ fb) d.n d.n m,pQ a_ 3 a todo.length c todo]) (λx _=>x.2.1.length+2*x.1.count zU) ?_ ?_
     ·(conv=>whnf);exact⟨(L8 d d.n,JW d d.n,a8,c8),rfl,UsI.start d,w⟩
     ·clear w;rintro⟨m,todo,a9,c9⟩ H9 c3 ⟨hI,w⟩;refine AB.m2 (λhz=>?_) (λhz=>?_)
      ·cases todo with
       | nil=>simp at hz
       | cons x todo=>
       obtain⟨q,rfl,ar⟩:=hI.td x zZ;have c4:q<d.n:=by have:=(T_.1 ar).1;rwa [hI.len]at this
       obtain⟨-,c5⟩:=w.qview 2 rfl;refine U' (i:=0) (x:=(q:Int)) AD c5 rfl rfl ?_;rintro d2 d3 au ct aw ⟨rfl,-⟩;refine C_ E_ aw.one zA (qZ w 2 AD rfl λc6 au g=>?_);have B:=Nl (reps:=reps) (q:=d.n) (j:=0) c4;have aj:=Rw (d:=d) (q:=d.n) (j:=0) (t:=q) Z;have⟨wa,wc,L,d4⟩:=g.row 0 rfl B;have ak:vs.length=d.n:=by rw[(g.tab 0 rfl).len,KL]
       refine ix Dj zO zO (C_ C4 (g.tcell 0 rfl L (by rw[K_,zI,O'])) zA ?_);obtain⟨row,Q⟩:∃row,row=GH d reps d.n 0 q:=⟨_,rfl⟩;have ax:(yL (GH d reps d.n 0 q)).length=row.length:=by unfold yL;rw[e_,Q]
       rw[ax];have d5:row.length<=d.n*256+256:=by rw[Q];exact aj
       have hM:todo.length+2*m.count zU<((q:Int)::todo).length+2*m.count zU:=by simp only[b_];omega
       (conv=>whnf);refine A0.mk [12,77] (λx:Nat×List Bool×List Int×Option Addr×Nat=>match x with | (k,_,todo,a,c)=>[.slice a todo.length c,A_ k]) (λx G=>match x with | (k,outs',todo',a,c)=>k<=row.length/\UsI d (·=q) outs' todo'/\outs'[q]?=zY zW/\(∀R p:Nat,R<k->row[R]?=zY p->outs'[p]?=zY zW)/\todo'.length+2*outs'.count zU<=todo.length+2*m.count zU/\St H G [pT tI 3 39 nb vs (LC d reps d.n 0),pS Ay 4 (N_ fb) d.n d.n outs',pQ a_ 3 a todo'.length c todo']) (λx _=>row.length-x.1) ?_ ?_
       ·(conv=>whnf);exact⟨(0,m,todo,c6,au),rfl,p_ _,hI.pop,ar,λR p h=>absurd h zO,M_ _,g⟩
       ·clear w g;rintro⟨k,y,f,ay,az⟩ H11 bf ⟨hk,J,a3,D,b0,C⟩;have c7:f.length+2*y.count zU<((q:Int)::todo).length+2*m.count zU:=Nat.lt_of_le_of_lt b0 hM;refine AB.m2 (λa1=>?_) (λa1=>?_)
        ·have⟨p,hp⟩:=Ac (l:=row) (k:=k) zO;have a4:p∈GH d reps d.n 0 q:=by rw[<-Q];exact d_ hp
         have⟨cd,r,ce,cg⟩:=Vx.1 a4;have⟨d6,d7,I,b4⟩:=C.row 0 rfl B;rw[L]at I;injection I with I
         injection I with e1 _ e2
         subst e1;subst e2;refine A7.run ?_;refine DY (i:=k) (x:=(p:Int)) AD b4 ax.symm (by rw[<-Q];unfold yL;rw[Y',hp];rfl) rfl ?_;rintro d8 d9 da cu b5 ⟨rfl,-⟩;refine lT E_ b5.one ?_;have⟨u,hu⟩:=Ac (l:=y) (k:=p) (by rw[J.len];exact cd);refine zK (j:=p) Ci C 1 rfl hu rfl ?_;rintro db dc aq cw b6 rfl;refine lT zE b6.one ?_;cases u with
         | false=>
           refine ix Ci zO zO ?_;refine LB (j:=p) (x:=zW) C 1 zE rfl rfl zO (by rw[J.len];omega) rfl (λH' _=>rfl) λH14 F=>?_;refine Aj AD [A_ p] rfl rfl zQ zQ ?_;intro de H15 b7 cx b9 bd;have be:=F.skip b7 bd;have ch:=J.room;refine qW (ys:=[(p:Int)]) (ds:=[A_ p]) be 2 AD rfl (b9.cells λj v hv=>by rw[K_];exact hv) (Ty.reps_one ⟨rfl,Hw ⟨zO,zO⟩⟩) rfl (by simp[Value.oneCell']) (by simp only[c_,maxLen];omega) (by simp only[c_];omega) λcj ck H16 X _=>?_;(conv=>whnf);rw[R_ k zO];have df:=R3 hu;have cm:=J.push hu a3 ⟨r,K r ce,cg⟩;have el:f.length+[(p:Int)].length=(f++[(p:Int)]).length:=zZ
           rw[el]at X;refine⟨rfl,(k+1,y.set p zW,f++[(p:Int)],cj,ck),by rw[el];rfl,⟨zO,cm,KB a3,λR p' co E=>?_,by rw[<-el];simp only[c_];omega,X⟩,by simp only;omega⟩;by_cases e:R=k
           ·subst e;rw[hp]at E;cases E;rw[xV,J_ rfl,J_ (T_.1 hu).1]
           ·exact KB (D R p' zO E)
         | true=>
           (conv=>whnf);rw[R_ k zO];refine⟨rfl,(k+1,y,f,ay,az),rfl,⟨zO,J,a3,λR p' co E=>?_,b0,C⟩,by simp only;omega⟩;by_cases e:R=k
           ·subst e;rw[hp]at E;cases E;exact hu
           ·exact D R p' zO E
        ·obtain rfl:k=row.length:=zO
         (conv=>whnf);refine⟨rfl,(y,f,ay,az),rfl,⟨J.shut λp hp cp=>?_,C⟩,c7⟩;have⟨b,hb,e⟩:=cp;obtain⟨R,c,s,-,cq,-,cr⟩:=V hp hb;have a4:p∈row:=by rw[Q];exact Vx.2 ⟨hp,c,d_ cq,cr.trans e⟩
         have⟨i,hi⟩:=xB a4;exact D i p (T_.1 hi).1 hi
      ·have:todo=[]:=by
        cases todo with
        | nil=>rfl
        | cons x t=>simp only[b_]at hz;omega
       subst this;have a5:=hI.done;subst a5;(conv=>whnf);have:=St.own w 1 rfl;rw[<-KP (d:=d)]at this;exact⟨w.old,by rw[<-KP (d:=d)];exact this⟩
noncomputable def MX(d:PA)(k:Nat):List Int:=(AoF d.n).map λi=>if i<k/\d.use i=zW then(d.place i:Int)else 0
def KN(d:PA)(cells:List (BitVec 256))(reps:List Nat)(q k t:Nat):BitVec 256:=(AoF k).foldl (λacc i=>if d.st q (reps.getD i 0)=t then acc ||| cells.getD i 0#256 else acc) 0#256
def QT(d:PA)(cells:List (BitVec 256))(reps:List Nat)(q k:Nat):List (BitVec 256):=(AoF d.n).map λt=>KN d cells reps q k t
def MY{k:Nat}:(MX d k).length=d.n:=by simp[MX]
def dD:MX d 0=Ao0 d.n 0:=by unfold MX;rw[nJ];refine⟨zZ,λb a=>?_⟩;obtain⟨i,-,rfl⟩:=yD.1 a;simp
def Qy{k:Nat}(h:i<d.n):(MX d k)[i]?=zY (if i<k/\d.use i=zW then(d.place i:Int)else 0):=by unfold MX;rw[Y',wJ h];rfl
def aX{k:Nat}(h:k<d.n)(c:d.use k=zW):(MX d k).set k (d.place k:Int)=MX d (k+1):=by apply yP;intro i;by_cases b:i<d.n;{rw[xV,Qy b,Qy b,MY];by_cases e:k=i;{subst e;rw[J_ rfl,J_ b,J_ ⟨zO,c⟩]};rw[I_ e];congr 1;by_cases a:i<k/\d.use i=zW;{rw[J_ a,J_ ⟨zO,a.2⟩]};rw[I_ a,I_ (λf=>a ⟨zO,f.2⟩)]};rw[zC (by rw[yT,MY];omega),zC (by rw[MY];omega)]
def dC{k:Nat}(b:d.use k=zU):MX d k=MX d (k+1):=by unfold MX;refine uR λi _=>?_;by_cases e:i=k;{subst e;rw[I_ (by simp[b]),I_ (by simp[b])]};by_cases a:i<k/\d.use i=zW;{rw[J_ a,J_ ⟨zO,a.2⟩]};rw[I_ a,I_ (λc=>a ⟨zO,c.2⟩)]
def Qw(h:i<d.n)(a:d.use i=zW):(MX d d.n)[i]?=zY (d.place i:Int):=by rw[Qy h,J_ ⟨h,a⟩]
section
variable{cells:List (BitVec 256)}{reps:List Nat}
def KM{k:Nat}:(QT d cells reps q k).length=d.n:=by simp[QT]
def cE:QT d cells reps q 0=Ao0 d.n 0#256:=by unfold QT;rw[nJ];refine⟨zZ,λb a=>?_⟩;obtain⟨i,-,rfl⟩:=yD.1 a;rfl
def Nn{k:Nat}(h:i<d.n):(QT d cells reps q k)[i]?=zY (KN d cells reps q k i):=by unfold QT;rw[Y',wJ h];rfl
def cF{k t:Nat}{c:Nat}{s:BitVec 256}(a:reps[k]?=zY c)(hs:cells[k]?=zY s):KN d cells reps q (k+1) t=if d.st q c=t then KN d cells reps q k t ||| s else KN d cells reps q k t:=by unfold KN;rw[xW,xO];simp only[wW,List.foldl_nil,xA,a,hs,Option.getD_some]
def AfQ{k:Nat}{c:Nat}{s:BitVec 256}(b:reps[k]?=zY c)(hs:cells[k]?=zY s)(f:d.st q c<d.n):(QT d cells reps q k).set (d.st q c) (KN d cells reps q k (d.st q c) ||| s)=QT d cells reps q (k+1):=by apply yP;intro i;by_cases a:i<d.n;{rw[xV,Nn a,Nn a,KM,cF b hs];by_cases e:d.st q c=i;{subst e;rw[J_ rfl,J_ a,J_ rfl]};rw[I_ e,I_ e]};rw[zC (by rw[yT,KM];omega),zC (by rw[KM];omega)]
def AfR{k t:Nat}{b:Nat}:(KN d cells reps q k t).getLsbD b=zW↔∃i,i<k/\d.st q (reps.getD i 0)=t/\(cells.getD i 0#256).getLsbD b=zW:=by induction k with|zero=>simp[KN]|succ k g=>have e:KN d cells reps q (k+1) t=if d.st q (reps.getD k 0)=t then KN d cells reps q k t ||| cells.getD k 0#256 else KN d cells reps q k t:=by{unfold KN;rw[xW,xO];rfl};rw[e];by_cases h:d.st q (reps.getD k 0)=t;{rw[J_ h,BitVec.getLsbD_or,Bool.or_eq_true,g];constructor;{rintro(⟨i,c,a⟩ | c);{exact⟨i,zO,a⟩};exact⟨k,zO,h,c⟩};rintro⟨i,c,a,f⟩;by_cases e:i=k;{subst e;exact .inr f};exact .inl ⟨i,zO,a,f⟩};rw[I_ h,g];constructor;{rintro⟨i,c,a⟩;exact⟨i,zO,a⟩};rintro⟨i,c,a,f⟩;by_cases e:i=k;{subst e;exact absurd a h};exact⟨i,zO,a,f⟩
end
def AfS{t:Nat}(v:Cg o)(j:FR o d)(r:q<d.n):KN d (A8 o) (BO (A8 o)) q (A8 o).length t=d.set q t:=by have⟨x,k⟩:=v.ok;have c:∀(i:Nat) (s:BitVec 256) (b:Nat),(A8 o)[i]?=zY s->b<256->s.getLsbD b=zW->d.st q ((BO (A8 o)).getD i 0)=d.st q b:=by{intro i s b hs f a;obtain⟨l,w,-,m,-⟩:=k.least _ s hs;have p:=(k.keeps _ s l b hs w f a).2 (q:Int) zO (by rw[j.n];omega);have e:(BO (A8 o)).getD i 0=(AX s 0).1:=by{unfold BO;rw[xA,Y',hs];rfl};have h:=j.st q (AX s 0).1 r (CW s 0);have g:=j.st q b r f;rw[e];rw[m]at h ⊢;rw[h,g]at p;omega};refine tQ λb f=>?_;rw[sR,AfR,PA.set_bit];constructor;{rintro⟨i,h,g,u⟩;have⟨s,hs⟩:=Ac h;rw[xA,hs]at u;exact⟨f,by rw[<-c i s b hs f u];exact g⟩};rintro⟨-,g⟩;obtain⟨i,s,hs,a,-⟩:=k.part b f;exact⟨i,(T_.1 hs).1,by rw[c i s b hs f a];exact g,by rw[xA,hs];exact a⟩
def EV{t:Nat}:d.hopsTo q (t+1)=d.hopsTo q t++if(d.use t&&(d.set q t != 0#256))=zW then [C3 (d.place q) (d.place t) (d.set q t)]else []:=by unfold PA.hopsTo;rw[xW,List.filterMap_append];congr 1;by_cases h:(d.use t&&(d.set q t != 0#256))=zW;{simp only[nK,eC,J_ h]};simp only[nK,eC,I_ h]
def Eg:d.edgesTo (q+1)=d.edgesTo q++if d.use q=zW then d.hopsTo q d.n++d.endE q else []:=by unfold PA.edgesTo;rw[xW,tH];simp
def RL{v:v_}(h:(Ao0 n (Value.int .i64 0))[i]?=zY v):v= .int .i64 0:=by rw[wU]at h;split at h;{exact(ApG.inj h).symm};cases h
noncomputable abbrev rX(y x pb:Nat)(ca:Option Addr)(cc:Nat)(a4:Option Addr)(c4:Nat)(ua:Option Addr)(uc:Nat)(o:Option AM)(d:PA)(ea:Option Addr)(ec:Nat)(es:List u_)(rest:List Pc):List Pc:=pB 171 y [A_ 0,A_ 0,A_ 0,.slice zV 0 0]::pS CA 108 ca (A8 o).length cc (A8 o)::pS (E7 .u8) 5 a4 (yL (BO (A8 o))).length c4 (yL (BO (A8 o)))::pS Ay 4 ua d.n uc (KO d)::pS tI 3 (N_ pb) d.n d.n (MX d d.n)::pB 171 x [A_ ((d.count:Int)+1),A_ 0,A_ (d.count:Int),.slice ea es.length ec]::pS tEd 225 ea es.length ec es::rest
def PH{e:x_}{b cap j:Nat}{xs:List Int}{x:Int}(a:B_ B H0 H ps)(i:Nat)(c:ps[i]?=zY (pS tI e (N_ b) n cap xs))(d:xs[j]?=zY x):YtelngokgpnphfaaGreatDoor.cell H b (0+((j:Nat):Int).toNat*1)=zY (.int .i64 x):=by obtain⟨g,f,rfl,-⟩:=a.cellsE i c d;rw[K_,O'];exact f.one
def aJ{S:Nat->Prop}(hS:∀k,S k->k<H.size)(bh:Bm S H va o)(hm:Cg o)(hd:FR o d)(aw:d.Ok)(dv:d.n<=4096):
  Ai prog 108 #[va] H λr H'=>D_ (H_ H) H H'/\∃Q R,r= .agg (s_ (A9 d) (.slice Q (A9 d).edges.length R)).toArray/\Z_ tEd none_ H' H.size 225 (.slice Q (A9 d).edges.length R) (A9 d).edges:=by
 have hs:=hm.steps;have dw:=hd.n;have bi:=aw.pos;have dx:(A8 o).length<=256:=Ke bh;have aj:=UG (A8 o);have bj:=XS (cells:=A8 o);have ak:∀{G:Aa} {ps:List Pc},St H G ps->Bm S G va o:=λst=>bh.frame (st.old.mono hS);refine Ai.of_vc func108 rfl (call108 _) (Af _ [A_ 0,A_ 0,A_ 0,.slice zV 0 0] Gj rfl ?_);intro y H1 hy cz d0 d1;have F_:=(St.nil H).box hy cz d0 d1;refine Ae.mk (OS (λk A=>F_.up (hS k A)) (ak F_)) ?_;rintro _ H2 ⟨d2,-,d3⟩;obtain⟨ca,cc,rfl,bm⟩:=F_.got d2 d3;have bn:=bm.nils (E7 .u8) 5;clear bm F_;(conv=>whnf);refine A0.mk [4,27] (λx:Nat×Option Addr×Nat=>match x with | (k,a,c)=>[.slice a (yL ((BO (A8 o)).take k)).length c,A_ k]) (λx G=>match x with | (k,a,c)=>k<=(A8 o).length/\St H G [pB 171 y [A_ 0,A_ 0,A_ 0,.slice zV 0 0],pS CA 108 ca (A8 o).length cc (A8 o),pS (E7 .u8) 5 a (yL ((BO (A8 o)).take k)).length c (yL ((BO (A8 o)).take k))]) (λx _=>(A8 o).length-x.1) ?_ ?_
 ·(conv=>whnf);exact⟨(0,zV,0),rfl,p_ _,bn⟩
 ·clear bn;rintro⟨k,a4,c4⟩ H4 d4 ⟨A,N⟩;refine AB.m2 (λhz=>?_) (λhz=>?_)
  ·have⟨c,hc⟩:=Ac (l:=A8 o) (k:=k) zO;have a2:(BO (A8 o))[k]?=zY (AX c 0).1:=by unfold BO;rw[Y',hc];rfl
   have dy:=CW c 0;have dz:(yL ((BO (A8 o)).take k)).length=k:=by unfold yL;rw[e_,wI,aj];omega
   refine zK (j:=k) CJ N 1 rfl hc rfl ?_;rintro b8 o8 c8 d5 ax rfl;refine L_ (cs:=Ag c) Bn ax zA (Af (BD 0) (Ag 0) rfl rfl ?_);intro sx H5 ay d6 d7 az;have U:=N.box ay d6 d7 az;refine AI (cs:=Ag c) U 3 rfl rfl (M_ _) rfl λH6 J=>?_;rw[Ar (show(Ag c).length=(Ag 0).length from rfl)]at J;refine L_ (cs:=Ag c) Bn ((J.blk 3 rfl).cells λj v V=>by rw[K_];exact V) zA ?_;refine Al (Qk c 0 zQ H6) λH7 d8=>?_;have O:=J.call d8;refine Aj OL [.int .u8 ((AX c 0).1:Int)] rfl rfl zQ zQ ?_;intro q8 H8 d9 bo b0 b4;have W:=O.skip d9 b4;refine IA (x:=((AX c 0).1:Int)) W 2 OL rfl b0 ⟨rfl,⟨by show(0:Int)<=((AX c 0).1:Int);omega,by show((AX c 0).1:Int)<=(255:Int);omega⟩⟩ rfl zO zQ λa9 c9 H9 a3 _=>?_;(conv=>whnf);rw[R_ k zO];have a5:yL ((BO (A8 o)).take k)++[((AX c 0).1:Int)]=yL ((BO (A8 o)).take (k+1)):=by
    rw[Ab a2];unfold yL;rw[yV];rfl
   have el:(yL ((BO (A8 o)).take k)).length+1=(yL ((BO (A8 o)).take (k+1))).length:=by rw[<-a5];simp
   rw[el,a5]at a3;have Y:=a3.pick [0,1,2] zQ;exact⟨rfl,(k+1,a9,c9),by rw[el];rfl,⟨zO,Y⟩,by simp only;omega⟩
  ·obtain rfl:k=(A8 o).length:=zO
   rw[uJ (by rw[aj];exact M_ _)]at N ⊢;have bp:(yL (BO (A8 o))).length=(BO (A8 o)).length:=by unfold yL;rw[e_]
   have bq:=Ai3 (ra:=a4) (rc:=c4) (λk A=>A) ((ak N).mono λk A=>N.up (hS k A)) hm hd aw (N.view 2 rfl);rw[<-bp]at bq;refine Ae.mk bq ?_;rintro _ H5 ⟨az,da⟩;obtain⟨ua,uc,rfl,U⟩:=N.got az da;clear N;have db:=Fz (d:=d) (q:=0) bi;refine zK (j:=0) Ci U 3 rfl db rfl ?_;rintro b6 o6 c6 e3 dc rfl;refine lT zE dc.one ?_;cases ap:d.use 0 with
   | false=>
     refine Au underlying171 rfl _ Gj [A_ 2,A_ 0,A_ 1,.slice zV 0 0] zX (AI (cs:=[A_ 2,A_ 0,A_ 1,.slice zV 0 0]) U 0 rfl rfl (M_ _) rfl λH6 J=>?_);refine L_ (cs:=[A_ 2,A_ 0,A_ 1,.slice zV 0 0]) ET ((J.blk 0 rfl).cells λj v V=>by rw[K_];exact V) zA ?_;(conv=>whnf);have e:A9 d=⟨2,0,1,[]⟩:=by unfold A9;rw[I_ (by rw[ap];decide)]
     rw[e];exact⟨J.old,zV,0,rfl,Z_.nil⟩
   | true=>
   have eL:A9 d=⟨d.count+1,0,d.count,d.edgesTo d.n⟩:=by unfold A9;rw[J_ ap]
   have e4:=PA.count_le (d:=d);rw[eL];have br:=KP (d:=d);rw[br];rw[br]at U;refine DH AD rfl zO zO zO zO ?_;intro pb H6 de df bu dg;rw[O']at bu ⊢;have dh:tI.reps none_ H6 (Ao0 d.n (Value.int .i64 0)) (Ao0 d.n 0):=by
    refine Em zZ λi v x h1 h2=>?_;rw[RL h1];rw[wU]at h2;split at h2
    ·cases h2;exact⟨rfl,Hw ⟨zO,zO⟩⟩
    ·cases h2
   have J:=U.new (T:=tI) (n:=d.n) (xs:=Ao0 d.n 0) de df (by simpa using bu) dg dh zZ (by unfold maxLen;omega);rw[<-dD]at J;clear U;(conv=>whnf);refine A0.mk [11,54] (λk:Nat=>[A_ (d.place k:Int),A_ k]) (λk G=>k<=d.n/\St H G [pB 171 y [A_ 0,A_ 0,A_ 0,.slice zV 0 0],pS CA 108 ca (A8 o).length cc (A8 o),pS (E7 .u8) 5 a4 (yL (BO (A8 o))).length c4 (yL (BO (A8 o))),pS Ay 4 ua d.n uc (KO d),pS tI 3 (N_ pb) d.n d.n (MX d k)]) (λk _=>d.n-k) ?_ ?_
   ·(conv=>whnf);exact⟨0,rfl,p_ _,J⟩
   ·clear J;rintro k H7 di ⟨A,O⟩;refine AB.m2 (λhz=>?_) (λhz=>?_)
    ·have bv:k<d.n:=zO
     have e5:=PA.place_le (d:=d) k;refine A7.run (zK (j:=k) Ci O 3 rfl (Fz bv) rfl ?_);rintro b8 o8 c8 d5 ax rfl;refine lT zE ax.one ?_;have am:=PA.place_succ (d:=d) k;cases Z:d.use k with
     | true=>
       rw[Z,J_ rfl]at am;refine ix AD zO zO ?_;refine LB (j:=k) (x:=(d.place k:Int)) O 4 E_ rfl rfl zO (by rw[MY];omega) rfl (λH' _=>⟨rfl,Hw ⟨zO,zO⟩⟩) λH8 W=>?_;rw[aX bv Z]at W;(conv=>whnf);rw[W_ (x:=(d.place k:Int)+1) zO];(conv=>whnf);rw[R_ k zO];exact⟨rfl,k+1,by rw[am];rfl,⟨zO,W⟩,zO⟩
     | false=>
       rw[Z,I_ zQ]at am;(conv=>whnf);rw[R_ k zO];rw[dC Z]at O;exact⟨rfl,k+1,by rw[am];rfl,⟨zO,O⟩,zO⟩
    ·obtain rfl:k=d.n:=zO
     have dj:d.place d.n=d.count:=rfl;rw[dj];(conv=>whnf);rw[W_ (x:=(d.count:Int)+1) zO];refine Au underlying171 rfl _ Gj [A_ ((d.count:Int)+1),A_ 0,A_ (d.count:Int),.slice zV 0 0] zX (Af _ [A_ 0,A_ 0,A_ 0,.slice zV 0 0] Gj rfl ?_);intro x H8 hx bo b0 b4;have W:=O.box hx bo b0 b4;clear O;refine AI (cs:=[A_ ((d.count:Int)+1),A_ 0,A_ (d.count:Int),.slice zV 0 0]) W 5 rfl rfl (M_ _) rfl λH9 a3=>?_;have Y:=a3.nils tEd 225;clear W a3;(conv=>whnf);refine A0.mk [73] (λq:Nat=>[A_ q]) (λq G=>q<=d.n/\∃Q R,St H G (rX y x pb ca cc a4 c4 ua uc o d Q R (d.edgesTo q) [])) (λq _=>d.n-q) ?_ ?_
     ·(conv=>whnf);exact⟨0,rfl,p_ _,zV,0,Y⟩
     ·clear Y;rintro q H11 cw ⟨hq,Q,R,B⟩;refine AB.m2 (λdk=>?_) (λdk=>?_)
      ·have X:q<d.n:=zO
       have bw:=PA.place_le (d:=d) q;have e6:=PA.edges_place d q;refine A7.run (zK (j:=q) Ci B 3 rfl (Fz X) rfl ?_);rintro e7 e8 e9 dq bx rfl;refine lT zE bx.one ?_;cases Z:d.use q with
       | false=>
         (conv=>whnf);rw[R_ q zO];have e1:d.edgesTo (q+1)=d.edgesTo q:=by rw[Eg,I_ (by rw[Z];decide),yU]
         rw[<-e1]at B;exact⟨rfl,q+1,rfl,⟨zO,Q,R,B⟩,zO⟩
       | true=>
       refine iQ (T:=CA) (S:=none_) (H:=H11) (v:=0#256) CJ rfl zO rfl zO zO ?_;intro tb H12 dl bz aq c1;rw[O']at aq ⊢;have w:=B.new (T:=CA) (n:=d.n) (xs:=Ao0 d.n 0#256) dl bz aq c1 (Fu rfl d.n) zZ (by unfold maxLen;omega);rw[<-cE (cells:=A8 o) (reps:=BO (A8 o)) (q:=q)]at w;clear B;have eb:(yL (BO (A8 o))).length=(A8 o).length:=by rw[bp,aj]
       (conv=>whnf);refine A0.mk [85] (λk:Nat=>[A_ k]) (λk G=>k<=(A8 o).length/\St H G (rX y x pb ca cc a4 c4 ua uc o d Q R (d.edgesTo q) [pS CA 108 (N_ tb) d.n d.n (QT d (A8 o) (BO (A8 o)) q k)])) (λk _=>(A8 o).length-k) ?_ ?_
       ·(conv=>whnf);exact⟨0,rfl,p_ _,w⟩
       ·clear w;rintro k H13 cx ⟨A,C⟩;refine AB.m2 (λdm=>?_) (λdm=>?_)
        ·have c2:k<(A8 o).length:=zO
         have⟨s,c3⟩:=Ac c2;have⟨c,b5⟩:=Ac (l:=BO (A8 o)) (k:=k) (by rw[aj];exact c2);have a2:=bj c (d_ b5);have b7:=aw.cl q c X a2;refine zK (j:=k) (x:=(c:Int)) OL C 2 rfl (by unfold yL;rw[Y',b5];rfl) rfl ?_;rintro ed ee ef dr c5 ⟨rfl,-⟩;refine C_ vZ c5.one zA (Al (D5 (λk A=>C.up (hS k A)) (ak C) a2) λH14 c7=>?_);have K:=C.call c7;rw[hd.st q c X a2];refine Ap.heldZ (H_ H14) [12] (sq [0,1,2,3,4,5,6,7,8,9] (.f 10 (sq [11] (.f 12 .e)))) rfl zX (zK (j:=d.st q c) CJ K 7 rfl (Nn b7) rfl ?_);rintro eg eh ei cd ce rfl;refine L_ (cs:=Ag (KN d (A8 o) (BO (A8 o)) q k (d.st q c))) Bn ce cd (zK (j:=k) CJ K 1 rfl c3 rfl ?_);rintro ej ek en cg ch rfl;refine L_ (cs:=Ag s) Bn ch cg (Al (No _ _ H14) λH15 ar=>?_);have cj:=K.call ar;refine⟨ar,?_⟩;refine ix CJ zO zO ?_;refine kZ (j:=d.st q c) (x:=KN d (A8 o) (BO (A8 o)) q k (d.st q c) ||| s) (cs:=Ag (KN d (A8 o) (BO (A8 o)) q k (d.st q c) ||| s)) cj 7 rfl rfl (by rw[K_,O'];rfl) (by rw[KM];exact b7) rfl (λH' _=>rfl) λH16 au=>?_;rw[AfQ b5 c3 b7]at au;(conv=>whnf);rw[R_ k zO];exact⟨rfl,k+1,rfl,⟨zO,au⟩,zO⟩
        ·obtain rfl:k=(A8 o).length:=zO
         have ck:∀t,t<d.n->(QT d (A8 o) (BO (A8 o)) q (A8 o).length)[t]?=zY (d.set q t):=λt ht=>by
          rw[Nn ht,AfS hm hd X]
         have hull:=KM (d:=d) (cells:=A8 o) (reps:=BO (A8 o)) (q:=q) (k:=(A8 o).length);obtain⟨us,cm⟩:∃us,us=QT d (A8 o) (BO (A8 o)) q (A8 o).length:=⟨_,rfl⟩;rw[<-cm]at ck hull C;have K:St H H13 (rX y x pb ca cc a4 c4 ua uc o d Q R (d.edgesTo q++d.hopsTo q 0) [pS CA 108 (N_ tb) d.n d.n us]):=by
          have e0:d.edgesTo q++d.hopsTo q 0=d.edgesTo q:=yU _;rw[e0];exact C
         clear C;(conv=>whnf);refine A0.mk [109] (λt:Nat=>[A_ t]) (λt G=>t<=d.n/\∃Q R,St H G (rX y x pb ca cc a4 c4 ua uc o d Q R (d.edgesTo q++d.hopsTo q t) [pS CA 108 (N_ tb) d.n d.n us])) (λt _=>d.n-t) ?_ ?_
         ·(conv=>whnf);exact⟨0,rfl,p_ _,Q,R,K⟩
         ·clear K;rintro t H17 cy ⟨ht,D,E,F⟩;refine AB.m2 (λdn=>?_) (λdn=>?_)
          ·have b9:t<d.n:=zO
           have dp:=PA.hops_len d q t;have eo:=PA.place_le (d:=d) t;refine A7.run (zK (j:=t) CJ F 7 rfl (ck t b9) rfl ?_);rintro ep eu ev dt co rfl;refine L_ (cs:=Ag (d.set q t)) Bn co zA (Af (BD 0) (Ag 0) rfl rfl ?_);intro sx H18 ay cp cq a6;have m:=F.box ay cp cq a6;refine AI (cs:=Ag (d.set q t)) m 8 rfl rfl (M_ _) rfl λH19 g=>?_;rw[Ar (show(Ag (d.set q t)).length=(Ag 0).length from rfl)]at g;clear F m;refine zK (j:=t) Ci g 3 rfl (Fz b9) rfl ?_;rintro ew ey ez du cr rfl;refine lT zE cr.one ?_;cases bd:d.use t with
           | false=>
             have e1:d.hopsTo q (t+1)=d.hopsTo q t:=by rw[EV,bd];simp
             (conv=>whnf);rw[R_ t zO];rw[<-e1]at g;exact⟨rfl,t+1,rfl,⟨zO,D,E,g.pick [0,1,2,3,4,5,6,7] zQ⟩,zO⟩
           | true=>
           refine L_ (cs:=Ag (d.set q t)) Bn ((g.blk 8 rfl).cells λj v V=>by rw[K_];exact V) zA ?_;refine CB Ct (BD 0) rfl (Ag 0) rfl (Po (d.set q t) 0#256 ?_);by_cases ao:d.set q t=0#256
           ·have dd:zT (d.set q t=0#256)=zW:=r_ ao;rw[dd];have e1:d.hopsTo q (t+1)=d.hopsTo q t:=by rw[EV,ao];simp
            (conv=>whnf);rw[R_ t zO];rw[<-e1]at g;exact⟨rfl,t+1,rfl,⟨zO,D,E,g.pick [0,1,2,3,4,5,6,7] zQ⟩,zO⟩
           ·have dd:zT (d.set q t=0#256)=zU:=n_ ao;rw[dd];have e1:d.hopsTo q (t+1)=d.hopsTo q t++[C3 (d.place q) (d.place t) (d.set q t)]:=by
             rw[EV,J_];rw[bd,Bool.true_and,bne_iff_ne];exact ao
            obtain⟨L,M⟩:∃L,L=d.edgesTo q++d.hopsTo q t:=⟨_,rfl⟩;have ct:L.length<=1056768:=by rw[M,O_];have:=vY 257 (yS bw (zO:q<=4096));omega
            have a1:∀i,i<9->i≠6->∀b p,(rX y x pb ca cc a4 c4 ua uc o d D E (L) [pS CA 108 (N_ tb) d.n d.n us,pB 108 sx (Ag (d.set q t))]:List Pc)[i]?=zY p->p.foot b->b<H19.size/\¬Q_ (.slice D L.length E) b:=λi _ h6 b p hp hb=>by
             rw[M]at hp ⊢;exact⟨(g.in_ i hp hb).2,λh=>g.apart2 (i:=i) (j:=6) hp rfl h6 b hb (.inl h)⟩
            rw[<-M]at g;have a7:=a1 5 zQ zQ x _ rfl rfl;have a0:=a1 4 zQ zQ pb _ rfl (.inl ⟨0,_,_,rfl⟩);have be:=a1 8 zQ zQ sx _ rfl rfl;refine Ap.heldZ (λk2=>k2<H19.size/\¬Q_ (.slice D L.length E) k2) [15] (sq [0,1,2,3,4,5,6,7,8,9,10,11] (.f 12 (.f 13 (sq [14] (.f 15 .e))))) rfl zX (fa Eh ?_);refine C_ (v:=.slice D L.length E) FV ((g.blk 5 rfl).ce rfl) a7 ?_;refine ix AD zO zO (C_ (v:=A_ (d.place q:Int)) E_ (PH g 4 rfl (Qw X Z)) a0 (ix AD zO zO (C_ (v:=A_ (d.place t:Int)) E_ (PH g 4 rfl (Qw b9 bd)) a0 ?_)));refine L_ (cs:=Ag (d.set q t)) Bn ((g.blk 8 rfl).cells λj v V=>by rw[K_];exact V) be ?_;refine Se (d.place q) (d.place t) (d.set q t) (Aj Gs (yA (C3 (d.place q) (d.place t) (d.set q t))) rfl rfl zQ zQ ?_);intro z H20 a8 cu ab I;have ae:=g.skip a8 I;refine⟨I.mono λk A=>by have:=A.1;omega,?_⟩;refine GM (ys:=[C3 (d.place q) (d.place t) (d.set q t)]) ae 6 Gs rfl (ab.cells (o:=0) (cs:=yA (C3 (d.place q) (d.place t) (d.set q t))) λj v V=>by rw[K_];exact V) (Ty.reps_one ⟨rfl,M8 zO zO _ _⟩) rfl (λu Z=>yC.1 (KZ _) u Z) (by unfold maxLen;simp;omega) (by simp;omega) λbf bg H21 ag ah=>?_;refine⟨(I.mono λk A=>by have:=A.1;omega).trans (ah.mono λk A=>⟨by have:=A.1;omega,A.2⟩),?_⟩;refine fa Eh (Bb ag 5 FV rfl (zQ:3<4) rfl λH22 P=>?_);(conv=>whnf);rw[R_ t zO];have a5:L++[C3 (d.place q) (d.place t) (d.set q t)]=d.edgesTo q++d.hopsTo q (t+1):=by rw[e1,M,zS]
            have el:L.length+[C3 (d.place q) (d.place t) (d.set q t)].length=(d.edgesTo q++d.hopsTo q (t+1)).length:=by rw[<-a5];simp
            rw[el,a5]at P;have ai:=P.pick [0,1,2,3,4,5,6,7] zQ;exact⟨rfl,t+1,rfl,⟨zO,bf,bg,ai⟩,zO⟩
          ·obtain rfl:t=d.n:=zO
           have dp:=PA.hops_len d q d.n;obtain⟨L,M⟩:∃L,L=d.edgesTo q++d.hopsTo q d.n:=⟨_,rfl⟩;have ct:L.length<=1056768:=by rw[M,O_];have:=vY 257 (yS bw (zO:q<=4096));omega
           rw[<-M]at F;refine Al (CR (ak F)) λH18 a6=>?_;have m:=F.call a6;clear F;rw[hd.fi q X];cases hf:d.fi q with
           | false=>
             have e1:d.edgesTo (q+1)=L:=by rw[Eg,J_ Z,M];unfold PA.endE;rw[I_ (by rw[hf];decide),yU]
             (conv=>whnf);rw[R_ q zO];rw[<-e1]at m;exact⟨rfl,q+1,rfl,⟨zO,D,E,m.pick [0,1,2,3,4,5,6] zQ⟩,zO⟩
           | true=>
             have e1:d.edgesTo (q+1)=L++[AK (d.place q) d.count]:=by rw[Eg,J_ Z,M];unfold PA.endE;rw[J_ hf,zS]
             have a1:∀i,i<9->i≠6->∀b p,(rX y x pb ca cc a4 c4 ua uc o d D E L [pS CA 108 (N_ tb) d.n d.n us]:List Pc)[i]?=zY p->p.foot b->b<H18.size/\¬Q_ (.slice D L.length E) b:=λi _ h6 b p hp hb=>by
              exact⟨(m.in_ i hp hb).2,λh=>m.apart2 (i:=i) (j:=6) hp rfl h6 b hb (.inl h)⟩
             have a7:=a1 5 zQ zQ x _ rfl rfl;have a0:=a1 4 zQ zQ pb _ rfl (.inl ⟨0,_,_,rfl⟩);refine Ap.heldZ (λk2=>k2<H18.size/\¬Q_ (.slice D L.length E) k2) [11] (sq [0,1,2,3,4,5,6,7] (.f 8 (.f 9 (sq [10] (.f 11 .e))))) rfl zX (fa Eh ?_);refine C_ (v:=.slice D L.length E) FV ((m.blk 5 rfl).ce rfl) a7 ?_;refine ix AD zO zO (C_ (v:=A_ (d.place q:Int)) E_ (PH m 4 rfl (Qw X Z)) a0 (Sg (d.place q) d.count (Aj Gs (yA (AK (d.place q) d.count)) rfl rfl zQ zQ ?_)));intro z H20 a8 cu ab I;have ae:=m.skip a8 I;refine⟨I.mono λk A=>by have:=A.1;omega,?_⟩;refine GM (ys:=[AK (d.place q) d.count]) ae 6 Gs rfl (ab.cells (o:=0) (cs:=yA (AK (d.place q) d.count)) λj v V=>by rw[K_];exact V) (Ty.reps_one ⟨rfl,M8 zO zO _ _⟩) rfl (λu Z=>yC.1 (KZ _) u Z) (by unfold maxLen;simp;omega) (by simp;omega) λbf bg H21 ag ah=>?_;refine⟨(I.mono λk A=>by have:=A.1;omega).trans (ah.mono λk A=>⟨by have:=A.1;omega,A.2⟩),?_⟩;refine fa Eh (Bb ag 5 FV rfl (zQ:3<4) rfl λH22 P=>?_);(conv=>whnf);rw[R_ q zO];have el:L.length+[AK (d.place q) d.count].length=(d.edgesTo (q+1)).length:=by rw[e1];simp
             rw[el,<-e1]at P;have ai:=P.pick [0,1,2,3,4,5,6] zQ;exact⟨rfl,q+1,rfl,⟨zO,bf,bg,ai⟩,zO⟩
      ·obtain rfl:q=d.n:=zO
       have hb:=B.blk 5 rfl;refine L_ (cs:=s_ ⟨d.count+1,0,d.count,d.edgesTo d.n⟩ (.slice Q (d.edgesTo d.n).length R)) ET (hb.cells λj v V=>by rw[K_];exact V) zA ?_;refine AI (cs:=s_ ⟨d.count+1,0,d.count,d.edgesTo d.n⟩ (.slice Q (d.edgesTo d.n).length R)) B 0 rfl rfl (M_ _) rfl λH12 w=>?_;rw[Ar (show(s_ ⟨d.count+1,0,d.count,d.edgesTo d.n⟩ (.slice Q (d.edgesTo d.n).length R)).length=4 from rfl)]at w;refine L_ (cs:=s_ ⟨d.count+1,0,d.count,d.edgesTo d.n⟩ (.slice Q (d.edgesTo d.n).length R)) ET ((w.blk 0 rfl).cells λj v V=>by rw[K_];exact V) zA ?_;(conv=>whnf);exact⟨w.old,Q,R,rfl,St.own w 6 rfl⟩
def pA(lo hi:Nat)(v:v_)(o:Option AM):Pc:=⟨λk=>lo<=k/\k<hi,λH=>Bm (λk=>lo<=k/\k<hi) H v o,λh hp=>hp.frame h⟩
def B_.auto{H':Aa}{v:v_}(a:B_ B H0 H ps)(b:D_ (H_ H) H H')(c:Bm (λk=>H.size<=k/\k<H'.size) H' v o):B_ B H0 H' (ps++[pA H.size H'.size v o]):=a.add b _ c λk d=>d
def B_.aView{v:v_}{lo c:Nat}(a:B_ B H0 H ps)(i:Nat)(b:ps[i]?=zY (pA lo c v o)):Bm (H_ H) H v o:=Bm.mono (a.at_ i b) λk d=>(a.in_ i b d).2
abbrev oB:x_:=125
def Rn(mb:Nat)(b:Int)(m:Nat):Pc:=pB oB mb [A_ b,A_ m]
def xH(mb:Nat)(b:Int)(m:Nat):List Pc:=[Rn mb b m]
def CX{α:Type}(ps:List α)(a:α):(ps++[a]).Perm (a::ps):=xJ a ps
def IS{α:Type}(ps:List α)(a b:α):(ps++[a]++[b]).Perm (a::b::ps):=((xJ b (ps++[a])).trans ((xJ a ps).cons b)).trans (List.Perm.swap a b ps)
def Zc{mb:Nat}{lo g m:Nat}(j:FR o d)(l:St H0 H (ps++xH mb b m++[pA lo g va o])):Ai prog 82 #[U_ mb,va,A_ 0] H λr H'=>r= .tuple #[va,A_ 0]/\D_ (λk=>k<H.size/\k≠mb) H H'/\St H0 H' (ps++xH mb b (max m d.n)++[pA lo g va o]):=by have a:St H0 H (pB oB mb [A_ b,A_ m]::pA lo g va o::ps):=l.perm (IS _ _ _);refine Ai.of_vc func82 rfl (call82 _) (A7.run (Ap.heldZ (H_ H) [10] (sq [0,1,2,3,4,5] (.f 6 (sq [7,8,9] (.f 10 .e)))) rfl zX (fa OW ?_)));refine C_ (v:=A_ m) E_ ((a.blk 0 rfl).ce rfl) (a.in_ 0 rfl rfl).2 ?_;refine Al (QM (B_.aView a 1 rfl)) λH1 c=>?_;have F_:=a.call c;refine⟨c,?_⟩;rw[j.n];refine Wi ?_;rw[show(if(m:Int)<(d.n:Int)then(d.n:Int)else(m:Int))=((max m d.n:Nat):Int) by split<;>omega];refine fa OW (Zl F_ 0 E_ rfl (zQ:1<2) rfl λH2 h p q=>?_);(conv=>whnf);exact⟨rfl,(c.mono λk i=>i.1).trans (p.mono λk i=>i.2),h.perm (IS _ _ _).symm⟩
def VO{mb:Nat}(a:e≠0):BK prog 82 #[U_ mb,.pointer zV,A_ e] H (.tuple #[.pointer zV,A_ e]):=by refine Ai.of_vc func82 rfl (call82 _) ?_;have b:(e==0)=zU:=beq_eq_false_iff_ne.2 a;refine A7.run ?_;(conv=>whnf);rw[b];(conv=>whnf);exact⟨rfl,D_.refl _ _⟩
def Ss(H0:Aa)(ps:List Pc)(mb:Nat)(b:Int)(x:Nat×Except Int PA)(v:v_)(H':Aa):Prop:=match x.2 with
 | .ok d=>∃va A lo hi,v= .tuple #[va,A_ 0]/\Cg (zY A)/\FR (zY A) d/\St H0 H' (ps++xH mb b x.1++[pA lo hi va (zY A)])
 | .error e=>v= .tuple #[.pointer zV,A_ e]/\St H0 H' (ps++xH mb b x.1)
def Z6(h:r.nodes<=2000)(s:Nat):AW b r s=Bv (LN (EI b) r s) λN a=>match HN b N with | .error e=>(a,.error e)| .ok d=>(max a d.n,.ok d):=by unfold AW FF LN;rw[I_ zO,Ds];cases BG (EI b) r 0 s with|mk a c=>{cases c with|error e=>rfl|ok A=>show(if 65536<A.u then _ else _)=Bv (if 65536<A.u then _ else _) _;split;{rfl};rfl}
def AgO{d:Nat}(h:LN (EI b) r s=(d,.ok N)):N.edges.length<=33554432:=by unfold LN at h;split at h;{cases h};have⟨e,A,c,a⟩:=AP h;split at a;{cases a};rename_i f;cases a;rw[<-Ds]at c;have:=Qu c;show A.es.length<=_;omega
def cY{a:Nat}(h:LN (EI b) r s=(a,.error e)):e≠0:=by unfold LN at h;split at h;{cases h;decide};rcases AN h with h | ⟨c,A,-,h⟩;{exact Xr (KK b) _ _ _ _ _ h};split at h;{cases h;decide};cases h
def UI{mb:Nat}(t:Iw prog H0)(W:r.nodes<=2000)(u:Ai prog 80 #[vb,.func (.func 81) #[U_ mb] #[]] H (U3 (H_ H0) H0 ((33554432+4)*2000) ps (xH mb b) (LN (EI b) r s))):Ai prog 54 #[U_ mb,vb] H (Ss H0 ps mb b (AW b r s)):=by refine Ai.of_vc func54 rfl (call54 _) ?_;rw[Z6 W];obtain⟨g,X,j⟩:∃g G,LN (EI b) r s=(g,G):=⟨_,_,rfl⟩;rw[j]at u ⊢;refine Ae.mk u ?_;rintro v1 H1 w;cases X with|error e=>obtain⟨l,rfl,y,I,F_⟩:=w;replace F_:St H0 H1 (ps++xH mb b g):=F_;have J:=cY j;refine Af _ [A_ 0,A_ 0,A_ 0,.slice zV 0 0] Gj rfl ?_;intro x H2 K m n o;have p:St H0 H2 (pB 171 x [A_ 0,A_ 0,A_ 0,.slice zV 0 0]::(ps++xH mb b g)):=(F_.box K m n o).perm (CX _ _);refine AI (cs:=l) p 0 (by rw[y];rfl) rfl (by rw[y];exact M_ _) I λH3 a=>?_;have Y:(e != 0)=zW:=bne_iff_ne.2 J;(conv=>whnf);rw[Y];(conv=>whnf);rw[Dy (x:=(g,(.error e:Except Int P_))) rfl];exact⟨rfl,a.sub (xD _ _)⟩|ok N=>{obtain⟨-,z,B,C,rfl,F_⟩:=w;have L:=AgO j;replace F_:St H0 H1 (ps++xH mb b g++[pS tEd 225 B N.edges.length C N.edges]):=F_;have D:St H0 H1 (Rn mb b g::pS tEd 225 B N.edges.length C N.edges::ps):=F_.perm (IS _ _ _);refine Af _ [A_ 0,A_ 0,A_ 0,.slice zV 0 0] Gj rfl ?_;intro x H2 K m n o;have p:St H0 H2 (pB 171 x [A_ 0,A_ 0,A_ 0,.slice zV 0 0]::pB oB mb [A_ b,A_ g]::pS tEd 225 B N.edges.length C N.edges::ps):=(D.box K m n o).perm (CX _ _);refine AI (cs:=s_ N (.slice B N.edges.length C)) p 0 rfl rfl (M_ _) rfl λH3 a=>?_;rw[Ar (show(s_ N (.slice B N.edges.length C)).length=4 from rfl)]at a;have M:=(a.in_ 0 rfl rfl).2;have O:x≠mb:=(a.blk 0 rfl).ne (a.blk 1 rfl) zQ;refine Ap.heldZ (λk=>k<H3.size/\k≠mb) [] (sq [0,1,2,3,4] (.f 5 (.f 6 (sq [7,8] (.f 9 (sq [10,11,12,13] .e)))))) rfl zX (Lm z L (a.blk 0 rfl) ET ⟨M,O⟩ (a.view 2 rfl) λv4 P=>(fa Ys ?_));refine lT (v:=A_ b) E_ ((a.blk 1 rfl).ce rfl) ?_;refine⟨D_.refl _ _,?_⟩;refine Ae.mk (AgY (S:=H_ H3) (λk h=>h) P (t.agr a.old)) ?_;rintro r5 H5 ⟨c,i⟩;refine⟨c.mono λk h=>h.1,?_⟩;have Q:St H0 H5 (ps++xH mb b g):=((a.call c).sub (xD _ _) |>.perm (List.Perm.swap _ _ _) |>.sub (xD _ _)).perm (CX _ _).symm;rw[Dm (x:=(g,(.ok N:Except Int P_))) rfl];cases q:HN b N with|error e=>rw[q]at i;subst i;have J:=(PP q).2;refine Al (VO J) λH6 E=>(⟨(c.mono λk h=>h.1).trans (E.mono λk h=>An c h.1),?_⟩);(conv=>whnf);exact⟨rfl,Q.call E⟩|ok d=>rw[q]at i;obtain⟨va,A,rfl,R,Z,F⟩:=i;have T:St H0 H5 (ps++xH mb b g++[pA H3.size H5.size va (zY A)]):=by{have h1:St H0 H3 (ps++xH mb b g):=(a.sub (xD _ _) |>.perm (List.Perm.swap _ _ _) |>.sub (xD _ _)).perm (CX _ _).symm;exact B_.auto h1 c R};refine Ae.mk (Zc F T) ?_;rintro r7 H7 ⟨rfl,U,V⟩;refine⟨(c.mono λk h=>h.1).trans (U.mono λk h=>⟨An c h.1,h.2⟩),?_⟩;(conv=>whnf);exact⟨va,A,_,_,rfl,Z,F,V⟩}
def cW{mb:Nat}(c:Iw prog H0)(g:r.nodes<=2000)(d:∀(a:ReM),Md a=zW->a.nodes<=r.nodes->∀(s:Nat) {ps':List Pc} {H':Aa},St H0 H' (ps'++xH mb b s)->Ai prog 81 #[U_ mb,Ax a] H' (U3 (H_ H0) H0 33554432 ps' (xH mb b) (EI b a s)))(h:St H0 H (ps++xH mb b s)):Ai prog 54 #[U_ mb,Ax r] H (Ss H0 ps mb b (AW b r s)):=UI c g (SI (B:=H_ H0) (H0:=H0) (P:=xH mb b) (f:=81) (first:= #[U_ mb]) (cap:= #[]) (KK b) (M_ _) r zO (λa i j s ps' H' e=>d a i j s e) h)
def ZY(a:d.n<=4096):(A9 d).Rng:=by have:=PA.count_le (d:=d);unfold A9;split;{exact⟨⟨by show(-9223372036854775808:Int)<=(d.count:Int)+1;omega,by show(d.count:Int)+1<=(9223372036854775807:Int);omega⟩,⟨by show(-9223372036854775808:Int)<=0;decide,by show 0<=(9223372036854775807:Int);decide⟩,⟨by show(-9223372036854775808:Int)<=(d.count:Int);omega,by show(d.count:Int)<=(9223372036854775807:Int);omega⟩⟩};exact⟨⟨zQ,zQ⟩,⟨zQ,zQ⟩,⟨zQ,zQ⟩⟩
def sgB:ReM->Bool->Bool->Bool | .minus _ _=>Rl | _=>Re
def AiL{mb:Nat}{N:Nat}(O:∀(r:ReM),r.nodes<=N->∀(s:Nat) {ps:List Pc} {H:Aa},St H0 H (ps++xH mb b s)->Ai prog 54 #[U_ mb,Ax r] H (Ss H0 ps mb b (AW b r s)))(P:Md r=zW) (hn:r.nodes<=N+1)  (st:St H0 H (ps++xH mb b s)):Ai prog 81 #[U_ mb,Ax r] H (U3 (H_ H0) H0 33554432 ps (xH mb b) (EI b r s)):=by
 revert hn st;obtain⟨r0,h0⟩:∃r0,r0=r:=⟨_,rfl⟩;cases r with|eps=>cases P|cls=>cases P|cat=>cases P|alt=>cases P|star=>cases P|_ r1 r2=>{
 intro ab st;refine Ai.of_vc func81 rfl (call81 _) ?_;simp only[ReM.nodes]at ab;obtain⟨Q,R⟩:∃Q,Q=sgB r0:=⟨_,rfl⟩;rw[show EI b _ s=C7 b Q (λs=>AW b r1 s) (λs=>AW b r2 s) s by rw[R,h0];rfl];unfold C7;refine Af _ [A_ 0,A_ 0,A_ 0,.slice zV 0 0] Gj rfl ?_;intro y H1 hy ae ag ah;have F_:St H0 H1 ((pB 171 y [A_ 0,A_ 0,A_ 0,.slice zV 0 0]::ps)++xH mb b s):=(st.box hy ae ag ah).perm (CX _ _);refine A7.run ?_;(conv=>whnf);first | refine GW underlying164 (by intro ms h;cases h) ?_ | (refine DI underlying164 (by intro ms h;cases h) Pg zQ ?_;refine GW underlying165 (by intro ms h;cases h) ?_)
 (conv=>whnf);first | refine Af _ [.nilIface,.nilIface] Pg rfl ?_ | refine Af _ [.nilIface,.nilIface] TF rfl ?_
 intro x H2 hx ai aj ak;have am:St H0 H2 (pB _ x [.nilIface,.nilIface]::((pB 171 y [A_ 0,A_ 0,A_ 0,.slice zV 0 0]::ps)++xH mb b s)):=(F_.box hx ai aj ak).perm (CX _ _);refine AI (cs:=[Ax r1,Ax r2]) am 0 rfl rfl (M_ _) (by simp[IN]) λH3 t=>?_;rw[Ar (show([Ax r1,Ax r2]).length=([.nilIface,.nilIface]:List v_).length from rfl)]at t;refine Ap.lex rfl zX ?_;(conv=>whnf);first | refine fa Yu ?_ | refine fa Yw ?_
 refine lT (v:=Ax r1) F0 ((t.blk 0 rfl).ce rfl) ?_;(conv=>whnf);first | refine fa Yv ?_ | refine fa Yx ?_
 refine lT (v:=Ax r2) F0 ((t.blk 0 rfl).ce rfl) ?_;have T:St H0 H3 ((pB 171 y [A_ 0,A_ 0,A_ 0,.slice zV 0 0]::ps)++xH mb b s):=t.sub (xD _ _);have U:=O r1 zO s T;obtain⟨B,x4,e⟩:∃s1 C,AW b r1 s=(s1,C):=⟨_,_,rfl⟩;rw[e]at U;refine Ae.mk U ?_;rintro v4 H4 V;cases x4 with|error e4=>obtain⟨rfl,D⟩:=V;have ao:=Cm b r1 _ _ _ e;have f:St H0 H4 (Rn mb b B::pB 171 y [A_ 0,A_ 0,A_ 0,.slice zV 0 0]::ps):=D.perm (CX _ _);have ap:St H0 H4 (pB 171 y [A_ 0,A_ 0,A_ 0,.slice zV 0 0]::Rn mb b B::ps):=f.pickN 2 [1,0] zQ;have d4:(e4 != 0)=zW:=bne_iff_ne.2 ao;(conv=>whnf);rw[d4];refine Au underlying171 rfl _ Gj [A_ 0,A_ 0,A_ 0,.slice zV 0 0] rfl (AI (cs:=[A_ 0,A_ 0,A_ 0,.slice zV 0 0]) ap 0 rfl rfl (M_ _) rfl λG4 W=>?_);refine L_ (cs:=[A_ 0,A_ 0,A_ 0,.slice zV 0 0]) ET ((W.blk 0 rfl).cells λj v E=>by rw[K_];exact E) zA ?_;(conv=>whnf);rw[Dy (x:=AW b r1 s) e];exact⟨_,rfl,rfl,rfl,(W.sub (xD _ _)).perm (CX _ _).symm⟩|ok d1=>{
 obtain⟨g,A1,i,o,rfl,X,aq,D⟩:=V;have ar:=(Ha e).1;have f:St H0 H4 ((pA i o g (zY A1)::pB 171 y [A_ 0,A_ 0,A_ 0,.slice zV 0 0]::ps)++xH mb b B):=D.perm (CX _ _);have Y:=O r2 zO B f;obtain⟨z,x5,p⟩:∃s1 C,AW b r2 B=(s1,C):=⟨_,_,rfl⟩;rw[p]at Y;rw[Dm (x:=AW b r1 s) e];refine Ae.mk Y ?_;rintro v5 H5 Z;cases x5 with|error e5=>obtain⟨rfl,F⟩:=Z;have au:=Cm b r2 _ _ _ p;have a:St H0 H5 (Rn mb b z::pA i o g (zY A1)::pB 171 y [A_ 0,A_ 0,A_ 0,.slice zV 0 0]::ps):=F.perm (CX _ _);have aw:St H0 H5 (pB 171 y [A_ 0,A_ 0,A_ 0,.slice zV 0 0]::Rn mb b z::ps):=a.pickN 3 [2,0] zQ;have d5:(e5 != 0)=zW:=bne_iff_ne.2 au;(conv=>whnf);rw[d5];refine Au underlying171 rfl _ Gj [A_ 0,A_ 0,A_ 0,.slice zV 0 0] rfl (AI (cs:=[A_ 0,A_ 0,A_ 0,.slice zV 0 0]) aw 0 rfl rfl (M_ _) rfl λG5 a0=>?_);refine L_ (cs:=[A_ 0,A_ 0,A_ 0,.slice zV 0 0]) ET ((a0.blk 0 rfl).cells λj v E=>by rw[K_];exact E) zA ?_;(conv=>whnf);rw[Dy (x:=AW b r2 B) p];exact⟨_,rfl,rfl,rfl,(a0.sub (xD _ _)).perm (CX _ _).symm⟩|ok d2=>{
 obtain⟨G,A2,I,J,rfl,a1,ax,F⟩:=Z;have ay:=(Ha p).1;rw[Dm (x:=AW b r2 B) p];have a:St H0 H5 (Rn mb b z::pA I J G (zY A2)::pA i o g (zY A1)::pB 171 y [A_ 0,A_ 0,A_ 0,.slice zV 0 0]::ps):=F.perm (IS _ _ _);refine fa Ys ?_;refine C_ (v:=A_ b) E_ (by rw[(B_.blk (l:=[A_ b,A_ z]) a 0 rfl).cell];rfl) zA ?_;have w1:=B_.aView a 2 rfl;have w2:=B_.aView a 1 rfl;(conv=>whnf);first | refine Ae.mk (Ai6 (S:=H_ H5) (m:=b) (λk hk=>hk) w1 w2 X a1) ?_ | refine Ae.mk (Ai1 (S:=H_ H5) (m:=b) (λk hk=>hk) w1 w2 X a1) ?_
 rintro r6 H6 ⟨a2,az⟩;have u:=AoO (ends:=Q) aq ax ar ay (by rw[R,h0];exact az);cases w:wK b Q d1 d2 with|error e7=>{rw[w]at u;obtain rfl:r6= .tuple #[.pointer zV,A_ e7]:=u;have a3:e7≠0:=by{rcases TQ w with h | h<;>omega};refine Al (VO a3) λH7 b0=>?_;have c:=(a.call a2).call b0;have b4:St H0 H7 (pB 171 y [A_ 0,A_ 0,A_ 0,.slice zV 0 0]::Rn mb b z::ps):=c.pickN 4 [3,0] zQ;have d7:(e7 != 0)=zW:=bne_iff_ne.2 a3;(conv=>whnf);rw[d7];refine Au underlying171 rfl _ Gj [A_ 0,A_ 0,A_ 0,.slice zV 0 0] rfl (AI (cs:=[A_ 0,A_ 0,A_ 0,.slice zV 0 0]) b4 0 rfl rfl (M_ _) rfl λG7 a4=>?_);refine L_ (cs:=[A_ 0,A_ 0,A_ 0,.slice zV 0 0]) ET ((a4.blk 0 rfl).cells λj v E=>by rw[K_];exact E) zA ?_;(conv=>whnf);exact⟨_,rfl,rfl,rfl,(a4.sub (xD _ _)).perm (CX _ _).symm⟩}|ok d=>{rw[w]at u;obtain⟨a5,A3,rfl,a6,b5,a7⟩:∃v A,r6= .tuple #[v,A_ 0]/\Bm (λk=>H5.size<=k/\k<H6.size) H6 v (zY A)/\Cg (zY A)/\FR (zY A) d:=u;obtain⟨-,-,-,-,-,b6,-,K,-,-⟩:=Ml w;have b7:St H0 H6 ((pA I J G (zY A2)::pA i o g (zY A1)::pB 171 y [A_ 0,A_ 0,A_ 0,.slice zV 0 0]::ps)++xH mb b z++[pA H5.size H6.size a5 (zY A3)]):=B_.auto (a.perm (CX _ _).symm) a2 a6;refine Ae.mk (Zc a7 b7) ?_;rintro r7 H7 ⟨rfl,-,b8⟩;have c:=b8.perm (IS _ _ _);refine Ae.mk (aJ (S:=H_ H7) (λk hk=>hk) (B_.aView c 1 rfl) b5 a7 b6 K) ?_;rintro r8 H8 ⟨b9,L,M,rfl,a8⟩;have⟨bf,bg,e8,bd⟩:=c.got b9 a8;injection e8 with e81 _ e83;subst e81;subst e83;have be:St H0 H8 (pS tEd 225 L (A9 d).edges.length M (A9 d).edges::Rn mb b (max z d.n)::pA H5.size H6.size a5 (zY A3)::pA I J G (zY A2)::pA i o g (zY A1)::pB 171 y [A_ 0,A_ 0,A_ 0,.slice zV 0 0]::ps):=bd.perm (CX _ _);have a9:St H0 H8 (pB 171 y [A_ 0,A_ 0,A_ 0,.slice zV 0 0]::Rn mb b (max z d.n)::pS tEd 225 L (A9 d).edges.length M (A9 d).edges::ps):=be.pickN 6 [5,1,0] zQ;refine AI (cs:=s_ (A9 d) (.slice L (A9 d).edges.length M)) a9 0 rfl rfl (M_ _) rfl λH11 q=>?_;rw[Ar (show(s_ (A9 d) (.slice L (A9 d).edges.length M)).length=4 from rfl)]at q;refine L_ (cs:=s_ (A9 d) (.slice L (A9 d).edges.length M)) ET ((q.blk 0 rfl).cells λj v E=>by rw[K_];exact E) zA ?_;(conv=>whnf);exact⟨Lh K,ZY K,L,M,rfl,(q.sub (xD _ _)).perm (IS _ _ _).symm⟩}}}}
end
section
attribute [local irreducible] Bs AE Ak
def pM(b m:Int):List v_:=[A_ b,A_ m]
def pO:(prog.info? 125).bind (·.zero)=zY (.agg (pM 0 0).toArray):=zX
def jK(s:ByteArray):∀c∈m_ s,c<256:=by intro c a;unfold m_ at a;obtain⟨b,-,rfl⟩:=yD.1 a;exact UInt8.toNat_lt b
end
section
attribute [local irreducible] Bs AE Ak FD
def cX{mb:Nat}(a:Iw prog H0):∀(N:Nat) (r:ReM),r.nodes<=N->r.nodes<=2000->∀(s:Nat) {ps:List Pc} {H:Aa},St H0 H (ps++xH mb b s)->Ai prog 54 #[U_ mb,Ax r] H (Ss H0 ps mb b (AW b r s)):=by intro N;induction N with|zero=>intro r h;cases r<;>simp[ReM.nodes]at h|succ N e=>intro r o f s ps H g;refine cW a f (λi hs j p k H' c=>?_) g;exact AiL (N:=i.nodes-1) (λl q m n H2 d=>e l zO zO m d) hs zO c
noncomputable def Df(b:Int)(r:ReM):Except Int (PA×Nat):=if b<1\/4096<b then .error 2 else if 2000<r.nodes then .error 24 else match AW b r 0 with
 | (_,.error e)=>.error e
 | (m,.ok d)=>.ok (d,m)
def P2(x:Except Int (PA×Nat))(H H':Aa)(R:v_):Prop:=match x with
 | .error e=>R= .tuple #[.pointer zV,A_ 0,A_ e]
 | .ok (d,m)=>∃v A,R= .tuple #[v,A_ m,A_ 0]/\Bm (λk=>H.size<=k/\k<H'.size) H' v (zY A)/\Cg (zY A)/\FR (zY A) d
def XD(h:Df b r= .error e):e≠0:=by unfold Df at h;split at h;{cases h;decide};split at h;{cases h;decide};cases c:AW b r 0 with|mk s a=>{rw[c]at h;cases a with|error f=>simp only at h;cases h;exact Cm b r _ _ _ c|ok d=>simp only at h;cases h}
def Lw{m:Nat}(h:Df b r= .ok (d,m)):1<=b/\b<=4096/\r.nodes<=2000/\AW b r 0=(m,.ok d):=by unfold Df at h;split at h;{cases h};rename_i e;split at h;{cases h};cases c:AW b r 0 with|mk s a=>{rw[c]at h;cases a with|error f=>simp only at h;cases h|ok d=>simp only at h;cases h;exact⟨zO,zO,zO,rfl⟩}
def ZU(r:ReM)(o:r.nodes<=1000000000)(i:Iw prog H):Ai prog 26 #[Ax r,A_ b] H λR H'=>D_ (H_ H) H H'/\P2 (Df b r) H H' R:=by have c:=fun(mb:Nat) (H2:Aa) (st:St H H2 ([]++xH mb b 0)) (hn:r.nodes<=2000)=>cX (mb:=mb) (b:=b) i r.nodes r (M_ _) hn 0 st;rw[Ql]at c ⊢;refine Ai.of_vc func26 rfl (call26 _) ?_;unfold Df;by_cases h:b<1;{have m:zT (b<1)=zW:=r_ h;(conv=>whnf);rw[m];(conv=>whnf);exact⟨D_.refl _ _,by rw[J_ (.inl h)]<;>rfl⟩};have m:zT (b<1)=zU:=n_ h;by_cases f:4096<b;{have q:zT (b>4096)=zW:=r_ f;(conv=>whnf);rw[m];(conv=>whnf);rw[q];(conv=>whnf);exact⟨D_.refl _ _,by rw[J_ (.inr f)]<;>rfl⟩};have q:zT (b>4096)=zU:=n_ f;(conv=>whnf);rw[m];(conv=>whnf);rw[q];refine YH underlying24 (L0.mk (IX r) #[GI r] (HJ r) (iL r o H) ?_);rintro _ H1 ⟨rfl,s⟩;have F_:=(St.nil H).call s;by_cases g:2000<r.nodes;{have t:zT ((r.nodes:Int)>2000)=zW:=t_;(conv=>whnf);rw[t];(conv=>whnf);exact⟨F_.old,by rw[I_ zO,J_ g]<;>rfl⟩};have t:zT ((r.nodes:Int)>2000)=zU:=g_;rw[I_ zO,I_ g];(conv=>whnf);rw[t];refine Au underlying125 rfl _ pO (pM b 0) rfl (BI (pM b 0) rfl ?_);intro mb H2 u w f x;have y:St H H2 ([]++xH mb b 0):=F_.box u w f x;have j:=c mb H2 y zO;obtain⟨z,F,l⟩:∃G B,AW b r 0=(G,B):=⟨_,_,rfl⟩;rw[l]at j ⊢;refine Ae.mk j ?_;rintro R H3 D;cases F with|error e=>obtain⟨rfl,a⟩:=D;have I:=Cm b r _ _ _ l;have J:(e != 0)=zW:=bne_iff_ne.2 I;(conv=>whnf);rw[J];(conv=>whnf);exact⟨a.old,rfl⟩|ok d=>obtain⟨va,A,lo,n,rfl,K,L,a⟩:=D;have C:S_ H3 mb 125 [A_ b,A_ z]:=a.at_ (p:=pB oB mb [A_ b,A_ z]) 0 rfl;refine Ap.lex rfl zX (G_ OW ?_);refine C_ (v:=A_ z) E_ (by rw[C.cell];rfl) zA ?_;(conv=>whnf);refine⟨a.old,va,A,rfl,?_,K,L⟩;have M:Bm (λk=>lo<=k/\k<n) H3 va (zY A):=a.at_ (p:=pA lo n va (zY A)) 1 rfl;exact M.mono λk E=>⟨a.ge (p:=pA lo n va (zY A)) 1 rfl E,(a.in_ (p:=pA lo n va (zY A)) 1 rfl E).2⟩
def Nk{x:Except Int (PA×Nat)}{H':Aa}{R:v_}(h:P2 x H H' R):∃x y z,R= .tuple #[x,y,z]:=by unfold P2 at h;split at h;{exact⟨_,_,_,h⟩};obtain⟨v,A,h,-⟩:=h;exact⟨_,_,_,h⟩
def NB(r:ReM)(f:r.nodes<=1000000000)(c:Iw prog H):Ai prog 7 #[Ax r,A_ b] H λR H'=>D_ (H_ H) H H'/\match Df b r with | .error e=>R= .tuple #[.pointer zV,A_ e]| .ok (d,m)=>∃v A,R= .tuple #[v,A_ 0]/\Bm (λk=>H.size<=k/\k<H'.size) H' v (zY A)/\Cg (zY A)/\FR (zY A) d:=by refine Ai.of_vc func7 rfl (call7 _) (Ae.mk (ZU r f c) ?_);rintro R H1 ⟨g,a⟩;obtain⟨x,y,z,rfl⟩:=Nk a;(conv=>whnf);refine⟨g,?_⟩;unfold P2 at a;cases i:Df b r with|error e=>rw[i]at a;cases a;rfl|ok q=>have⟨d,m⟩:=q;rw[i]at a;have⟨v,A,h,j⟩:=a;cases h;exact⟨_,A,rfl,j⟩
end
open Go.Lib
variable{g J:Nat->Nat×Except Int PA}
section
attribute [local irreducible] Bs AE Ak FD
def dA{rest:List Pc}{bb c:Nat}{a:Option Addr}{b:v_}(g:B_ B H0 H (zN bb 0 0 b a c [] rest)):Ai prog 105 #[U_ bb,.nilIface] H λv H'=>∃a' e,v= .tuple #[A_ ((0:Nat):Int),A_ ((1:Nat):Int)]/\B_ B H0 H' (zN bb 0 2 b a' e [C3 0 1 0#256] rest):=by
 refine Ai.of_vc func105 rfl (call105 _) (fa CT ?_);refine lT (v:=A_ 0) M6 ((g.blk 0 rfl).ce rfl) ?_;(conv=>whnf);try refine A7.run ?_
 refine JM underlying210 (by intro d h;cases h) Ln ?_;refine JM underlying239 (by intro d h;cases h) Lo ?_;refine JM underlying240 (by intro d h;cases h) MQ ?_;refine JM underlying167 (by intro d h;cases h) Ph ?_;refine JM underlying243 (by intro d h;cases h) TG ?_;refine JM underlying164 (by intro d h;cases h) Pg ?_;refine JM underlying165 (by intro d h;cases h) TF ?_;refine CB Ct (BD 0) rfl (Ag 0) rfl (UH (s:=0#256) g zO zZ λa' e H4 f=>?_);(conv=>whnf);exact⟨a',e,rfl,f⟩
def PG{σ:Type}{P:σ->List Pc}{sub:ReM->σ->σ×Except Int P_}{E:Nat}{first:Array v_}{s:σ}(x:B_ B H0 H (ps++P s)):Ai prog 80 #[.nilIface,.func (.func f) first cap] H (U3 B H0 ((E+4)*2000) ps P (LN sub (.cls 0#256) s)):=by refine Ai.of_vc func80 rfl (call80 _) (Af _ [A_ 0,A_ 0,A_ 0,.slice zV 0 0] Gj rfl ?_);intro y H1 z k l m;have F_:B_ B H0 H1 (pB 171 y [A_ 0,A_ 0,A_ 0,.slice zV 0 0]::(ps++P s)):=(x.box z k l m).perm (xJ _ _);refine Tt underlying24 (Au underlying215 rfl _ qX (wX 0 0 (.slice zV 0 0) (.func (.func f) first cap)) zX (BI (wX 0 0 (.slice zV 0 0) (.func (.func f) first cap)) rfl ?_));intro bb H3 n o p q;have c:B_ B H0 H3 (pB vK bb (wX 0 0 (.slice zV 0 0) (.func (.func f) first cap))::(pB 171 y [A_ 0,A_ 0,A_ 0,.slice zV 0 0]::(ps++P s))):=(F_.box n o p q).perm (xJ _ _);have d:=(c.nils tEd 225).perm (xJ _ _);have r:B_ B H0 H3 (zN bb 0 0 (.func (.func f) first cap) zV 0 [] (pB 171 y [A_ 0,A_ 0,A_ 0,.slice zV 0 0]::(ps++P s))):=d.perm (List.Perm.swap _ _ _);clear c d;refine Ae.mk (dA r) ?_;rintro A H4 ⟨g,h,rfl,t⟩;refine fa Cl (fa Jp (Bb t 0 E_ rfl (zQ:1<6) rfl λH5 u=>(fa Cl (fa Lc (Bb u 0 E_ rfl (zQ:2<6) rfl λH6 b=>(fa CT ?_))))));refine lT (v:=A_ 0) M6 ((b.blk 0 rfl).ce rfl) ?_;refine fa Cl (fa DN ?_);refine lT (v:=A_ ((2:Nat):Int)) E_ ((b.blk 0 rfl).ce rfl) ?_;refine fa Cl ?_;have w:Bi H6 bb 0 (s_ ⟨((2:Nat):Int),((0:Nat):Int),((1:Nat):Int),[C3 0 1 0#256]⟩ (.slice g 1 h)):=(b.blk 0 rfl).cells λj v a=>by{rw[K_];match j,a with|0,a=>exact a|1,a=>exact a|2,a=>exact a|3,a=>exact a};refine L_ (cs:=s_ ⟨((2:Nat):Int),((0:Nat):Int),((1:Nat):Int),[C3 0 1 0#256]⟩ (.slice g 1 h)) ET w zA (AI (cs:=s_ ⟨((2:Nat):Int),((0:Nat):Int),((1:Nat):Int),[C3 0 1 0#256]⟩ (.slice g 1 h)) b 2 rfl rfl (M_ _) rfl λH7 i=>?_);refine L_ (cs:=s_ ⟨((2:Nat):Int),((0:Nat):Int),((1:Nat):Int),[C3 0 1 0#256]⟩ (.slice g 1 h)) ET ((i.blk 2 rfl).cells λj v a=>by rw[K_];exact a) zA ?_;(conv=>whnf);have e:LN sub (.cls 0#256) s=(s,.ok ⟨((2:Nat):Int),((0:Nat):Int),((1:Nat):Int),[C3 0 1 0#256]⟩):=rfl;rw[e];exact⟨by show 1<=_;omega,⟨BJ zQ,BJ zQ,BJ zQ⟩,g,h,rfl,((i.sub (xD _ _)).perm (List.Perm.swap _ _ _) |>.sub (xD _ _)).perm (xJ _ _).symm⟩
def T3(l:¬b<1)(m:¬4096<b)(c:Iw prog H):Ai prog 26 #[.nilIface,A_ b] H λR H'=>D_ (H_ H) H H'/\P2 (Df b (.cls 0#256)) H H' R:=by refine Ai.of_vc func26 rfl (call26 _) ?_;have B:zT (b<1)=zU:=n_ l;have C:zT (b>4096)=zU:=n_ m;unfold Df;rw[I_ zO,I_ zQ];(conv=>whnf);rw[B];(conv=>whnf);rw[C];refine Tt underlying24 (Au underlying125 rfl _ pO (pM b 0) rfl (BI (pM b 0) rfl ?_));intro mb H2 n o g q;have t:St H H2 ([]++xH mb b 0):=(St.nil H).box n o g q;obtain⟨u,D,h⟩:∃F w,AW b (.cls 0#256) 0=(F,w):=⟨_,_,rfl⟩;have i:=UI (ps:=[]) (mb:=mb) (b:=b) (r:=.cls 0#256) (s:=0) c zQ (PG (E:=33554432) (f:=81) (first:= #[U_ mb]) (cap:= #[]) t);rw[h]at i ⊢;refine Ae.mk i ?_;rintro R H3 y;cases D with|error e=>obtain⟨rfl,a⟩:=y;have G:=Cm b _ _ _ _ h;have I:(e != 0)=zW:=bne_iff_ne.2 G;(conv=>whnf);rw[I];(conv=>whnf);exact⟨a.old,rfl⟩|ok d=>obtain⟨va,A,lo,j,rfl,J,K,a⟩:=y;have x:S_ H3 mb 125 [A_ b,A_ u]:=a.at_ (p:=pB oB mb [A_ b,A_ u]) 0 rfl;refine Ap.lex rfl zX (G_ OW ?_);refine C_ (v:=A_ u) E_ (by rw[x.cell];rfl) zA ?_;(conv=>whnf);refine⟨a.old,va,A,rfl,?_,J,K⟩;have L:Bm (λk=>lo<=k/\k<j) H3 va (zY A):=a.at_ (p:=pA lo j va (zY A)) 1 rfl;exact L.mono λk z=>⟨a.ge (p:=pA lo j va (zY A)) 1 rfl z,(a.in_ (p:=pA lo j va (zY A)) 1 rfl z).2⟩
def T0(c:¬b<1)(d:¬4096<b)(a:Iw prog H):Ai prog 7 #[.nilIface,A_ b] H λR H'=>D_ (H_ H) H H'/\∃x y,R= .tuple #[x,y]:=by refine Ai.of_vc func7 rfl (call7 _) (Ae.mk (T3 c d a) ?_);rintro R H1 ⟨e,f⟩;obtain⟨x,y,z,rfl⟩:=Nk f;(conv=>whnf);exact⟨e,x,z,rfl⟩
def Dz{σ α β:Type}{x x':σ×Except Int α}{f:α->σ->σ×Except Int β}(h:x.2=x'.2)(c:∀a s b,(f a s).2=(f a b).2):(Bv x f).2=(Bv x' f).2:=by have⟨s,r⟩:=x;have⟨b,d⟩:=x';have h:r=d:=h;subst h;cases r with|error e=>rfl|ok a=>exact c a s b
def Km{x:Nat×Except Int BR}(h:x.2=x'.2):(FF b x).2=(FF b x').2:=Dz h λA s a=>by
  split
  ·rfl
  ·cases HN b ⟨A.u,A.p,A.q,A.es⟩<;>rfl
def Lu{ends:Bool->Bool->Bool}{f:Nat->Nat×Except Int PA}(c:∀s a,(f s).2=(f a).2)(d:∀s a,(g s).2=(g a).2)(s a:Nat):(C7 b ends f g s).2=(C7 b ends f g a).2:=Dz (c s a) λe s a=>Dz (d s a) λh s a=>by cases wK b ends e h<;>rfl
def Si{x x':Nat×Except Int P_}(h:x.2=x'.2):(CP x n).2=(CP x' n).2:=Dz h λa s b=>by split<;>rfl
def DB(b:Int):∀(r:ReM) (n s a:Nat),(AY b r n s).2=(AY b r n a).2 | .eps,n,s,a=>rfl | .cls t,n,s,a=>rfl | .cat x y,n,s,a=>by simp only[AY];exact Dz (DB b x n s a) λA s a=>Dz (DB b y _ s a) λC s a=>rfl | .alt x y,n,s,a=>by simp only[AY];exact Dz (DB b x _ s a) λA s a=>Dz (DB b y _ s a) λC s a=>rfl | .star x,n,s,a=>by simp only[AY];exact Dz (DB b x _ s a) λA s a=>rfl | .and_ x y,n,s,a=>by simp only[AY];exact Si (Lu (λs a=>Km (DB b x 0 s a)) (λs a=>Km (DB b y 0 s a)) s a)| .minus x y,n,s,a=>by simp only[AY];exact Si (Lu (λs a=>Km (DB b x 0 s a)) (λs a=>Km (DB b y 0 s a)) s a)
def F9(b:Int)(r:ReM)(s a:Nat):(AW b r s).2=(AW b r a).2:=Km (DB b r 0 s a)
def Am3{t:ByteArray}{k:Bool}(h:match Dd t with | .inl _=>va= .nilIface/\k=zU | .inr r=>va=Ax r/\k=zW/\r.nodes<=2000)(i:¬b<1)(j:¬4096<b)(a:Iw prog H):Ai prog 7 #[va,A_ b] H λR H'=>D_ (H_ H) H H'/\∃x e,R= .tuple #[x,e]/\(k=zW->∃r,Dd t= .inr r/\va=Ax r/\r.nodes<=2000/\match Df b r with | .error o=>x= .pointer zV/\e= .int .i64 o | .ok (d,m)=>e= .int .i64 0/\∃A,Bm (λk=>H.size<=k/\k<H'.size) H' x (zY A)/\Cg (zY A)/\FR (zY A) d):=by cases f:Dd t with|inl e=>rw[f]at h;obtain⟨rfl,rfl⟩:=h;exact(T0 i j a).mono λR H' ⟨l,x,y,c⟩=>⟨l,x,y,c,λh=>by cases h⟩|inr r=>{rw[f]at h;obtain⟨rfl,rfl,n⟩:=h;refine(NB r zO a).mono λR H' ⟨l,c⟩=>⟨l,?_⟩;cases g:Df b r with|error e=>rw[g]at c;exact⟨_,_,c,λ_=>⟨r,rfl,rfl,n,by rw[g];exact⟨rfl,rfl⟩⟩⟩|ok q=>have⟨d,m⟩:=q;rw[g]at c;have⟨v,A,p,s⟩:=c;exact⟨_,_,p,λ_=>⟨r,rfl,rfl,n,by rw[g];exact⟨rfl,A,s⟩⟩⟩}
def cJ(h:FR o d)(a:d.Ok)(s:ByteArray):DU o s=d.fi (d.run 0 (m_ s)):=by have b:=jK s;have c:VM o s s.size=(m_ s).foldl (Am o) ((0:Nat):Int):=by{unfold VM m_;rw[List.foldl_map,uJ (by rw[Array.length_toList];exact M_ _)];rfl};unfold DU;rw[c,FR.run h a _ 0 a.pos b,h.fi _ (PA.run_lt a _ 0 a.pos b)]
def AiE(w:List Nat)(r:ReM):(Mt w r 0 w.length)↔OF w r=zW:=(aL w r).symm
def Ry{m:Nat}(c:FR o d)(e:Df b r= .ok (d,m))(w:ByteArray):DU o w=OF (m_ w) r:=by obtain⟨-,-,-,a⟩:=Lw e;rw[cJ c (Ha a).1 w,sR,W7 a (jK w),AiE]
def Rz{H':Aa}{R:v_}(h:match Df b r with | .error e=>R= .tuple #[.pointer zV,A_ e]| .ok (d,m)=>∃v A,R= .tuple #[v,A_ 0]/\Bm (λk=>H.size<=k/\k<H'.size) H' v (zY A)/\Cg (zY A)/\FR (zY A) d):∃x e,R= .tuple #[x,A_ e]/\((e=0/\∃A d m,Df b r= .ok (d,m)/\Bm (λk=>H.size<=k/\k<H'.size) H' x (zY A)/\Cg (zY A)/\FR (zY A) d)\/(e≠0/\Df b r= .error e/\x= .pointer zV)):=by cases a:Df b r with|error e=>rw[a]at h;exact⟨_,e,h,.inr ⟨XD a,rfl,rfl⟩⟩|ok q=>have⟨d,m⟩:=q;rw[a]at h;have⟨v,A,c,f⟩:=h;exact⟨v,0,c,.inl ⟨rfl,A,d,m,rfl,f⟩⟩
end
section
attribute [local irreducible] Bs AE Ak
def pP{P:w_}{x y:z_}{S:Nat->Prop}{K:v_->Prop}{a b z:Bool}(h:P.underlying t=zY .bool)(c:(a != b)=z)(k:K (.bool z)):AH P (do eqGuard .neq t x y (.bool a) (.bool b);binOp .neq t (.bool a) (.bool b)) S H K:=by subst c;exact AlC h k
end
section
attribute [local irreducible] Bs AE Ak
def Oj{g:Gr}{R:Nd->Prop}(p:∀n c t,R n->c<256->t∈g.next n c->R t):∀(w:List Nat) (n:Nd),R n->Cb w->DK g w n->(∀u,Cb u->DK g u n->w.length<=u.length)->
  ∃L:List Nd,L.length=w.length+1/\L.Nodup/\∀x∈L,R x/\∃u,u.length<=w.length/\Cb u/\DK g u x
 | [],n,hn,hb,hl,hmin=>⟨[n],rfl,by simp,λx d=>by
     obtain rfl:x=n:=by simpa using d
     exact⟨hn,[],M_ _,hb,hl⟩⟩
 | b::w,n,hn,hb,hl,hmin=>by
   have⟨t,i,e⟩:=hl;have f:b<256:=hb b zZ;have j:Cb w:=λc h=>hb c (yH _ h);have a:∀u,Cb u->DK g u t->w.length<=u.length:=λu r k=>by
    have l:Cb (b::u):=λc h=>by
     rcases zM.1 h with rfl | h
     ·exact f
     ·exact r c h
    have:=hmin (b::u) l ⟨t,i,k⟩;simpa using this
   have⟨L,s,v,q⟩:=Oj p w t (p n b t hn f i) j e a;refine⟨n::L,by simp[s],List.nodup_cons.2 ⟨λy=>?_,v⟩,λx d=>?_⟩
   ·obtain⟨-,u,z,m,o⟩:=q n y;have:=hmin u m o;simp at this;omega
   ·rcases zM.1 d with rfl | d
    ·exact⟨hn,b::w,M_ _,hb,t,i,e⟩
    ·have⟨A,u,D,B,C⟩:=q x d;exact⟨A,u,by simp;omega,B,C⟩
def N0(n:Nd):Nat:=(n.s.toNat*60+n.x.toNat)*60+n.y.toNat
section
variable{b:Option AM}
def ZE(i:stN a<=60)(j:stN b<=60){n:Nd}(h:Rc a b n):N0 n<10800:=by unfold N0;rcases h with⟨e,⟨c,d⟩,f⟩ | ⟨e,⟨c,d⟩,f,g⟩ | ⟨e,⟨c,d⟩,f,g⟩<;>omega
def WD(E:stN a<=60)(F:stN b<=60){n m:Nd}(h:Rc a b n)(k:Rc a b m)(e:N0 n=N0 m):n=m:=by have⟨s,x,y⟩:=n;have⟨g,i,j⟩:=m;have rng:∀{p:Nd},Rc a b p->0<=p.s/\p.s<=2/\0<=p.x/\p.x<60/\0<=p.y/\p.y<60:=fun{p} h=>by{rcases h with⟨e,⟨c,d⟩,f⟩ | ⟨e,⟨c,d⟩,f,l⟩ | ⟨e,⟨c,d⟩,f,l⟩<;>omega};have⟨o,q,r,t,u,v⟩:=rng h;have⟨w,z,A,B,C,D⟩:=rng k;unfold N0 at e;simp only at o q r t u v w z A B C D e;obtain⟨rfl,rfl,rfl⟩:s=g/\x=i/\y=j:=⟨zO,zO,zO⟩;rfl
def ZB(i:Cs a)(l:Cs b)(j:stN a<=60)(k:stN b<=60)(h:Hf (Iy a b) (·=Ao) w):w.length<=10800:=by have m:Rc a b Ao:=.inl ⟨rfl,i.zero,rfl⟩;have⟨L,r,n,c⟩:=Oj (UL i l) w Ao m h.bytes h.leads λu o p=>h.2 u o ⟨Ao,rfl,p⟩;have q:=YZ (f:=N0) n λx d y g e=>WD j k (c x d).1 (c y g).1 e;have:=Xl 10800 _ q λx d=>by{obtain⟨y,g,rfl⟩:=yD.1 d;exact ZE j k (c y g).1};rw[e_]at this;omega
end
end
section
attribute [local irreducible] ES Bs AE Ak
def Jj(a b:Option AM)(w:ByteArray)(n:Nat):Nat:=((AoF n).filter (Ev a b w)).length
def ZD(a b:Option AM)(w:ByteArray)(n:Nat):Jj a b w (n+1)=Jj a b w n+if Ev a b w n then 1 else 0:=by unfold Jj;rw[xW,vI,O_];cases h:Ev a b w n<;>simp[h]
def AgS(a b:Option AM)(w:ByteArray)(n:Nat):Jj a b w n<=n:=by unfold Jj;exact yS (vX _ _) zZ
section
variable{b:Option AM}{w:ByteArray}
def bD(h:2<=Jj a b w n):∃i j,i<j/\j<n/\Ev a b w i=zW/\Ev a b w j=zW:=by unfold Jj at h;have hs:((AoF n).filter (Ev a b w)).Pairwise (·<·):=List.pairwise_lt_range.filter _;have c:∀x∈(AoF n).filter (Ev a b w),x<n/\Ev a b w x=zW:=λx e=>by{have⟨f,g⟩:=zP.1 e;exact⟨yR.1 f,g⟩};generalize (AoF n).filter (Ev a b w)=l at*;match l,h with|x::y::r,_=>have d:=(vL.1 hs).1 y zZ;exact⟨x,y,d,(c y zZ).1,(c x zZ).2,(c y zZ).2⟩
def cD{j:Nat}(f:i<j)(g:j<=w.size)(c:Ev a b w i=zW)(d:Ev a b w j=zW):DK (Iy a b) (rA w) Ao:=by
 have e:=Sp w;have h:(rA w).length=w.size:=by unfold rA;rw[e_];rfl
 rw[<-AlA w]at c d;exact(M4 _ _ _).2 ⟨i,j,f,zO,(PN e i).1 c,(PN e j).1 d⟩
end
end
inductive Dl(ns:List h_):ReM->Nat->List (ReM×Nat)->Prop
 | eps {i:Nat}:Dl ns .eps i []
 | cls {t:BitVec 256} {i:Nat}:Dl ns (.cls t) i []
 | cat {a b:ReM} {i j k:Nat} {d:h_} {l m:List (ReM×Nat)}:ns[i]?=zY d->d.l=(j:Int)->d.r=(k:Int)->Dl ns a j l->Dl ns b k m->Dl ns (.cat a b) i (l++m)
 | alt {a b:ReM} {i j k:Nat} {d:h_} {l m:List (ReM×Nat)}:ns[i]?=zY d->d.l=(j:Int)->d.r=(k:Int)->Dl ns a j l->Dl ns b k m->Dl ns (.alt a b) i (l++m)
 | star {a:ReM} {i j:Nat} {d:h_} {l:List (ReM×Nat)}:ns[i]?=zY d->d.l=(j:Int)->Dl ns a j l->Dl ns (.star a) i l
 | and_ {a b:ReM} {i:Nat}:AO ns (.and_ a b) i->Dl ns (.and_ a b) i [(.and_ a b,i)]
 | minus {a b:ReM} {i:Nat}:AO ns (.minus a b) i->Dl ns (.minus a b) i [(.minus a b,i)]
def Dc(l:List (ReM×Nat)):List Int:=l.map λx=>(x.2:Int)
def Gf(l:List (ReM×Nat)):(Dc l).length=l.length:=by unfold Dc;rw[e_]
def Dl.len(h:Dl ns r i l):l.length<=r.nodes:=by induction h with|eps=>simp|cls=>simp|cat _ _ _ _ _ a b=>simp only[O_,ReM.nodes];omega|alt _ _ _ _ _ a b=>simp only[O_,ReM.nodes];omega|star _ _ _ c=>simp only[ReM.nodes];omega|and_=>simp only[c_,ReM.nodes];omega|minus=>simp only[c_,ReM.nodes];omega
def Dl.at_(h:Dl ns r i l):∀x∈l,Md x.1=zW/\AO ns x.1 x.2/\x.2<ns.length:=by have lt:∀{r:ReM} {i:Nat},AO ns r i->i<ns.length:=fun{r i} h=>by{cases r with|eps=>obtain⟨d,h,-⟩:=h;exact(T_.1 h).1|cls t=>obtain⟨d,h,-⟩:=h;exact(T_.1 h).1|star a=>obtain⟨d,j,h,-⟩:=h;exact(T_.1 h).1|_ a b=>obtain⟨d,j,k,h,-⟩:=h;exact(T_.1 h).1};induction h with|eps=>intro x c;cases c|cls=>intro x c;cases c|cat _ _ _ _ _ e f=>{intro x c;rcases k_.1 c with c | c;exact e x c;exact f x c}|alt _ _ _ _ _ e f=>{intro x c;rcases k_.1 c with c | c;exact e x c;exact f x c}|star _ _ _ g=>exact g|and_ h=>intro x c;rw[V_.1 c];exact⟨rfl,h,lt h⟩|minus h=>intro x c;rw[V_.1 c];exact⟨rfl,h,lt h⟩
def AO.head(h:AO ns r i):∃d,ns[i]?=zY d/\d.op=mN r:=by cases r with|eps=>have⟨d,h,c⟩:=h;exact⟨d,h,c⟩|cls t=>obtain⟨d,h,c,-⟩:=h;exact⟨d,h,c⟩|star a=>obtain⟨d,j,h,c,-⟩:=h;exact⟨d,h,c⟩|_ a b=>obtain⟨d,j,k,h,c,-⟩:=h;exact⟨d,h,c⟩
def Ao9:∀(N:Nat) (r:ReM),r.nodes<=N->r.nodes<=1000000->∀{S:Nat->Prop} {H:Aa} {v:v_} {ns:List h_} {Ao:Int} {i:Nat},(∀k,S k->k<H.size)->ReV S H v ns Ao->AO ns r i->
  Ai prog 56 #[v,A_ i] H λu H'=>D_ (H_ H) H H'/\∃l a c,Dl ns r i l/\u= .slice a l.length c/\Z_ a_ none_ H' H.size 3 u (Dc l):=by
 intro N
 induction N with
 | zero=>intro r h;cases r<;>simp[ReM.nodes]at h
 | succ N ih=>
 intro r hN hn S H v ns Ao i I hv W;have⟨d,J,s⟩:=W.head;obtain⟨hl,na,nc,rfl,h1⟩:=hv;have ax:=(T_.1 J).1;refine Ai.of_vc func56 rfl (call56 _) (BI (zR (.slice na ns.length nc) Ao) rfl ?_);intro p H1 hp a7 a8 a9;have F_:=(St.nil H).box hp a7 a8 a9;refine fa E2 ?_;refine lT (v:=.slice na ns.length nc) FB ((F_.blk 0 rfl).ce rfl) ?_;refine U' (i:=i) HP (h1.frame (F_.old.mono I)) J rfl ?_;rintro b2 o2 c2 ay ab ⟨rfl,az⟩;refine L_ (cs:=j_ d) (by rw[AS];exact Rd) ab zA ?_;refine Af _ rnZ OJ rfl ?_;intro x H3 K ae ag ah;have ai:=F_.box K ae ag ah;refine AI (cs:=j_ d) ai 1 (by rw[AS];rfl) rfl (by rw[AS,Cq];decide) (D3 d) λH4 f=>?_;rw[Ar (show(j_ d).length=rnZ.length by rw[AS,Cq])]at f;have L:=f.blk 1 rfl;have X:=f.blk 0 rfl;refine fa Dq ?_;refine C_ (v:=A_ d.op) E_ (by rw[L.cell];exact Fv d) zA ?_;have E:=f.old;cases r with
 | eps=>
   rw[show d.op=0 from s];refine A7.run ?_;(conv=>whnf);exact⟨E,[],zV,0,.eps,rfl,Z_.nil⟩
 | cls t=>
   rw[show d.op=1 from s];refine A7.run ?_;(conv=>whnf);exact⟨E,[],zV,0,.cls,rfl,Z_.nil⟩
 | and_ a b=>
   rw[show d.op=5 from s];refine A7.run (A7.run (Aj AD [A_ i] rfl rfl zQ zQ ?_));intro q H5 hq M O P;(conv=>whnf);have A:=f.new (T:=a_) (n:=1) (xs:=[(i:Int)]) hq M O P (Ty.reps_one ⟨rfl,⟨by show(-9223372036854775808:Int)<=(i:Int);omega,by show(i:Int)<=(9223372036854775807:Int);omega⟩⟩) rfl zQ;exact⟨A.old,[(.and_ a b,i)],_,_,.and_ W,rfl,St.own A 2 rfl⟩
 | minus a b=>
   rw[show d.op=6 from s];refine A7.run (A7.run (Aj AD [A_ i] rfl rfl zQ zQ ?_));intro q H5 hq M O P;(conv=>whnf);have A:=f.new (T:=a_) (n:=1) (xs:=[(i:Int)]) hq M O P (Ty.reps_one ⟨rfl,⟨by show(-9223372036854775808:Int)<=(i:Int);omega,by show(i:Int)<=(9223372036854775807:Int);omega⟩⟩) rfl zQ;exact⟨A.old,[(.minus a b,i)],_,_,.minus W,rfl,St.own A 2 rfl⟩
 | star a=>
   have⟨d',j,B,Y,w,Q⟩:=W;obtain rfl:d=d':=by rw[J]at B;exact ApG.inj B
   simp only[ReM.nodes]at hN hn;rw[show d.op=4 from s];refine A7.run (A7.run (DO hl X Dv zA (h1.frame (f.old.mono I)) λv5 R=>(fa Db ?_)));refine C_ (v:=A_ d.l) E_ (by rw[L.cell,K_];exact JC d) zA ?_;rw[w];refine Ae.mk (ih a zO zO (λk Z=>f.up (I k Z)) R Q) ?_;rintro _ H6 ⟨U,l,la,lc,hm,rfl,o⟩;(conv=>whnf);exact⟨(f.call U).old,l,la,lc,.star J w hm,rfl,o.lower (BF f.old)⟩
 | _ a b=>
   have⟨d',j,k,B,Y,w,V,Q,aj⟩:=W;obtain rfl:d=d':=by rw[J]at B;exact ApG.inj B
   simp only[ReM.nodes]at hN hn;rw[s];refine A7.run (A7.run (DO hl X Dv zA (h1.frame (f.old.mono I)) λv5 R=>(fa Db ?_)));refine C_ (v:=A_ d.l) E_ (by rw[L.cell,K_];exact JC d) zA ?_;rw[w];refine Ae.mk (ih a zO zO (λk Z=>f.up (I k Z)) R Q) ?_;rintro _ H6 ⟨U,l,la,lc,hm,rfl,o⟩;have ll:=hm.len;rw[<-Gf l]at o;have⟨b0,b4,e6,z⟩:=f.got U o;injection e6 with e61 _ e63
   subst e61;subst e63;refine DO hl (z.blk 0 rfl) Dv zA (h1.frame (z.old.mono I)) λv7 ak=>(fa Jt ?_);refine C_ (v:=A_ d.r) E_ (by rw[(z.blk 1 rfl).cell,K_];exact VH d) zA ?_;rw[V];refine Ae.mk (ih b zO zO (λk Z=>z.up (I k Z)) ak aj) ?_;rintro _ H8 ⟨am,m,ma,mc,D,rfl,C⟩;have ml:=D.len;rw[<-Gf m]at C;have⟨b5,b6,e8,a0⟩:=z.got am C;injection e8 with e81 _ e83
   subst e81;subst e83;clear f z;rw[<-Gf l,<-Gf m];have g:St H H8 [pS a_ 3 la (Dc l++(Dc m).take 0).length lc (Dc l++(Dc m).take 0),pS a_ 3 ma (Dc m).length mc (Dc m)]:=by
    have e:Dc l++(Dc m).take 0=Dc l:=zZ
    rw[e];exact a0.pick [2,3] zQ
   have e0:(Dc l).length=(Dc l++(Dc m).take 0).length:=zZ
   rw[e0];(conv=>whnf);refine A0.mk [6,8] (λx:Nat×Option Addr×Nat=>match x with | (t,a,c)=>[.slice a (Dc l++(Dc m).take t).length c,A_ t]) (λx G=>match x with | (t,a,c)=>t<=(Dc m).length/\St H G [pS a_ 3 a (Dc l++(Dc m).take t).length c (Dc l++(Dc m).take t),pS a_ 3 ma (Dc m).length mc (Dc m)]) (λx _=>(Dc m).length-x.1) ?_ ?_
   ·(conv=>whnf);exact⟨(0,la,lc),rfl,p_ _,g⟩
   ·clear a0 g;rintro⟨t,ta,tc⟩ H9 ao ⟨b7,g⟩;have b8:=Gf m;have b9:=Gf l;refine AB.m2 (λhz=>?_) (λhz=>?_)
    ·have⟨x,K⟩:=Ac (l:=Dc m) (k:=t) zO;have bd:0<=x/\x<65536*65536:=by
      unfold Dc at K;rw[Y']at K;obtain⟨y,hy,rfl⟩:=eE.1 K;have:=(D.at_ y (d_ hy)).2.2;omega
     refine zK (j:=t) AD g 1 rfl K rfl ?_;rintro be bf bg au a1 ⟨rfl,ap⟩;refine C_ E_ a1.one zA (Aj AD [A_ x] rfl rfl zQ zQ ?_);intro bh H11 a2 aw a3 a4;have a5:=g.skip a2 a4;refine IA (x:=x) a5 0 AD rfl a3 ⟨rfl,ap⟩ rfl (by rw[O_,wI];omega) zQ λaq ar H12 F _=>?_;(conv=>whnf);rw[R_ t zO];have a6:(Dc l++(Dc m).take t)++[x]=Dc l++(Dc m).take (t+1):=by rw[Ab K,zS]
     have el:(Dc l++(Dc m).take t).length+1=(Dc l++(Dc m).take (t+1)).length:=by rw[<-a6];simp;omega
     rw[el,a6]at F;exact⟨rfl,(t+1,aq,ar),by rw[el];rfl,⟨zO,F⟩,by simp only;omega⟩
    ·obtain rfl:t=(Dc m).length:=zO
     rw[M']at g ⊢;have e2:Dc l++Dc m=Dc (l++m):=by unfold Dc;rw[yV]
     rw[e2]at g ⊢;(conv=>whnf);refine⟨g.old,l++m,ta,tc,(by first | exact .cat J w V hm D | exact .alt J w V hm D),by rw[Gf],?_⟩;exact St.own g 0 rfl
def oR:Ty (Nat×P_) where
 size:=5
 rep S H cs x:=∃ea ec,cs= .int .i64 (x.1:Int)::s_ x.2 (.slice ea x.2.edges.length ec)/\x.2.edges.length<=33554432/\Y_ DS S H ea ec x.2.edges
 len h:=by obtain⟨ea,ec,rfl,-⟩:=h;rfl
 frame k h:=by have⟨ea,ec,h1,h2,h3⟩:=k;exact⟨ea,ec,h1,h2,h3.frame h⟩
 mono k h:=by have⟨ea,ec,h1,h2,h3⟩:=k;exact⟨ea,ec,h1,h2,h3.mono h⟩
def An6(xs:List (Nat×P_))(j:Nat)(a:P_):Prop:=∃t,xs[t]?=zY (j,a)/\∀(t':Nat) (y:Nat×P_),t'<t->xs[t']?=zY y->y.1≠j
def Bp(sub:ReM->P_):ReM->Nat->BR | .eps,n=>⟨n,n+1,2,[AK n (n+1)]⟩ | .cls t,n=>⟨n,n+1,2,[C3 n (n+1) t]⟩ | .cat a b,n=>M3 (Bp sub a n) (Bp sub b (n+(Bp sub a n).u))| .alt a b,n=>Mz n (Bp sub a (n+1)) (Bp sub b (n+1+(Bp sub a (n+1)).u))| .star a,n=>Io n (Bp sub a (n+1))| .and_ a b,n=>⟨n+(sub (.and_ a b)).start.toNat,n+(sub (.and_ a b)).fin.toNat,(sub (.and_ a b)).st.toNat,(sub (.and_ a b)).edges.map (zB n)⟩ | .minus a b,n=>⟨n+(sub (.minus a b)).start.toNat,n+(sub (.minus a b)).fin.toNat,(sub (.minus a b)).st.toNat,(sub (.minus a b)).edges.map (zB n)⟩
def QW{a:P_}(h:E8 a=zW):∃s f u:Nat,a.start=(s:Int)/\a.fin=(f:Int)/\a.st=(u:Int)/\s<u/\f<u/\u<=65536:=by obtain⟨b,c,-⟩:=Ed.1 h;have b:=P_.has_iff.1 b;have c:=P_.has_iff.1 c;exact⟨a.start.toNat,a.fin.toNat,a.st.toNat,zO,zO,zO,zO,zO,zO⟩
def Ka(sub:ReM->P_)(xs:List (Nat×P_))(l:List (ReM×Nat)):Prop:=∀x∈l,An6 xs x.2 (sub x.1)/\E8 (sub x.1)=zW/\(sub x.1).edges.length<=33554432
def Gl{sub:ReM->P_}(h:Dl ns r i l)(hs:Ka sub xs l):∀n,n<=(Bp sub r n).p/\(Bp sub r n).p<n+(Bp sub r n).u/\n<=(Bp sub r n).q/\(Bp sub r n).q<n+(Bp sub r n).u/\(Bp sub r n).u<=65536*r.nodes/\(Bp sub r n).es.length<=33554436*r.nodes:=by induction h with|eps=>intro n;simp only[Bp,ReM.nodes,c_];omega|cls=>intro n;simp only[Bp,ReM.nodes,c_];omega|@cat a b i j k d l m _ _ _ _ _ ih1 ih2=>intro n;have e:=ih1 (λx c=>hs x (yO _ c)) n;have g:=ih2 (λx c=>hs x (xX _ c)) (n+(Bp sub a n).u);simp only[Bp,M3,ReM.nodes,O_,c_,xC];omega|@alt a b i j k d l m _ _ _ _ _ ih1 ih2=>intro n;have e:=ih1 (λx c=>hs x (yO _ c)) (n+1);have g:=ih2 (λx c=>hs x (xX _ c)) (n+1+(Bp sub a (n+1)).u);simp only[Bp,Mz,ReM.nodes,O_,b_,i_,xC];omega|star _ _ _ o=>intro n;have e:=o hs (n+1);simp only[Bp,Io,ReM.nodes,O_,b_,i_,xC];omega|and_ _ | minus _=>intro n;obtain⟨-,t,v⟩:=hs _ (V_.2 rfl);have⟨s,f,u,w,e2,y,z,A,B⟩:=QW t;simp only[Bp,ReM.nodes,e_,xC,w,e2,y,O'];dsimp only at v;omega
def M9{p:Nat}(a:p<=4398046511104)(b:q<=4398046511104)(s:Bool)(t:BitVec 256):(u_.mk p q s t).Ok:=⟨BJ zO,BJ zO⟩
def FM{rest:List Pc}{bb:Nat}{a:Option Addr}{c p:Nat}(h:B_ B H0 H (pB sZ bb (rV n (.slice a es.length c))::pS DS 189 a es.length c es::rest))(i:p<=4398046511104)(l:q<=4398046511104)(E:es.length+1<=274877906944)(k:∀a' d H',B_ B H0 H' (pB sZ bb (rV n (.slice a' (es++[AK p q]).length d))::pS DS 189 a' (es++[AK p q]).length d (es++[AK p q])::rest)->K (.tuple #[]) H'):Ae prog 118 #[U_ bb,A_ p,A_ q] H K:=by
 refine Ae.mk (R:=λr H'=>r= .tuple #[]/\∃a' d,B_ B H0 H' (pB sZ bb (rV n (.slice a' (es++[AK p q]).length d))::pS DS 189 a' (es++[AK p q]).length d (es++[AK p q])::rest)) ?_ λr H' ⟨m,a',d,s⟩=>by rw[m];exact k a' d H' s
 refine Ai.of_vc func118 rfl (call118 _) (fa CS ?_);refine lT (v:=.slice a es.length c) EB ((h.blk 0 rfl).ce rfl) ?_;refine QF p q (Aj Ec (DP (AK p q)) rfl (Cc _) zQ zQ ?_);intro y H1 t w e f;have F_:=h.skip t f;refine GM (ys:=[AK p q]) F_ 1 Ec rfl (e.cells (o:=0) (cs:=DP (AK p q)) λj v x=>by rw[K_];exact x) (Ty.reps_one ⟨rfl,M9 i l _ _⟩) rfl (λu z=>yC.1 (FY _) u z) (by unfold maxLen;simp only[b_,i_];omega) (by simp only[b_,i_];omega) λA C H9 g _=>?_;refine fa CS (Bb g 0 EB rfl (zQ:3<4) rfl λH10 b=>?_);(conv=>whnf);have D:es.length+[AK p q].length=(es++[AK p q]).length:=zZ;rw[D]at b;exact⟨rfl,A,C,b⟩
abbrev uV(bb n:Nat)(a:Option Addr)(c:Nat)(es:List u_)(rest:List Pc):List Pc:=pB sZ bb (rV n (.slice a es.length c))::pS DS 189 a es.length c es::rest
def aU{bb:Nat}{Ao:Int}{sub:ReM->P_}{sc:Nat}(bi:ReV B H0 va ns Ao)(b4:Y_ oR B H0 ca sc xs)(cw:xs.length<=4194304):∀(N:Nat) (r:ReM),r.nodes<=N->∀{H:Aa} {rest:List Pc} {n i:Nat} {a:Option Addr} {c:Nat} {es:List u_} {l:List (ReM×Nat)},AO ns r i->Dl ns r i l->Ka sub xs l->
  B_ B H0 H (uV bb n a c es rest)->n+65536*r.nodes<=1099511627776->es.length+33554436*r.nodes<=137438953472->
  Ai prog 90 #[U_ bb,va,A_ i,.slice ca xs.length sc] H λu H'=>u= .tuple #[A_ ((Bp sub r n).p:Nat),A_ ((Bp sub r n).q:Nat)]/\∃a' c',B_ B H0 H' (uV bb (n+(Bp sub r n).u) a' c' (es++(Bp sub r n).es) rest):=by
 intro N
 induction N with
 | zero=>intro r h;cases r<;>simp[ReM.nodes]at h
 | succ N ih=>
 intro r hN H rest n i a c es l ht hm w st hn X;obtain⟨hl,na,nc,rfl,h1⟩:=bi;have⟨d,hd,S⟩:=ht.head;have cx:=(T_.1 hd).1;refine Ai.of_vc func90 rfl (call90 _) (BI (zR (.slice na ns.length nc) Ao) rfl ?_);intro p H1 hp K ak am;have F_:=(st.box hp K ak am).perm (xJ _ _);refine fa E2 ?_;refine lT (v:=.slice na ns.length nc) FB ((F_.blk 0 rfl).ce rfl) ?_;refine U' (i:=i) HP (h1.frame F_.old) hd rfl ?_;rintro b2 o2 c2 cy bj ⟨rfl,cz⟩;refine L_ (cs:=j_ d) (by rw[AS];exact Rd) bj zA ?_;refine Af _ rnZ OJ rfl ?_;intro x H3 hx bm bn bo;have b5:=(F_.box hx bm bn bo).perm (xJ _ _);refine AI (cs:=j_ d) b5 0 (by rw[AS];rfl) rfl (by rw[AS,Cq];decide) (D3 d) λH4 g=>?_;rw[Ar (show(j_ d).length=rnZ.length by rw[AS,Cq])]at g;replace g:B_ B H0 H4 (uV bb n a c es (pB 77 x (j_ d)::pB 32 p (zR (.slice na ns.length nc) Ao)::rest)):=g.pickN 4 [2,3,0,1] zQ;clear F_ b5 st;refine fa Ck ?_;refine lT (v:=A_ n) E_ ((g.blk 0 rfl).ce rfl) ?_;refine fa Dq ?_;refine C_ (v:=A_ d.op) E_ (by rw[(g.blk 2 rfl).cell];exact Fv d) zA ?_;have d0:=Gl hm w n;obtain⟨r0,h0⟩:∃r0,r0=r:=⟨_,rfl⟩;cases hm with
 | eps=>
   rw[show d.op=0 from S];simp only[ReM.nodes]at hn X;refine fa Ck ?_;refine lT (v:=A_ n) E_ ((g.blk 0 rfl).ce rfl) ?_;(conv=>whnf);rw[W_ (x:=(n:Int)+2) zO,show(n:Int)+2=((n+2:Nat):Int) by omega];refine fa Ck (Bb g 0 E_ rfl (zQ:0<4) rfl λH5 b=>?_);(conv=>whnf);rw[R_ n zO,show(n:Int)+1=((n+1:Nat):Int) by omega];refine FM b zO zO (by first | omega | (simp only[O_,b_,i_];omega)) λa6 c6 H6 C=>?_;(conv=>whnf);rw[R_ n zO,show(n:Int)+1=((n+1:Nat):Int) by omega];(conv=>whnf);exact⟨rfl,a6,c6,C.pickN 4 [0,1] zQ⟩
 | cls=>
   rename_i t;have b8:d.set=t:=by obtain⟨d',D,-,h⟩:=ht;rw[hd]at D;cases D;exact h
   rw[show d.op=1 from S];simp only[ReM.nodes]at hn X;refine fa Ck ?_;refine lT (v:=A_ n) E_ ((g.blk 0 rfl).ce rfl) ?_;(conv=>whnf);rw[W_ (x:=(n:Int)+2) zO,show(n:Int)+2=((n+2:Nat):Int) by omega];refine fa Ck (Bb g 0 E_ rfl (zQ:0<4) rfl λH5 b=>?_);have a2:=b.apart2 (i:=0) (j:=1) rfl rfl zQ;have U:=b.apart2 (i:=2) (j:=1) rfl rfl zQ;have ao:bb<H5.size/\¬Q_ (.slice a es.length c) bb:=⟨(b.in_ 0 rfl rfl).2,λh=>a2 bb rfl (.inl h)⟩;have bp:x<H5.size/\¬Q_ (.slice a es.length c) x:=⟨(b.in_ 2 rfl rfl).2,λh=>U x rfl (.inl h)⟩;refine Ap.heldZ (λk=>k<H5.size/\¬Q_ (.slice a es.length c) k) [15] (sq [0,1,2,3,4,5,6,7,8,9,10] (.f 11 (.f 12 (sq [13,14] (.f 15 .e))))) rfl zX (fa CS ?_);refine C_ (v:=.slice a es.length c) EB ((b.blk 0 rfl).ce rfl) ao ?_;(conv=>whnf);rw[R_ n zO,show(n:Int)+1=((n+1:Nat):Int) by omega];refine fa Tj ?_;refine L_ (cs:=AV d.set) (by rw[Bc];exact Zy) ((b.blk 2 rfl).cells λj v L=>TZ d j v L) bp ?_;(conv=>whnf);rw[b8];refine QE n (n+1) t (Aj Ec (DP (C3 n (n+1) t)) rfl (Cc _) zQ zQ ?_);intro y H6 hy bq ap V;have C:=b.skip hy V;refine⟨V.mono λk P=>by have:=P.1;omega,?_⟩;refine GM (ys:=[C3 n (n+1) t]) C 1 Ec rfl (ap.cells (o:=0) (cs:=DP (C3 n (n+1) t)) λj v L=>by rw[K_];exact L) (Ty.reps_one ⟨rfl,M9 zO zO _ _⟩) rfl (λu hu=>yC.1 (FY _) u hu) (by unfold maxLen;simp only[b_,i_];omega) (by simp only[b_,i_];omega) λa9 c9 H9 s aq=>?_;refine⟨(V.mono λk P=>by have:=P.1;omega).trans (aq.mono λk P=>⟨by have:=P.1;omega,P.2⟩),?_⟩;refine fa CS (Bb s 0 EB rfl (zQ:3<4) rfl λH10 m=>?_);(conv=>whnf);rw[R_ n zO,show(n:Int)+1=((n+1:Nat):Int) by omega];(conv=>whnf);have el:es.length+[C3 n (n+1) t].length=(es++[C3 n (n+1) t]).length:=zZ
   rw[el]at m;exact⟨rfl,a9,c9,m.pickN 4 [0,1] zQ⟩
 | @cat a' b' _ j k d' l1 l2 D hl1 hl2 hm1 hm2=>
   obtain rfl:d=d':=by rw[hd]at D;exact ApG.inj D
   have a3:AO ns a' j:=by
    obtain⟨Y,j2,k2,O,-,g1,g2,h,-⟩:=ht;rw[hd]at O;cases O;rw[hl1]at g1;have e:j=j2:=zO
    rw[e];exact h
   have ar:AO ns b' k:=by
    obtain⟨Y,j2,k2,O,-,g1,g2,-,h⟩:=ht;rw[hd]at O;cases O;rw[hl2]at g2;have e:k=k2:=zO
    rw[e];exact h
   have K:Ka sub xs l1:=λx hx=>w x (yO _ hx);have a4:Ka sub xs l2:=λx hx=>w x (xX _ hx);simp only[ReM.nodes,xC]at hN hn X;rw[show d.op=2 from S];refine L_ (cs:=zR (.slice na ns.length nc) Ao) Dv ((g.blk 3 rfl).cells λj v L=>by rw[K_];exact L) zA ?_;refine fa Db ?_;refine C_ (v:=A_ d.l) E_ (by rw[(g.blk 2 rfl).cell,K_];exact JC d) zA ?_;(conv=>whnf);rw[hl1];have i5:=Gl hm1 K (n);refine Ae.mk (ih a' zO a3 hm1 K g zO (by first | omega | (simp only[O_];omega))) ?_;rintro _ H5 ⟨rfl,a5,c5,b⟩;obtain⟨A5,Q⟩:∃A,A=Bp sub a' (n):=⟨_,rfl⟩;rw[<-Q]at i5 b ⊢;refine L_ (cs:=zR (.slice na ns.length nc) Ao) Dv ((b.blk 3 rfl).cells λj v L=>by rw[K_];exact L) zA ?_;refine fa Jt ?_;refine C_ (v:=A_ d.r) E_ (by rw[(b.blk 2 rfl).cell,K_];exact VH d) zA ?_;(conv=>whnf);rw[hl2];have i6:=Gl hm2 a4 (n+A5.u);refine Ae.mk (ih b' zO ar hm2 a4 b zO (by first | omega | (simp only[O_];omega))) ?_;rintro _ H6 ⟨rfl,a6,c6,C⟩;obtain⟨A6,ab⟩:∃A,A=Bp sub b' (n+A5.u):=⟨_,rfl⟩;rw[<-ab]at i6 C ⊢;refine FM C zO zO (by first | omega | (simp only[O_,b_,i_];omega)) λa7 c7 H7 Z=>?_;(conv=>whnf);have Y:Bp sub (.cat a' b') n=M3 A5 A6:=by simp only[Bp];rw[<-Q,<-ab]
   rw[Y];refine⟨rfl,a7,c7,?_⟩;have e2:es++A5.es++A6.es++[AK A5.q A6.p]=es++(M3 A5 A6).es:=by simp[M3]
   have e3:n+A5.u+A6.u=n+(M3 A5 A6).u:=by simp[M3];omega
   rw[e2,e3]at Z;exact Z.pickN 4 [0,1] zQ
 | @alt a' b' _ j k d' l1 l2 D hl1 hl2 hm1 hm2=>
   obtain rfl:d=d':=by rw[hd]at D;exact ApG.inj D
   have a3:AO ns a' j:=by
    obtain⟨Y,j2,k2,O,-,g1,g2,h,-⟩:=ht;rw[hd]at O;cases O;rw[hl1]at g1;have e:j=j2:=zO
    rw[e];exact h
   have ar:AO ns b' k:=by
    obtain⟨Y,j2,k2,O,-,g1,g2,-,h⟩:=ht;rw[hd]at O;cases O;rw[hl2]at g2;have e:k=k2:=zO
    rw[e];exact h
   have K:Ka sub xs l1:=λx hx=>w x (yO _ hx);have a4:Ka sub xs l2:=λx hx=>w x (xX _ hx);simp only[ReM.nodes,xC]at hN hn X;rw[show d.op=3 from S];refine fa Ck ?_;refine lT (v:=A_ n) E_ ((g.blk 0 rfl).ce rfl) ?_;(conv=>whnf);rw[W_ (x:=(n:Int)+1) zO,show(n:Int)+1=((n+1:Nat):Int) by omega];refine fa Ck (Bb g 0 E_ rfl (zQ:0<4) rfl λH45 E=>?_);refine L_ (cs:=zR (.slice na ns.length nc) Ao) Dv ((E.blk 3 rfl).cells λj v L=>by rw[K_];exact L) zA ?_;refine fa Db ?_;refine C_ (v:=A_ d.l) E_ (by rw[(E.blk 2 rfl).cell,K_];exact JC d) zA ?_;(conv=>whnf);rw[hl1];have i5:=Gl hm1 K (n+1);refine Ae.mk (ih a' zO a3 hm1 K E zO (by first | omega | (simp only[O_];omega))) ?_;rintro _ H5 ⟨rfl,a5,c5,b⟩;obtain⟨A5,Q⟩:∃A,A=Bp sub a' (n+1):=⟨_,rfl⟩;rw[<-Q]at i5 b ⊢;refine L_ (cs:=zR (.slice na ns.length nc) Ao) Dv ((b.blk 3 rfl).cells λj v L=>by rw[K_];exact L) zA ?_;refine fa Jt ?_;refine C_ (v:=A_ d.r) E_ (by rw[(b.blk 2 rfl).cell,K_];exact VH d) zA ?_;(conv=>whnf);rw[hl2];have i6:=Gl hm2 a4 (n+1+A5.u);refine Ae.mk (ih b' zO ar hm2 a4 b zO (by first | omega | (simp only[O_];omega))) ?_;rintro _ H6 ⟨rfl,a6,c6,C⟩;obtain⟨A6,ab⟩:∃A,A=Bp sub b' (n+1+A5.u):=⟨_,rfl⟩;rw[<-ab]at i6 C ⊢;refine fa Ck ?_;refine lT (v:=A_ ((n+1+A5.u+A6.u:Nat):Int)) E_ ((C.blk 0 rfl).ce rfl) ?_;refine fa Ck ?_;refine lT (v:=A_ ((n+1+A5.u+A6.u:Nat):Int)) E_ ((C.blk 0 rfl).ce rfl) ?_;(conv=>whnf);rw[W_ (x:=((n+1+A5.u+A6.u:Nat):Int)+1) zO,show((n+1+A5.u+A6.u:Nat):Int)+1=((n+1+A5.u+A6.u+1:Nat):Int) by omega];refine fa Ck (Bb C 0 E_ rfl (zQ:0<4) rfl λH7 Z=>?_);refine FM Z zO zO (by first | omega | (simp only[O_,b_,i_];omega)) λa8 c8 H8 a0=>?_;refine FM a0 zO zO (by first | omega | (simp only[O_,b_,i_];omega)) λa9 c9 H9 s=>?_;refine FM s zO zO (by first | omega | (simp only[O_,b_,i_];omega)) λbr bu H10 m=>?_;refine FM m zO zO (by first | omega | (simp only[O_,b_,i_];omega)) λau aw H11 R=>?_;(conv=>whnf);have Y:Bp sub (.alt a' b') n=Mz n A5 A6:=by simp only[Bp];rw[<-Q,<-ab]
   rw[Y];refine⟨rfl,au,aw,?_⟩;have e2:es++A5.es++A6.es++[AK n A5.p]++[AK n A6.p]++[AK A5.q (n+1+A5.u+A6.u)]++[AK A6.q (n+1+A5.u+A6.u)]=es++(Mz n A5 A6).es:=by simp[Mz]
   have e3:n+1+A5.u+A6.u+1=n+(Mz n A5 A6).u:=by simp[Mz];omega
   rw[e2,e3]at R;exact R.pickN 4 [0,1] zQ
 | @star a' _ j d' _ D hl1 hm1=>
   obtain rfl:d=d':=by rw[hd]at D;exact ApG.inj D
   have a3:AO ns a' j:=by
    obtain⟨Y,j',O,-,g1,h⟩:=ht;rw[hd]at O;cases O;rw[hl1]at g1;have e:j=j':=zO
    rw[e];exact h
   simp only[ReM.nodes,xC]at hN hn X;rw[show d.op=4 from S];refine fa Ck ?_;refine lT (v:=A_ n) E_ ((g.blk 0 rfl).ce rfl) ?_;(conv=>whnf);rw[W_ (x:=(n:Int)+1) zO,show(n:Int)+1=((n+1:Nat):Int) by omega];refine fa Ck (Bb g 0 E_ rfl (zQ:0<4) rfl λH45 E=>?_);refine L_ (cs:=zR (.slice na ns.length nc) Ao) Dv ((E.blk 3 rfl).cells λj v L=>by rw[K_];exact L) zA ?_;refine fa Db ?_;refine C_ (v:=A_ d.l) E_ (by rw[(E.blk 2 rfl).cell,K_];exact JC d) zA ?_;(conv=>whnf);rw[hl1];have i5:=Gl hm1 w (n+1);refine Ae.mk (ih a' zO a3 hm1 w E zO (by first | omega | (simp only[O_];omega))) ?_;rintro _ H5 ⟨rfl,a5,c5,b⟩;obtain⟨A5,Q⟩:∃A,A=Bp sub a' (n+1):=⟨_,rfl⟩;rw[<-Q]at i5 b ⊢;refine fa Ck ?_;refine lT (v:=A_ ((n+1+A5.u:Nat):Int)) E_ ((b.blk 0 rfl).ce rfl) ?_;refine fa Ck ?_;refine lT (v:=A_ ((n+1+A5.u:Nat):Int)) E_ ((b.blk 0 rfl).ce rfl) ?_;(conv=>whnf);rw[W_ (x:=((n+1+A5.u:Nat):Int)+1) zO,show((n+1+A5.u:Nat):Int)+1=((n+1+A5.u+1:Nat):Int) by omega];refine fa Ck (Bb b 0 E_ rfl (zQ:0<4) rfl λH7 Z=>?_);refine FM Z zO zO (by first | omega | (simp only[O_,b_,i_];omega)) λa8 c8 H8 a0=>?_;refine FM a0 zO zO (by first | omega | (simp only[O_,b_,i_];omega)) λa9 c9 H9 s=>?_;refine FM s zO zO (by first | omega | (simp only[O_,b_,i_];omega)) λbr bu H10 m=>?_;refine FM m zO zO (by first | omega | (simp only[O_,b_,i_];omega)) λau aw H11 R=>?_;(conv=>whnf);have Y:Bp sub (.star a') n=Io n A5:=by simp only[Bp];rw[<-Q]
   rw[Y];refine⟨rfl,au,aw,?_⟩;have e2:es++A5.es++[AK n A5.p]++[AK n (n+1+A5.u)]++[AK A5.q A5.p]++[AK A5.q (n+1+A5.u)]=es++(Io n A5).es:=by simp[Io]
   have e3:n+1+A5.u+1=n+(Io n A5).u:=by simp[Io];omega
   rw[e2,e3]at R;exact R.pickN 4 [0,1] zQ
 | _=>
   first | rw[show d.op=5 from S] | rw[show d.op=6 from S]
   have d1:1<=r0.nodes:=by rw[h0];simp only[ReM.nodes];omega
   rw[<-h0]at w hn X ⊢;obtain⟨⟨T,hT,M⟩,hw,bd⟩:=w _ (V_.2 rfl);dsimp only at hT M hw bd;have⟨bv,bw,ae⟩:=Ed.1 hw;have⟨s0,f0,u,ax,ay,hu,k1,k2,k3⟩:=QW hw;have Y:Bp sub r0 n=⟨n+s0,n+f0,u,(sub r0).edges.map (zB n)⟩:=by subst h0;simp only[Bp,ax,ay,hu,O']
   rw[Y];clear Y h0;generalize sub r0=A at hT M hw bd bv bw ae ax ay hu ⊢;have d2:=(T_.1 hT).1;(conv=>whnf);refine A0.mk [24] (λt:Nat=>[A_ t]) (λt G=>t<=T/\B_ B H0 G (uV bb n a c es (pB 77 x (j_ d)::pB 32 p (zR (.slice na ns.length nc) Ao)::rest))) (λt _=>T-t) ?_ ?_
   ·(conv=>whnf);exact⟨0,rfl,p_ _,g⟩
   ·clear g;rintro t H5 az ⟨d3,b⟩;have bx:zT ((t:Int)<(xs.length:Int))=zW:=t_;(conv=>whnf);rw[bx];have⟨y,hy⟩:=Ac (l:=xs) (k:=t) zO;refine U' (i:=t) Ze (b4.frame b.old) hy rfl ?_;rintro b6 o6 c6 d4 bz ⟨ea,ec,rfl,d5,d6⟩;refine fa AhC (C_ (v:=A_ (y.1:Int)) E_ (bz 0 _ rfl) zA ?_);by_cases c3:t=T
    ·subst c3;obtain rfl:y=(i,A):=by rw[hT]at hy;exact(ApG.inj hy).symm
     have dq:((i:Int)==(i:Int))=zW:=beq_self_eq_true _;(conv=>whnf);rw[dq];refine U' (i:=t) Ze (b4.frame b.old) hT rfl ?_;rintro b7 o7 c7 d7 c4 ⟨I,J,rfl,-,be⟩;refine fa AhD ?_;refine L_ (cs:=s_ A (.slice I A.edges.length J)) My (λj v L=>by have:=c4 (j+1) v L;rwa [(zO:o7+(j+1)=o7+1+j)]at this) zA ?_;refine Af _ [A_ 0,A_ 0,A_ 0,.slice zV 0 0] LG rfl ?_;intro z H8 hz cd ce cg;have a0:=(b.box hz cd ce cg).perm (xJ _ _);refine AI (cs:=s_ A (.slice I A.edges.length J)) a0 0 rfl rfl (M_ _) rfl λH9 s=>?_;rw[Ar (show(s_ A (.slice I A.edges.length J)).length=4 from rfl)]at s;replace s:B_ B H0 H9 (uV bb n a c es (pB 134 z (s_ A (.slice I A.edges.length J))::rest)):=s.pickN 5 [1,2,0] zQ;have ch:=b.old;clear b a0;refine Ap.heldZ (H_ H9) [9] (sq [0,1,2,3,4,5,6,7,8] (.f 9 .e)) rfl zX (fa Ck ?_);refine C_ (v:=A_ n) E_ ((s.blk 0 rfl).ce rfl) (s.in_ 0 rfl rfl).2 ?_;refine fa Ck ?_;refine C_ (v:=A_ u) E_ (by rw[(s.blk 2 rfl).cell,<-hu];rfl) (s.in_ 2 rfl rfl).2 ?_;(conv=>whnf);rw[W_ (x:=(n:Int)+(u:Int)) zO,show(n:Int)+(u:Int)=((n+u:Nat):Int) by omega];refine fa Ck (Bb s 0 E_ rfl (zQ:0<4) rfl λH10 m=>?_);replace m:B_ B H0 H10 (uV bb (n+u) a c (es++(A.edges.take 0).map (zB n)) (pB 134 z (s_ A (.slice I A.edges.length J))::rest)):=by
      rw[tE,uQ,yU];exact m
     clear s;(conv=>whnf);refine A0.mk [26] (λk:Nat=>[A_ k]) (λk G=>k<=A.edges.length/\∃a1 c1,B_ B H0 G (uV bb (n+u) a1 c1 (es++(A.edges.take k).map (zB n)) (pB 134 z (s_ A (.slice I A.edges.length J))::rest))) (λk _=>A.edges.length-k) ?_ ?_
     ·(conv=>whnf);exact⟨0,rfl,p_ _,a,c,m⟩
     ·clear m;rintro k G ct ⟨P,a1,c1,sg⟩;refine fa CS ?_;refine lT (v:=.slice I A.edges.length J) EB ((sg.blk 2 rfl).ce rfl) ?_;refine AB.m2 (λhz=>?_) (λhz=>?_)
      ·have⟨e,O⟩:=Ac (l:=A.edges) (k:=k) zO;have bf:e∈A.edges:=d_ O;have d8:=P_.has_iff.1 (ae e bf).1;have d9:=P_.has_iff.1 (ae e bf).2;have ah:(es++(A.edges.take k).map (zB n)).length=es.length+k:=by simp;omega
       refine fa CS ?_;refine lT (v:=.slice I A.edges.length J) EB ((sg.blk 2 rfl).ce rfl) ?_;refine U' (i:=k) Ec (be.frame (λk P=>(sg.old k P).trans (ch k P).symm)) O rfl ?_;rintro b9 o9 c9 da cj ⟨rfl,cu⟩;refine L_ (cs:=DP e) (by rw[Cc];exact XP) cj zA ?_;refine Af oL ([A_ 0,A_ 0,.bool zU]++Ao0 256 (.bool zU)) OV rfl ?_;intro y G1 ck K ak am;have bg:=(sg.box ck K ak am).perm (xJ _ _);refine AI (cs:=DP e) bg 0 (by rw[Cc];rfl) rfl (by rw[Cc];simp) (FY e) λG2 ag=>?_;rw[Ar (show(DP e).length=([Value.int .i64 0,A_ 0,.bool zU]++Ao0 256 (.bool zU):List v_).length by rw[Cc];simp)]at ag;clear bg;refine fa Ld ?_;refine lT (v:=A_ e.fr) E_ ((ag.blk 0 rfl).ce rfl) ?_;(conv=>whnf);rw[W_ (x:=e.fr+(n:Int)) zO];refine fa Ld ?_;refine Bb ag 0 E_ rfl (by rw[Cc];decide) rfl λG3 b0=>?_;refine fa HZ ?_;refine lT (v:=A_ e.to) E_ ((b0.blk 0 rfl).ce rfl) ?_;(conv=>whnf);rw[W_ (x:=e.to+(n:Int)) zO];refine fa HZ ?_;refine Bb b0 0 E_ rfl (by rw[yT,Cc];decide) rfl λG4 W=>?_;replace W:B_ B H0 G4 (pB 189 y ([A_ (e.fr+n),A_ (e.to+n),.bool e.sil]++AV e.set)::uV bb (n+u) a1 c1 (es++(A.edges.take k).map (zB n)) (pB 134 z (s_ A (.slice I A.edges.length J))::rest)):=W;clear sg ag b0;(conv=>whnf);refine A7.cut (α:=Unit) [] (λ_=>[]) (λ_ G=>B_ B H0 G (pB 189 y (DP (zB n e))::uV bb (n+u) a1 c1 (es++(A.edges.take k).map (zB n)) (pB 134 z (s_ A (.slice I A.edges.length J))::rest))) ?_ ?_
       ·refine fa OY ?_;refine lT (v:=.bool e.sil) zE ((W.blk 0 rfl).ce rfl) ?_;have cm:DP (zB n e)=[A_ (e.fr+n),A_ (e.to+n),.bool e.sil]++AV (if e.sil then 0#256 else e.set):=rfl;rw[cm];cases ai:e.sil with
        | true=>
          refine CB FT (Tryz.t75.zero.getD undef) rfl (Ao0 256 (.bool zU)) rfl (fa Ta ?_);refine AI (cs:=Ao0 256 (.bool zU)) W 0 (by rw[sL];rfl) rfl (by rw[O_,sL,Bc];exact(by decide:0+3+256<=3+256)) (by rw[List.all_replicate];rfl) λG5 F=>?_;(conv=>whnf);refine⟨rfl,(),rfl,?_⟩;rw[J_ rfl,Je];rw[ai]at F;have e3:Ah ([Value.int .i64 (e.fr+n),A_ (e.to+n),.bool zW]++AV e.set) (0+3) (Ao0 256 (.bool zU))=[A_ (e.fr+n),A_ (e.to+n),.bool zW]++Ao0 256 (.bool zU):=by
           have:=X8 (p:=[Value.int .i64 (e.fr+n),A_ (e.to+n),.bool zW]) (r:=AV e.set) (o:=3) (cs:=Ao0 256 (.bool zU)) rfl;rw[K_,this,sL,List.drop_eq_nil_of_le (by rw[Bc];exact M_ _),yU]
          rw[e3]at F;exact F
        | false=>
          (conv=>whnf);refine⟨rfl,(),rfl,?_⟩;rw[ai]at W;exact W
       ·rintro⟨⟩ G5 az F;clear W;have a2:=F.apart2 (i:=1) (j:=2) rfl rfl zQ;have U:=F.apart2 (i:=0) (j:=2) rfl rfl zQ;have ao:bb<G5.size/\¬Q_ (.slice a1 (es++(A.edges.take k).map (zB n)).length c1) bb:=⟨(F.in_ 1 rfl rfl).2,λh=>a2 bb rfl (.inl h)⟩;have co:y<G5.size/\¬Q_ (.slice a1 (es++(A.edges.take k).map (zB n)).length c1) y:=⟨(F.in_ 0 rfl rfl).2,λh=>U y rfl (.inl h)⟩;refine Ap.heldZ (λk2=>k2<G5.size/\¬Q_ (.slice a1 (es++(A.edges.take k).map (zB n)).length c1) k2) [10] (sq [0,1,2,3,4,5] (.f 6 (.f 7 (sq [8,9] (.f 10 .e))))) rfl zX (fa CS ?_);refine C_ (v:=.slice a1 (es++(A.edges.take k).map (zB n)).length c1) EB ((F.blk 1 rfl).ce rfl) ao ?_;refine L_ (cs:=DP (zB n e)) (by rw[Cc];exact XP) ((F.blk 0 rfl).cells λj v L=>by rw[K_];exact L) co ?_;refine Aj Ec (DP (zB n e)) rfl (Cc _) zQ zQ ?_;intro q G6 cp bq ap V;have cq:=F.skip cp V;refine⟨V.mono λk P=>by have:=P.1;omega,?_⟩;refine GM (ys:=[zB n e]) cq 2 Ec rfl (ap.cells (o:=0) (cs:=DP (zB n e)) λj v L=>by rw[K_];exact L) (Ty.reps_one ⟨rfl,show(zB n e).Ok from⟨⟨by show(-9223372036854775808:Int)<=e.fr+(n:Int);omega,by show e.fr+(n:Int)<=(9223372036854775807:Int);omega⟩,⟨by show(-9223372036854775808:Int)<=e.to+(n:Int);omega,by show e.to+(n:Int)<=(9223372036854775807:Int);omega⟩⟩⟩) rfl (λu hu=>yC.1 (FY _) u hu) (by unfold maxLen;rw[ah];simp only[b_,i_];omega) (by rw[ah];simp only[b_,i_];omega) λa9 c9 G9 cr aq=>?_;refine⟨(V.mono λk P=>by have:=P.1;omega).trans (aq.mono λk P=>⟨by have:=P.1;omega,P.2⟩),?_⟩;refine fa CS (Bb cr 1 EB rfl (zQ:3<4) rfl λG10 aj=>?_);have bh:(es++(A.edges.take k).map (zB n))++[zB n e]=es++(A.edges.take (k+1)).map (zB n):=by rw[sS,O];simp
        have el:(es++(A.edges.take k).map (zB n)).length+[zB n e].length=(es++(A.edges.take (k+1)).map (zB n)).length:=by rw[<-bh];simp;omega
        rw[el,bh]at aj;(conv=>whnf);rw[R_ k zO];exact⟨rfl,k+1,rfl,⟨zO,a9,c9,aj.sub (xD _ _)⟩,zO⟩
      ·obtain rfl:k=A.edges.length:=zO
       rw[uJ (M_ _)]at sg;refine Ap.lex rfl zX (fa MA ?_);refine C_ (v:=A_ s0) E_ (by rw[(sg.blk 2 rfl).cell,<-ax];rfl) zA ?_;(conv=>whnf);rw[W_ (x:=(s0:Int)+(n:Int)) zO];refine fa SW ?_;refine C_ (v:=A_ f0) E_ (by rw[(sg.blk 2 rfl).cell,<-ay];rfl) zA ?_;(conv=>whnf);rw[W_ (x:=(f0:Int)+(n:Int)) zO];(conv=>whnf);exact⟨by rw[show(s0:Int)+(n:Int)=((n+s0:Nat):Int) by omega,show(f0:Int)+(n:Int)=((n+f0:Nat):Int) by omega],a1,c1,sg.pickN 3 [0,1] zQ⟩
    ·have db:y.1≠i:=M t y zO hy;have dq:((y.1:Int)==(i:Int))=zU:=beq_eq_false_iff_ne.2 zO;(conv=>whnf);rw[dq];(conv=>whnf);rw[R_ t zO];exact⟨rfl,t+1,rfl,⟨zO,b⟩,zO⟩
end Go.Proofs.YtelngokgpnphfaaGreatDoor
