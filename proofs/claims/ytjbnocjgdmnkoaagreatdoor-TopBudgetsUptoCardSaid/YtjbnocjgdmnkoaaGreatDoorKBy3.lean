import Derived.Test.YtjbnocjgdmnkoaaGreatDoorKBy2
import Derived.Shelf.Small.Strs
import Derived.Shelf.LaysM
set_option maxHeartbeats 100000000
open BitVec renaming allOnes -> ArT
open List renaming range -> ApT, length -> AqQ
open Option renaming some -> AmN
set_option maxRecDepth 100000
open Go.Proofs.Tryz
open Go renaming Value -> v_, TypeId -> x_, Program -> w_, World -> y_
open Option renaming some -> zY, none -> zV
open Bool renaming true -> zW, false -> zU
open Decidable renaming decide -> zT
set_option linter.unusedVariables false
set_option linter.unusedSimpArgs false
set_option linter.defProp false
namespace Go.Proofs.YtjbnocjgdmnkoaaGreatDoor
variable{b c k q:Nat}{S B:Nat->Prop}{H H0:Aa}{cs:List (BitVec 256)}{e:x_}{ps:List Pc}{P:w_}{a2:Option Addr}{K:v_->Aa->Prop}{x y:Int}{by_:List Nat}{a I:Option AM}{f:Nat->Bool}{va:v_}{F:List (List Int)}
def WT{β:Type}:∀(xs:List (List β)) (q:Nat) (row z:List β),xs[q]?=zY row->((xs.set q z).map AqQ).sum+row.length=(xs.map AqQ).sum+z.length | [],q,row,z,h=>by simp at h | x::xs,0,row,z,h=>by simp only[wF,AmN.injEq]at h;subst h;simp only[List.set_cons_zero,xY,pF];omega | x::xs,q+1,row,z,h=>by rw[List.getElem?_cons_succ]at h;have:=WT xs q row z h;simp only[List.set_cons_succ,xY,pF];omega
def AdR{β:Type}{n:Nat}{a:U'->Option (Nat×β)}{l:List U'}{e:U'}{y:β}(h:a e=zY (q,y))(d:n<=q):xL n a (l++[e])=xL n a l:=by
 unfold xL;refine sO λj c=>?_;rw[List.filterMap_append];have b:q≠j:=by have:=xO.1 c;omega
 simp[h,b]
def AdS{β:Type}(n:Nat)(b:U'->Option (Nat×β))(l:List U'):∀k,k<=l.length->((xL n b (l.take k)).map AqQ).sum<=k:=by intro k;induction k with|zero=>intro _;rw[List.take_zero,QX,List.map_replicate];simp|succ k d=>{intro j;have⟨e,f⟩:=Ai (l:=l) (k:=k) zO;have:=d zO;rw[Aj f];cases c:b e with|none=>rw[F7 c];omega|some p=>have⟨q,y⟩:=p;by_cases g:q<n;{have⟨row,a⟩:=Ai (l:=xL n b (l.take k)) (k:=q) (by rw[Da];exact g);rw[NL c a];have h:=WT _ _ _ (row++[y]) a;simp only[M_,U_,i_]at h;omega};rw[AdR c zO];omega}
def CR(a:O_):List (BitVec 256):=(OL a).flatMap λr=>r.map λe=>e.set
def S5{β γ:Type}(f:β->γ):∀xs:List (List β),(xs.flatMap λr=>r.map f).length=(xs.map AqQ).sum | []=>rfl | x::xs=>by rw[vG,M_,d_,S5 f xs,xY,pF]
def CN(a:O_)(i:Nat):List (BitVec 256):=((OL a).take i).flatMap λr=>r.map λe=>e.set
def Vv(a:O_)(i:Nat):(CN a i).length<=a.edges.length:=by unfold CN;rw[S5];have b:=AdS (EK a) (Kg a) a.edges a.edges.length (I_ _);rw[yH]at b;have c:(((OL a).take i).map AqQ).sum<=((OL a).map AqQ).sum:=by{(conv=>rhs;rw[<-rE i (OL a)]);rw[xV,List.sum_append];omega};unfold OL at c ⊢;omega
noncomputable def lQ(a:O_)(budget:Nat)(H H':Aa)(r:v_):Prop:=A_ (F_ H) H H'/\
 match DZ budget (B0 a) (BH (CR a)) (E1 (Lr a))with
 | none=>r= .tuple #[.pointer zV,B_ 40]
 | some (F,rows)=>∃v,r= .tuple #[v,B_ 0]/\AS (λk=>H.size<=k/\k<H'.size) H' v (if Bt (Bg (CR a)) (rows.map Bw) F.length then zY (BE (Bg (CR a)) (rows.map Bw) (F.map λl=>zT (a.fin∈l)))else zV)
def Pd{v:v_}{a:O_}{budget:Nat}(hS:∀k,S k->k<H.size)(h:sZ S H v a)(D:Eo prog H)(am:1<=budget)(ao:budget<=4096):Am prog 108 #[v,B_ budget] H λr H'=>lQ a budget H H' r:=by
 have hr:=h.1;have hl:=h.2.1;have d1:zT ((budget:Int)<1)=zU:=j_;have d2:zT ((4096:Int)<(budget:Int))=zU:=j_;have cd:=Ry a;refine Am.of_vc func108 rfl (call108 _) (Ru h λea ec ap h1=>?_);subst ap;intro p H1 hp aq Q au;have st1:=(St.nil H).box hp aq Q au;(conv=>whnf);rw[d1];(conv=>whnf);rw[d2];refine Jl hr hl (st1.blk 0 rfl) zA (h1.frame (st1.old.mono hS)) λv2 aw=>(An.mk (AfI (λk c=>st1.up (hS k c)) aw) ?_);rintro nv H3 ⟨ay,R⟩;have U:=st1.call ay;have E:=R;have⟨nb,sa,sc,ta,tc,az,V,f,b0,K⟩:=R;subst az;refine Aq _ [.pointer zV] rfl rfl ?_;intro W H4 b4 b5 b7 b9;have u4:St H3 H4 [pB 271 W [.pointer zV]]:=(St.nil H3).box b4 b5 b7 b9;refine Bc u4 0 rfl (zQ:0<1) rfl λH5 u5=>?_;replace u5:St H3 H5 [pB 271 W [J_ nb]]:=u5;have u6:St H3 H5 [pB 271 W [J_ nb],pS Co 65 zV 0 0 []]:=u5.nils Co 65;have Y:(OL a).length=EK a:=Da _ _ _;have hT:∀i,(CN a i).length<=a.edges.length:=λi=>Vv a i;refine C_ ((u6.blk 0 rfl).cellE rfl) zA (E_ ?_);refine lT (v:=.slice ta (EK a) tc) ((f.eq (u6.old nb V)) 1 _ rfl) ?_;(conv=>whnf);refine AD.mk [7,30] (λx:Nat×Option Addr×Nat=>match x with | (i,a5,c5)=>[.slice a5 (CN a i).length c5,B_ i]) (λx H6=>x.1<=EK a/\St H3 H6 [pB 271 W [J_ nb],pS Co 65 x.2.1 (CN a x.1).length x.2.2 (CN a x.1)]) (λx _=>EK a-x.1) ?_ ?_;{(conv=>whnf);exact⟨(0,zV,0),rfl,V_ _,u6⟩};rintro⟨i,a5,c5⟩ H6 bd ⟨hi,m⟩;simp only at hi m;refine Av.m2 (λhz=>?_) (λhz=>?_);{have⟨row,G⟩:=Ai (l:=OL a) (k:=i) zO;have g:CN a (i+1)=CN a i++row.map λe=>e.set:=by{unfold CN;rw[Aj G,tF];simp};have be:=hT (i+1);rw[g,M_,d_]at be;refine I2 (i:=i) TI (K.frame m.old) Y.symm G rfl ?_;rintro b8 o8 c8 cg bf ⟨ra,rc,rfl,Z⟩;have bh:c_ yB (F_ H3) H6 ra rc row:=Z;refine lT bf.one ?_;(conv=>whnf);refine AD.mk [7,36] (λx:Nat×Option Addr×Nat=>match x with | (j,a6,c6)=>[.slice a6 (CN a i++(row.take j).map λe=>e.set).length c6,B_ j]) (λx H7=>x.1<=row.length/\St H3 H7 [pB 271 W [J_ nb],pS Co 65 x.2.1 (CN a i++(row.take x.1).map λe=>e.set).length x.2.2 (CN a i++(row.take x.1).map λe=>e.set)]) (λx _=>row.length-x.1) ?_ ?_;{(conv=>whnf);refine⟨(0,a5,c5),zZ,V_ _,?_⟩;simpa using m};rintro⟨j,a6,c6⟩ H7 bj ⟨hj,t⟩;simp only at hj t;have a0:c_ yB (F_ H3) H7 ra rc row:=NO bh m t (λk c=>c);refine Av.m2 (λbn=>?_) (λbn=>?_);{have⟨e,he⟩:=Ai (l:=row) (k:=j) zO;have bo:(CN a i++(row.take j).map λe=>e.set).length<=33554432:=by{rw[M_,d_,vL];omega};refine zP (i:=j) EO a0 he rfl ?_;rintro b6 o6 c7 ch bp ⟨rfl,ci⟩;refine K_ (cs:=zN e) bp zA (Aq _ [B_ 0,B_ 0,.bool zU,.int .u64 0,.int .u64 0,.int .u64 0,.int .u64 0] JZ rfl ?_);intro x H8 hx bq br b;have P:=t.box hx bq br b;refine AB (cs:=zN e) P 2 rfl rfl (I_ _) rfl λH9 L=>?_;rw[AA (show(zN e).length=7 from rfl)]at L;refine E_ ?_;refine K_ (cs:=Ag e.set) ((L.blk 2 rfl).cells λj v A=>Wd e j v A) zA (Az Cj (Ag e.set) rfl rfl zQ zQ ?_);intro cj H11 a8 ce a9 ab;refine JP (ys:=[e.set]) (L.skip a8 ab) 1 Cj rfl (a9.cells (o:=0) (cs:=Ag e.set) λj v A=>by rw[N_];exact A) (Ty.reps_one rfl) rfl (λu hu=>xJ.1 (show(Ag e.set).all (·.oneCell')=zW from rfl) u hu) (by unfold maxLen;simp only[U_,i_];omega) (by simp only[U_,i_];omega) λbu bv H12 ad _=>?_;have e1:(CN a i++(row.take j).map λe=>e.set)++[e.set]=CN a i++(row.take (j+1)).map λe=>e.set:=by{rw[Aj he];simp};have e2:(CN a i++(row.take j).map λe=>e.set).length+[e.set].length=(CN a i++(row.take (j+1)).map λe=>e.set).length:=by{rw[<-e1];exact M_.symm};rw[e1,e2]at ad;rw[e2];(conv=>whnf);rw[S_ j zO];exact⟨rfl,(j+1,bu,bv),zZ,⟨by simp only;omega,ad.pick [0,1] zQ⟩,by simp only;omega⟩};obtain rfl:j=row.length:=zO;rw[yH,<-g]at t;rw[yH,<-g];(conv=>whnf);rw[S_ i zO];exact⟨rfl,(i+1,a6,c6),zZ,⟨by simp only;omega,t⟩,by simp only;omega⟩};obtain rfl:i=EK a:=zO;have I:CN a (EK a)=CR a:=by unfold CN CR;rw[<-Y,yH]
 have ae:=hT (EK a);rw[I]at m ae;rw[I];have M:St H H6 [pB 225 p (yG a (.slice ea a.edges.length ec))]:=U.call m.old;have bw:=M.blk 0 rfl;have bx:=m.blk 0 rfl;have ah:∀q∈E1 (Lr a),a.has q=zW:=λq hq=>Ir a q ((EI (E9 (Ir a)) q).1 hq);have N:Eo prog H3:=D.agr U.old;have ai:MB (F_ H6) H6 (J_ nb) a:=(E.frame m.old).mono λk c=>m.up c;(conv=>whnf);refine AC.cut (α:=Unit) [12] (λ_=>[.string (yA (E1 (Lr a)))]) (λ_ H8=>A_ (F_ H6) H6 H8) ?_ ?_;{refine C_ (bx.cellE rfl) zA (E_ ?_);refine C_ (bw.cellE rfl) zA (Af (Vd (f.eq (m.old nb V))) λH8 b=>?_);have O:=M.call b;have t:=m.call b;cases B:a.has a.start with|false=>have e:E1 (Lr a)=[]:=by{rw[PF (X:=Lr a) (l:=[]) (E9 (Ir a)) List.Pairwise.nil λq=>⟨λh=>(by cases h),λh=>by{obtain⟨r,⟨-,h2⟩,-⟩:=h;rw[B]at h2;cases h2}⟩]};(conv=>whnf);refine⟨rfl,(),?_,b⟩;rw[e];rfl|true=>have bz:=O_.has_iff.1 B;refine C_ ((t.blk 0 rfl).cellE rfl) zA (E_ ?_);refine C_ ((O.blk 0 rfl).cellE rfl) zA (Az AQ [B_ a.start] rfl rfl zQ zQ ?_);intro y H9 hy c2 c3 C;have w9:St H8 H9 [pS zF 3 (k_ y) 1 1 [a.start]]:=(St.nil H8).new (T:=zF) (n:=1) (xs:=[a.start]) hy c2 c3 C (Ty.reps_one ⟨rfl,JB ⟨bz.1,zO⟩⟩) rfl (by unfold maxLen;omega);refine An.mk (VT (X:=[a.start]) w9 (λk c=>c) ((ai.frame b).mono λk c=>Ak b c) (λq hq=>by rw[Q_]at hq;subst hq;exact B) (by simp only[U_,i_];omega) hl (N.agr (t.old))) ?_;rintro _ H10 ⟨rfl,w⟩;have e:(λq=>q∈[a.start])=λq=>q=a.start/\a.has a.start=zW:=funext λq=>propext (by simp[B]);(conv=>whnf);refine⟨rfl,(),?_,b.trans (w.mono λk c=>Ak b c)⟩;rw[e];rfl};rintro⟨⟩ H8 c4 b;have O:=M.call b;have t:=m.call b;have aj:c_ Co (F_ H8) H8 a5 c5 (CR a):=t.view 1 rfl;refine An.mk (Hl (λk c=>c) aj (V' ae hl)) ?_;rintro _ H9 ⟨C,ca,cc,rfl,c9⟩;have z:=O.call C;have P:=t.call C;have ak:MB (F_ H9) H9 (J_ nb) a:=(E.frame P.old).mono λk c=>P.up c;refine An.mk (X0 (S:=F_ H9) (l0:=E1 (Lr a)) (λk c=>c) (P.in_ 0 rfl rfl).2 ((P.blk 0 rfl).cells λj v A=>by rw[N_];exact A) ak (z.in_ 0 rfl rfl).2 ((z.blk 0 rfl).cells λj v A=>by rw[N_];exact A) hl (D.agr z.old) c9 (reps_len _) ah (KL _) am ao) ?_;rintro r H10 ⟨w,d⟩;have J:=z.call w;change match DZ budget (B0 a) (BH (CR a)) (E1 (Lr a))with | none=>_ | some (F,rows)=>_ at d
 cases hd:DZ budget (B0 a) (BH (CR a)) (E1 (Lr a))with|none=>rw[hd]at d;simp only at d;subst d;(conv=>whnf);refine⟨J.old,?_⟩;rw[hd]|some q=>have⟨F,rows⟩:=q;rw[hd]at d;obtain⟨v,rfl,A⟩:=d;(conv=>whnf);refine⟨J.old,?_⟩;rw[hd];exact⟨v,rfl,A.mono λk c=>⟨V' (Ay z.old) c.1,c.2⟩⟩
section
attribute [local irreducible] Bh
def cnt(cells:List (BitVec 256))(b:Nat):Nat:=(cells.filter λx=>x.getLsbD b).length
def vJ(x:BitVec 256)(b:Nat):Nat:=if x.getLsbD b then 1 else 0
def ND(c:BitVec 256)(cs:List (BitVec 256))(b:Nat):cnt (c::cs) b=vJ c b+cnt cs b:=by unfold cnt vJ;rw[sN];split<;>simp<;>omega
def Se{a c:BitVec 256}:a &&& c=0#256↔∀b,b<256->vJ a b+vJ c b<=1:=by
 constructor;intro h b e;have d:(a &&& c).getLsbD b=zU:=by rw[h];simp
 rw[wN]at d;unfold vJ;rotate_left
 intro h;apply rC;intro b e;have d:=h b e;rw[wN];unfold vJ at d;all_goals cases f:a.getLsbD b<;>cases g:c.getLsbD b<;>simp_all
def Z1{a c:BitVec 256}(h:a &&& c=0#256)(d:b<256):vJ (a ||| c) b=vJ a b+vJ c b:=by have e:=Se.1 h b d;unfold vJ at e ⊢;rw[rS];cases f:a.getLsbD b<;>cases g:c.getLsbD b<;>simp_all
def Iw:∀(cs:List (BitVec 256)) (all:BitVec 256),(∃x,D1 all cs=zY x)↔∀b,b<256->vJ all b+cnt cs b<=1
 | [],all=>by
   simp only[D1,cnt,kM,i_];refine⟨λ_ b _=>?_,λ_=>⟨_,rfl⟩⟩;unfold vJ;split<;>omega
 | c::cs,all=>by
   simp only[D1];split
   ·rename_i h;rw[Iw cs (all ||| c)];constructor
    ·intro d b a;have:=d b a;rw[Z1 h a]at this;rw[ND];omega
    ·intro d b a;have:=d b a;rw[ND]at this;rw[Z1 h a];omega
   ·rename_i h;refine⟨λ⟨x,e⟩=>(by cases e),λd=>absurd (Se.2 λb a=>?_) h⟩;have:=d b a;rw[ND]at this;omega
def VU:(cs.any λc=>c.getLsbD b)=zW↔1<=cnt cs b:=by unfold cnt;rw[List.any_eq_true];constructor;{rintro⟨x,a,d⟩;exact eW (yS.2 ⟨a,d⟩)};intro h;have⟨x,a⟩:=List.exists_mem_of_length_pos h;exact⟨x,(yS.1 a).1,(yS.1 a).2⟩
def OF{cells:List (BitVec 256)}{next:List (List Int)}{g:Nat}:Bt cells next g=zW↔(1<=next.length/\next.length<=65536/\next.length=g)/\(∀b,b<256->cnt cells b=1)/\∀row∈next,GZ next.length cells.length row=zW:=by
 have j:∀b,vJ 0#256 b=0:=λb=>by simp[vJ]
 constructor;{intro h;have e:=DU h;unfold Bt at h;split at h;{cases h};rename_i all a;simp only[o_,beq_iff_eq,yL,xJ]at h;refine⟨⟨e.1,e.2.1,e.2.2.1⟩,λb c=>?_,h.2⟩;have f:=(Iw cells 0#256).1 ⟨all,a⟩ b c;rw[j]at f;have d:=Iv a b;rw[h.1.1.1.1,rD]at d;simp only[c,decide_true,BitVec.getLsbD_zero,Bool.false_or]at d;have k:=VU.1 d.symm;omega};rintro⟨⟨f,d,k⟩,l,m⟩;have⟨all,a⟩:=(Iw cells 0#256).2 λb c=>by rw[j,l b c];omega
 unfold Bt;rw[a];simp only[o_,beq_iff_eq,yL,xJ];refine⟨⟨⟨⟨rC λb c=>?_,f⟩,d⟩,k⟩,m⟩;rw[Iv a b,rD,VU.2 (by rw[l b c];omega)];simp[c]
def C7(cells:List (BitVec 256))(a b:Nat):Bool:=cells.all λc=>c.getLsbD a==c.getLsbD b
def AJ(cells:List (BitVec 256)):Nat->List Nat×List Nat | 0=>([],[])| b+1=>match(AJ cells b).1.findIdx? λg=>C7 cells b g with | some k=>((AJ cells b).1,(AJ cells b).2++[k])| none=>((AJ cells b).1++[b],(AJ cells b).2++[(AJ cells b).1.length])
def FU(ps:List Nat)(k:Nat)(b:Nat):Bool:=ps[b]?==zY k
structure AtOk(cells:List (BitVec 256))(b:Nat)(f ps:List Nat):Prop where
 plen:ps.length=b
 flen:f.length<=b
 lt:∀p∈ps,p<f.length
 first:∀(k g:Nat),f[k]?=zY g->g<b/\ps[g]?=zY k
 sig:∀(i p g:Nat),ps[i]?=zY p->f[p]?=zY g->C7 cells i g=zW/\g<=i
def Kq(cells:List (BitVec 256))(a:Nat):C7 cells a a=zW:=by simp[C7]
def Iq(cells:List (BitVec 256)):∀b,AtOk cells b (AJ cells b).1 (AJ cells b).2
 | 0=>⟨rfl,I_ _,(λp h=>by cases h),(λk g h=>by cases h),(λi p g h=>by cases h)⟩
 | b+1=>by
   have a:=Iq cells b;unfold AJ;split
   ·rename_i k r;rw[uT]at r;obtain⟨f,m,_⟩:=r;refine⟨by simp[a.plen],by have:=a.flen;simp only;omega,λp n=>?_,λq g c=>?_,λi p g d c=>?_⟩
    ·rcases n_.1 n with h | h
     ·exact a.lt p h
     ·rw[Q_]at h;subst h;exact f
    ·have⟨t,u⟩:=a.first q g c
     exact⟨zO,by simp only;rw[zE (by rw[a.plen];exact t)];exact u⟩
    ·simp only at d c;by_cases j:i<b
     ·rw[zE (by rw[a.plen];exact j)]at d;exact a.sig i p g d c
     ·rw[y' (by rw[a.plen];omega),a.plen]at d;have l:i-b=0:=by
       have:=(P_.1 d).1;simp only[g_]at this;omega
      rw[l,wF]at d;cases d;rw[zH f]at c;cases c;have e:i=b:=zO
      subst e;exact⟨m,by have:=(a.first _ _ (zH f)).1;omega⟩
   ·rename_i r;refine⟨by simp[a.plen],by have:=a.flen;simp;omega,λp n=>?_,λq g c=>?_,λi p g d c=>?_⟩
    ·simp only[M_,g_];rcases n_.1 n with h | h
     ·have:=a.lt p h;omega
     ·rw[Q_]at h;subst h;omega
    ·simp only at c ⊢;by_cases w:q<(AJ cells b).1.length
     ·rw[zE w]at c;have⟨t,u⟩:=a.first q g c
      exact⟨zO,by rw[zE (by rw[a.plen];exact t)];exact u⟩
     ·rw[y' zO]at c;have x:=(P_.1 c).1;simp only[g_]at x;rw[(zO:q-(AJ cells b).1.length=0),wF]at c;cases c;exact⟨zO,by rw[y' (by rw[a.plen];omega),a.plen,vZ,wF];congr 1;omega⟩
    ·simp only at d c;by_cases j:i<b
     ·rw[zE (by rw[a.plen];exact j)]at d;have n:=a.lt p (Y_ d);rw[zE n]at c;exact a.sig i p g d c
     ·rw[y' (by rw[a.plen];omega),a.plen]at d;have l:i-b=0:=by
       have:=(P_.1 d).1;simp only[g_]at this;omega
      rw[l,wF]at d;cases d;rw[y' (I_ _),vZ,wF]at c;cases c;have e:i=b:=zO
      subst e;exact⟨Kq _ _,I_ _⟩
def rM(l:List Nat):List Int:=l.map fun(n:Nat)=>(n:Int)
def aF{l:List Nat}{i n:Nat}(h:l[i]?=zY n):(rM l)[i]?=zY (n:Int):=by unfold rM;rw[I',h];rfl
def aG(l:List Nat):(rM l).length=l.length:=by simp[rM]
section
variable{cells:List (BitVec 256)}
def N7(h:(AJ cells b).1.findIdx? (λg=>C7 cells b g)=zY k):AJ cells (b+1)=((AJ cells b).1,(AJ cells b).2++[k]):=by rw[AJ,h]
def N6(h:(AJ cells b).1.findIdx? (λg=>C7 cells b g)=zV):AJ cells (b+1)=((AJ cells b).1++[b],(AJ cells b).2++[(AJ cells b).1.length]):=by rw[AJ,h]
end
end
section
attribute [local irreducible] Bh AJ
end
section
attribute [local irreducible] Bh
def DE(cells:List (BitVec 256))(next:List (List Int))(final:List Bool):Option AM:=if Bt cells next final.length then zY (BE cells next final)else zV
section
open Classical
end
end
section
attribute [local irreducible] Bh AJ
structure DM where
 cell:List Int
 reps:List Int
 next:List (List Int)
 final:List Bool
def Tx(cells:List (BitVec 256))(f:List Nat)(row:List Int):List Int:=f.map λr=>row.getD (AW cells r) 0
def Eu(cells:List (BitVec 256))(next:List (List Int))(final:List Bool):DM:=⟨rM (AJ cells 256).2,rM (AJ cells 256).1,next.map (Tx cells (AJ cells 256).1),final⟩
def I6:DM:=⟨List.replicate 256 0,[0],[[0]],[zU]⟩
def Tz(cells:List (BitVec 256))(f:List Nat)(row:List Int):(Tx cells f row).length=f.length:=by simp[Tx]
def HU(cells:List (BitVec 256))(next:List (List Int))(final:List Bool):DM:=if Bt cells next final.length then Eu cells next final else I6
structure DM.Ok(D:DM):Prop where
 n1:1<=D.next.length
 n2:D.next.length<=65536
 fl:D.final.length=D.next.length
 cell:D.cell.length=256
 rows:∀row∈D.next,row.length<=256/\(∀c∈D.cell,0<=c/\c<(row.length:Int))/\∀t∈row,0<=t/\t<(D.next.length:Int)
def M2(D:DM)(q:Int)(b:Nat):Int:=if q<0\/(D.next.length:Int)<=q then -1 else((D.next[q.toNat]?).getD []).getD (D.cell.getD b 0).toNat 0
def AiH(D:DM)(q:Int):Bool:=zT (0<=q)&&(D.final[q.toNat]?).getD zU
variable{D:DM}
def Lb{row:List Int}{t:Int}(a:D.next[q]?=zY row)(d:D.cell[b]?=zY (c:Int))(e:row[c]?=zY t):M2 D (q:Int) b=t:=by have:=(P_.1 a).1;unfold M2;rw[G_ zO];simp only[zG,a,yV,d,rI,e]
def DM.Ok.at(h:D.Ok)(f:q<D.next.length)(g:b<256):∃row c t,D.next[q]?=zY row/\D.cell[b]?=zY ((c:Nat):Int)/\row[c]?=zY t/\c<256/\0<=t/\t<(D.next.length:Int)/\t∈row:=by have⟨row,d⟩:=Ai f;have⟨j,e⟩:=Ai (l:=D.cell) (k:=b) (by rw[h.cell];exact g);have⟨r,m,n⟩:=h.rows row (Y_ d);have⟨p,u⟩:=m j (Y_ e);obtain⟨c,rfl⟩:=uF p;have⟨t,a⟩:=Ai (l:=row) (k:=c) zO;have:=n t (Y_ a);exact⟨row,c,t,d,e,a,zO,this.1,this.2,Y_ a⟩
def GJ(D:DM)(u:List Bool)(q:Nat):Prop:=u[q]?=zY zW\/∀(row:List Int) (t:Nat),D.next[q]?=zY row->(t:Int)∈row->u[t]? ≠zY zW
open Classical in
noncomputable def Q3(D:DM)(q:Int):Bool:=zT (Es D.next D.final q.toNat)
def TL(a:D.Ok){q:Int}(h0:0<=q)(k:q<D.next.length)(d:b<256):0<=M2 D q b/\M2 D q b<D.next.length:=by obtain⟨n,rfl⟩:=uF h0;obtain⟨row,c,t,e,f,g,_,h,j,_⟩:=a.at (q:=n) (b:=b) zO d;rw[Lb e f g];exact⟨h,j⟩
end
section
structure MOk2(next:List (List Int))(cells:List (BitVec 256))(b:Nat)(st:MS):Prop where
 at_:∀(i p:Nat),st.cell[i]?=zY p->∃c,st.cols[p]?=zY c/\Ey next c (AW cells i)=zW
 some_:∀p,p<st.cols.length->∃i,i<b/\st.cell[i]?=zY p
def RZ(next:List (List Int))(c:Nat):Ey next c c=zW:=by simp[Ey]
def NZ{next:List (List Int)}{cells:List (BitVec 256)}{sp:Nat->BitVec 256}(q:∀b,b<256->AW cells b<cells.length):∀b,b<=256->MOk2 next cells b (Bh next cells sp b)| 0,_=>⟨(λi p h=>by simp[Bh]at h),(λp h=>by simp[Bh]at h)⟩ | b+1,hb=>by have g:=NZ (next:=next) (sp:=sp) q b zO;have a:=Ff (next:=next) (sp:=sp) q b zO;unfold Bh Oa GA;cases r:KM next (Bh next cells sp b).cols (AW cells b)with
   | some k=>
     unfold KM at r;obtain⟨t,l,_⟩:=uT.1 r;refine⟨λi p h=>?_,λp j=>?_⟩
     ·simp only at h ⊢;by_cases d:i<b
      ·rw[zE (by rw[a.cell];exact d)]at h;exact g.at_ i p h
      ·rw[y' (by rw[a.cell];omega),a.cell]at h;have m:=(P_.1 h).1;simp only[g_]at m;rw[(zO:i-b=0),wF]at h;cases h;rw[(zO:i=b)];exact⟨_,zH t,l⟩
     ·simp only at j ⊢;have⟨i,e,f⟩:=g.some_ p j;exact⟨i,zO,by rw[zE (by rw[a.cell];exact e)];exact f⟩
   | none=>
     refine⟨λi p h=>?_,λp j=>?_⟩
     ·simp only at h ⊢;by_cases d:i<b
      ·rw[zE (by rw[a.cell];exact d)]at h;have⟨c,e,f⟩:=g.at_ i p h;exact⟨c,by rw[zE (P_.1 e).1];exact e,f⟩
      ·rw[y' (by rw[a.cell];omega),a.cell]at h;have m:=(P_.1 h).1;simp only[g_]at m;rw[(zO:i-b=0),wF]at h;cases h;rw[(zO:i=b)];exact⟨AW cells b,zZ,RZ _ _⟩
     ·simp only[M_,g_]at j ⊢;by_cases n:p<(Bh next cells sp b).cols.length
      ·have⟨i,e,f⟩:=g.some_ p n;exact⟨i,zO,by rw[zE (by rw[a.cell];exact e)];exact f⟩
      ·exact⟨b,zO,by rw[y' (by rw[a.cell];omega),a.cell,vZ,wF];congr 1;omega⟩
attribute [local irreducible] Bh AJ
def Ui{next:List (List Int)}{d:Nat}{row:List Int}(h:Ey next c d=zW)(a:row∈next):row[c]?=row[d]? :=by unfold Ey at h;simp only[wX,beq_iff_eq,xJ]at h;rcases h with h | h;{rw[h]};exact h row a
section
variable{cells:List (BitVec 256)}
def cZ{a:Nat}(h:C7 cells a b=zW):AW cells a=AW cells b:=by unfold AW;unfold C7 at h;rw[xJ]at h;induction cells with|nil=>rfl|cons c g d=>have e:c.getLsbD a=c.getLsbD b:=by{simpa using h c yN};rw[dA,dA,e,d λx f=>h x (yD _ f)]
def Ob{next:List (List Int)}{final:List Bool}{row:List Int}(j:next[q]?=zY row)(m:b<256):M2 (Eu cells next final) (q:Int) b=row.getD (AW cells b) 0:=by have a:=Iq cells 256;have⟨p,e⟩:=Ai (l:=(AJ cells 256).2) (k:=b) (by rw[a.plen];exact m);have f:=a.lt p (Y_ e);have⟨g,h⟩:=Ai f;have d:=(a.sig b p g e h).1;refine Lb (row:=Tx cells (AJ cells 256).1 row) (c:=p) (by simp only[Eu];rw[I',j];rfl) (by simp only[Eu];exact aF e) ?_;unfold Tx;rw[I',h];simp only[wB,cZ d]
end
section
variable{cells:List (BitVec 256)}{next:List (List Int)}{final:List Bool}(hs:Bt cells next final.length=zW)
include hs
def LC{row:List Int}(f:next[q]?=zY row)(d:b<256):∃g p,(BE cells next final).next[q]?=zY g/\(BE cells next final).cell[b]?=zY p/\g[p]?=zY (row.getD (AW cells b) 0):=by have h:=λb d=>(BI hs (b:=b) d).1;have m:=Ff (next:=next) (sp:=λb=>AR b b) h 256 (I_ _);have n:=NZ (next:=next) (sp:=λb=>AR b b) h 256 (I_ _);have⟨p,j⟩:=Ai (l:=(Bh next cells (λb=>AR b b) 256).cell) (k:=b) (by rw[m.cell];exact d);have⟨c,a,e⟩:=n.at_ b p j;refine⟨FG (Bh next cells (λb=>AR b b) 256).cols row,p,by simp only[BE];rw[I',f];rfl,j,?_⟩;unfold FG;rw[I',a];simp only[wB,AmN.injEq];rw[yV,yV,Ui e (Y_ f)]
def E3{row:List Int}(c:next[q]?=zY row)(d:b<256):Ao (zY (BE cells next final)) (q:Int) b=row.getD (AW cells b) 0:=by have⟨g,p,a,e,f⟩:=LC hs c d;have:=(P_.1 a).1;unfold Ao;rw[G_ (by simp[stN];omega)];simp only[zG,a,yV,e,rI,f]
def SK:(Eu cells next final).Ok:=by have⟨j,k,l,b⟩:=DU hs;have a:=Iq cells 256;refine⟨by simpa [Eu]using j,by simpa [Eu]using k,by simp[Eu,l],by simp[Eu,aG,a.plen],λrow d=>?_⟩;simp only[Eu,yT]at d;obtain⟨r,d,rfl⟩:=d;have⟨w,m⟩:=b r d;have e:=a.flen;refine⟨by rw[Tz];exact e,λc f=>?_,λt h=>?_⟩;{simp only[Eu,rM,yT]at f;obtain⟨p,n,rfl⟩:=f;have:=a.lt p n;rw[Tz];omega};unfold Tx at h;obtain⟨g,q,rfl⟩:=yT.1 h;have⟨i,u⟩:=xB q;have f:=(BI hs (a.first i g u).1).1;simp only[Eu,d_];rw[yV,zH zO,rI];exact m _ (dB _)
end
def Es.sub{b c:List (List Int)}{final:List Bool}(h:∀(q:Nat) row (t:Nat),b[q]?=zY row->(t:Int)∈row->∃a,c[q]?=zY a/\(t:Int)∈a)(d:Es b final q):Es c final q:=by induction d with|fin e=>exact .fin e|step f g _ j=>have⟨a,k,l⟩:=h _ _ _ f g;exact .step k l j
def XC{cells:List (BitVec 256)}{next:List (List Int)}{final:List Bool}(hs:Bt cells next final.length=zW)(q:Nat):Es (BE cells next final).next final q↔Es (Eu cells next final).next final q:=by
 have n:=Iq cells 256;have D:=SL hs;have z:=λb h=>(BI hs (b:=b) h).1;have E:=NZ (next:=next) (sp:=λb=>AR b b) z 256 (I_ _);constructor;{
 refine Es.sub λq r t d k=>?_;have l:q<next.length:=by have:=(P_.1 d).1;simpa [BE]using this
 have⟨row,a⟩:=Ai l;have⟨p,A⟩:=xB k;have u:=(D.rows r (Y_ d)).1;have w:p<(Bh next cells (λb=>AR b b) 256).cols.length:=by{have B:=(P_.1 A).1;have F:=Ff (next:=next) (sp:=λb=>AR b b) z 256 (I_ _);rw[u]at B;rw[F.len];exact B};have⟨b,h,e⟩:=E.some_ p w;have O:=E3 hs a h;have⟨G,H,g1,g2,m⟩:=LC hs a h;rw[d]at g1;cases g1;have:H=p:=by{have:(BE cells next final).cell[b]?=zY p:=e;rw[this]at g2;exact(AmN.inj g2).symm};subst this;rw[A]at m;have e2:=Ob (cells:=cells) (final:=final) a h;obtain⟨j,c,P,C,I,J,_,_,_,K⟩:=(SK hs).at (q:=q) (b:=b) (by simpa [Eu]using l) h;rw[Lb C I J]at e2;refine⟨j,C,?_⟩;rw[AmN.inj m,<-e2];exact K};refine Es.sub λq L t d k=>?_;have l:q<next.length:=by have:=(P_.1 d).1;simpa [Eu]using this
 have⟨row,a⟩:=Ai l;have x:L=Tx cells (AJ cells 256).1 row:=by{simp only[Eu]at d;rw[I',a]at d;exact(AmN.inj d).symm};subst x;unfold Tx at k;have⟨g,M,y⟩:=yT.1 k;have⟨i,N⟩:=xB M;have f:=(n.first i g N).1;have⟨r,p,g1,g2,m⟩:=LC hs a f;exact⟨r,g1,by rw[<-y];exact Y_ m⟩
section
variable(cells:List (BitVec 256))(next:List (List Int))(final:List Bool)
def Zi:(HU cells next final).Ok:=by unfold HU;split;{rename_i h;exact SK h};refine⟨zQ,zQ,rfl,by simp[I6],λrow a=>?_⟩;simp only[I6,Q_]at a;subst a;refine⟨zQ,λc b=>?_,λt d=>?_⟩;{simp only[I6]at b;rw[List.eq_of_mem_replicate b];decide};rw[Q_.1 d];decide
def YL:(stN (DE cells next final):Nat)=(HU cells next final).next.length:=by unfold DE HU;split;{simp[stN,BE,Eu]};rfl
def Xo(q:Int)(e:b<256):Ao (DE cells next final) q b=M2 (HU cells next final) q b:=by
 have g:=YL cells next final
 by_cases d:q<0\/((HU cells next final).next.length:Int)<=q;{unfold Ao M2;rw[H_ d,H_ (by rw[g];exact d)]};obtain⟨n,rfl⟩:=uF (zO:0<=q);unfold DE HU at*;split;{rename_i hs;rw[H_ hs]at d;have⟨row,a⟩:=Ai (l:=next) (k:=n) (by simp only[Eu,d_]at d;omega);rw[E3 hs a e,Ob (cells:=cells) (final:=final) a e]};rename_i hs;rw[G_ hs]at d;have f:n=0:=by{have:I6.next.length=1:=rfl;omega};subst f;rw[Lb (row:=[0]) (c:=0) (t:=0) rfl (by simp only[I6];rw[List.getElem?_replicate,H_ e]<;>rfl) rfl];rfl
def Us(q:Int):AL (DE cells next final) q=AiH (HU cells next final) q:=by unfold DE HU;split;{rfl};unfold AL AiH;by_cases h:q.toNat=0;{rw[h];simp[I6]};have:I6.final[q.toNat]?=zV:=yR (by show 1<=_;omega);rw[this];simp
open Classical in
def Ur(q:Int):Q4 (DE cells next final) q=Q3 (HU cells next final) q:=by unfold DE HU;split;{rename_i hs;unfold Q4 Q3;exact decide_eq_decide.2 (XC hs q.toNat)};unfold Q4 Q3;have:∀q,¬Es I6.next I6.final q:=λq a=>by{induction a with|@fin q hf=>have:q<1:=(P_.1 hf).1;have:q=0:=zO;subst this;simp[I6]at hf|step _ _ _ b=>exact b};exact(b_ (this _)).symm
end
end
section
attribute [local irreducible] Bh AJ
end
section
def By(sim:Nat->Nat->Bool):Nat->List Nat×List Nat | 0=>([],[])| b+1=>match(By sim b).1.findIdx? λg=>sim b g with | some k=>((By sim b).1,(By sim b).2++[k])| none=>((By sim b).1++[b],(By sim b).2++[(By sim b).1.length])
structure GrOk(sim:Nat->Nat->Bool)(b:Nat)(f ps:List Nat):Prop where
 plen:ps.length=b
 flen:f.length<=b
 lt:∀p∈ps,p<f.length
 first:∀(k g:Nat),f[k]?=zY g->g<b/\ps[g]?=zY k
 sig:∀(i p g:Nat),ps[i]?=zY p->f[p]?=zY g->sim i g=zW/\g<=i
def MX{f:Nat->Nat->Bool}(z:∀a,f a a=zW):∀b,GrOk f b (By f b).1 (By f b).2
 | 0=>⟨rfl,I_ _,(λp h=>by cases h),(λk g h=>by cases h),(λi p g h=>by cases h)⟩
 | b+1=>by
   have c:=MX z b;unfold By;split
   ·rename_i k u;rw[uT]at u;obtain⟨l,q,_⟩:=u;refine⟨by simp[c.plen],by have:=c.flen;simp only;omega,λp r=>?_,λt g d=>?_,λi p g e d=>?_⟩
    ·rcases n_.1 r with h | h
     ·exact c.lt p h
     ·rw[Q_]at h;subst h;exact l
    ·have⟨w,x⟩:=c.first t g d
     exact⟨zO,by simp only;rw[zE (by rw[c.plen];exact w)];exact x⟩
    ·simp only at e d;by_cases m:i<b
     ·rw[zE (by rw[c.plen];exact m)]at e;exact c.sig i p g e d
     ·rw[y' (by rw[c.plen];omega),c.plen]at e;have n:i-b=0:=by
       have:=(P_.1 e).1;simp only[g_]at this;omega
      rw[n,wF]at e;cases e;rw[zH l]at d;cases d;have j:i=b:=zO
      subst j;exact⟨q,by have:=(c.first _ _ (zH l)).1;omega⟩
   ·rename_i u;refine⟨by simp[c.plen],by have:=c.flen;simp;omega,λp r=>?_,λt g d=>?_,λi p g e d=>?_⟩
    ·simp only[M_,g_];rcases n_.1 r with h | h
     ·have:=c.lt p h;omega
     ·rw[Q_]at h;subst h;omega
    ·simp only at d ⊢;by_cases y:t<(By f b).1.length
     ·rw[zE y]at d;have⟨w,x⟩:=c.first t g d
      exact⟨zO,by rw[zE (by rw[c.plen];exact w)];exact x⟩
     ·rw[y' zO]at d;have A:=(P_.1 d).1;simp only[g_]at A;rw[(zO:t-(By f b).1.length=0),wF]at d;cases d;exact⟨zO,by rw[y' (by rw[c.plen];omega),c.plen,vZ,wF];congr 1;omega⟩
    ·simp only at e d;by_cases m:i<b
     ·rw[zE (by rw[c.plen];exact m)]at e;have r:=c.lt p (Y_ e);rw[zE r]at d;exact c.sig i p g e d
     ·rw[y' (by rw[c.plen];omega),c.plen]at e;have n:i-b=0:=by
       have:=(P_.1 e).1;simp only[g_]at this;omega
      rw[n,wF]at e;cases e;rw[y' (I_ _),vZ,wF]at d;cases d;have j:i=b:=zO
      subst j;exact⟨z _,I_ _⟩
def P4{a:Nat->Nat->Bool}(h:(By a b).1.findIdx? (λg=>a b g)=zY k):By a (b+1)=((By a b).1,(By a b).2++[k]):=by rw[By,h]
def P3{a:Nat->Nat->Bool}(h:(By a b).1.findIdx? (λg=>a b g)=zV):By a (b+1)=((By a b).1++[b],(By a b).2++[(By a b).1.length]):=by rw[By,h]
def PG{next:List (List Int)}{cells:List (BitVec 256)}(m:∀b,b<256->AW cells b<cells.length):∀b,b<=256->∀(k:Nat) (x:BitVec 256),(Bh next cells (λb=>AR b b) b).sets[k]?=zY x->∀i,i<256->x.getLsbD i=FU (Bh next cells (λb=>AR b b) b).cell k i
 | 0,_=>λk x h=>by simp[Bh]at h
 | b+1,hb=>λk x h i n=>by
   have z:=PG (next:=next) m b zO;have e:=Ff (next:=next) (sp:=λb=>AR b b) m b zO;generalize B:Bh next cells (λb=>AR b b) b=a at*
   rw[Bh,B]at h ⊢;unfold Oa at h ⊢;simp only at h ⊢;generalize g:GA next a.cols a.sets (AW cells b)=r at*
   have l:=Ri (next:=next) (f:=AW cells b) e.len e.le e.cols (m b zO);rw[g]at l;have q:r.2.2<r.2.1.length:=zO
   have hold:∀(k:Nat) (y:BitVec 256),r.2.1[k]?=zY y->y.getLsbD i=FU a.cell k i:=by
    intro k y c;unfold GA at g;cases A:KM next a.cols (AW cells b)with
    | some j=>
      rw[A]at g;subst g;exact z k y c i n
    | none=>
      rw[A]at g;subst g;simp only at c;by_cases d:k<a.sets.length
      ·rw[zE d]at c;exact z k y c i n
      ·rw[y' zO]at c;have C:=(P_.1 c).1;simp only[g_]at C;rw[(zO:k-a.sets.length=0),wF]at c;cases c;have:FU a.cell k i=zU:=by
        unfold FU;cases t:a.cell[i]? with
        | none=>rfl
        | some p=>
          have:=e.places p (Y_ t);have:=e.len;simp;omega
       rw[this];simp
   have u:∀k,FU (a.cell++[r.2.2]) k i=((zT (i=b)&&zT (k=r.2.2))|| FU a.cell k i):=by
    intro k;unfold FU;have w:=e.cell;rcases pH i b with h | h | h
    ·rw[zE zO,j_];simp
    ·subst h;rw[y' zO,w,vZ,wF,yR zO];by_cases d:k=r.2.2<;>simp[d];exact λh=>d h.symm
    ·rw[yR (by simp;omega),yR zO,j_];simp
   rw[u];by_cases d:k=r.2.2
   ·subst d;rw[List.getElem?_set_self q]at h;cases h;rw[rS,yV,zH q,rI,hold _ _ (zH q),Jr b b i n];have:(zT (b<=i)&&zT (i<=b))=zT (i=b):=by
     by_cases h:i=b
     ·subst h;simp
     ·rw[b_ h];rcases Nat.lt_or_ge i b with D | D
      ·rw[j_];rfl
      ·rw[b_ (show¬i<=b by omega)];simp
    rw[this];simp[Bool.or_comm]
   ·rw[List.getElem?_set_ne (Ne.symm d)]at h;rw[b_ d,hold k x h];simp
def HK(next:List (List Int))(cells:List (BitVec 256))(b g:Nat):Bool:=next.all λrow=>row.getD (AW cells b) 0==row.getD (AW cells g) 0
def Xk{cells:List (BitVec 256)}{next:List (List Int)}{j:Nat}(hs:Bt cells next j=zW){g:Nat}(k:b<256)(l:g<256):Ey next (AW cells g) (AW cells b)=HK next cells b g:=by
 obtain⟨_,_,_,a⟩:=DU hs;have m:=(BI hs k).1;have n:=(BI hs l).1;have d:∀row∈next,(row[AW cells g]?==row[AW cells b]?)=(row.getD (AW cells b) 0==row.getD (AW cells g) 0):=by{intro row c;have p:=(a row c).1;rw[yV,yV,zH zO,zH zO];simp only[rI];rw[rY];simp only[beq_iff_eq,AmN.injEq];exact eq_comm}
 unfold Ey HK;have e:(next.all λrow=>row[AW cells g]?==row[AW cells b]?)=next.all λrow=>row.getD (AW cells b) 0==row.getD (AW cells g) 0:=by{rw[rY,xJ,xJ];constructor;{intro h row c;rw[<-d row c];exact h row c};intro h row c;rw[d row c];exact h row c}
 rw[e];by_cases f:AW cells g=AW cells b;{rw[f];simp};have:(AW cells g==AW cells b)=zU:=by simpa using f
 rw[this];rfl
def LK(next:List (List Int))(cells:List (BitVec 256))(a:Nat):HK next cells a a=zW:=by simp[HK]
def Mg{α β:Type}(f:α->β)(p:β->Bool):∀l:List α,(l.map f).findIdx? p=l.findIdx? λa=>p (f a)| []=>rfl | a::l=>by rw[xY,vH,vH,Mg f p l]
def Gw{α:Type}{p q:α->Bool}:∀{l:List α},(∀a∈l,p a=q a)->l.findIdx? p=l.findIdx? q | [],_=>rfl | a::l,h=>by rw[vH,vH,h a yN,Gw λx b=>h x (yD _ b)]
def US{cells:List (BitVec 256)}{next:List (List Int)}{f:Nat}(hs:Bt cells next f=zW){sp:Nat->BitVec 256}:∀b,b<=256->(Bh next cells sp b).cols=(By (HK next cells) b).1.map (AW cells)/\(Bh next cells sp b).cell=(By (HK next cells) b).2
 | 0,_=>by simp[Bh,By]
 | b+1,hb=>by
   have⟨c,e⟩:=US hs (sp:=sp) b zO;have d:=MX (LK next cells) b;have h:KM next (Bh next cells sp b).cols (AW cells b)=(By (HK next cells) b).1.findIdx? λg=>HK next cells b g:=by
    unfold KM;rw[c,Mg];exact Gw λg j=>by
     have⟨k,l⟩:=xB j;exact Xk hs zO (by have:=(d.first k g l).1;omega)
   unfold Bh Oa GA;rw[h];cases a:(By (HK next cells) b).1.findIdx? λg=>HK next cells b g with
   | some k=>
     rw[P4 a];simp only;exact⟨c,by rw[e]⟩
   | none=>
     rw[P3 a];simp only;exact⟨by rw[c,xV];rfl,by rw[e,c,d_]⟩
attribute [local irreducible] Bh By
def Ye{cells:List (BitVec 256)}{next:List (List Int)}{final:List Bool}(hs:Bt cells next final.length=zW):(BE cells next final).sets.length=(By (HK next cells) 256).1.length/\ ∀(k:Nat) (x:BitVec 256),(BE cells next final).sets[k]?=zY x->∀i,i<256->x.getLsbD i=FU (By (HK next cells) 256).2 k i:=by have a:=λb c=>(BI hs (b:=b) c).1;have⟨d,e⟩:=US hs (sp:=λb=>AR b b) 256 (I_ _);have f:=Ff (next:=next) (sp:=λb=>AR b b) a 256 (I_ _);refine⟨?_,λk x g i h=>?_⟩;{simp only[BE];rw[<-f.len,d,d_]};rw[<-e];exact PG (next:=next) a 256 (I_ _) k x g i h
end
section
attribute [local irreducible] Bh By
structure CB(o:Option AM)(ls:List Nat):Prop where
 len:ls.length=(Au o).length
 up:ls.Pairwise (·<·)
 least:∀(k:Nat) (c:BitVec 256),(Au o)[k]?=zY c->∃l,ls[k]?=zY l/\l<256/\(AI c 0).1=l/\c.getLsbD l=zW
 keeps:∀(k:Nat) (c:BitVec 256) (l b:Nat),(Au o)[k]?=zY c->ls[k]?=zY l->b<256->c.getLsbD b=zW->l<=b/\∀q:Int,0<=q->q<stN o->Ao o q b=Ao o q l
 cols:∀A,o=zY A->∀k,k<A.sets.length->∃b,b<256/\A.cell[b]?=zY k
 part:∀b,b<256->∃(k:Nat) (c:BitVec 256),(Au o)[k]?=zY c/\c.getLsbD b=zW/\∀(k':Nat) (c':BitVec 256),(Au o)[k']?=zY c'->c'.getLsbD b=zW->k'=k
def Wl{d:Nat->Nat->Bool}(e:∀a,d a a=zW):∀b,(By d b).1.Pairwise (·<·)| 0=>by rw[By];exact List.Pairwise.nil | b+1=>by have f:=Wl e b;cases h:(By d b).1.findIdx? (λg=>d b g)with
   | some k=>rw[P4 h];exact f
   | none=>
     rw[P3 h];refine vW.2 ⟨f,rZ _ _,λa l c j=>?_⟩;rw[Q_]at j;subst j;have⟨k,m⟩:=xB l;exact((MX e c).first k a m).1
def SX{c:BitVec 256}{l:Nat}(a:l<256)(d:c.getLsbD l=zW)(e:∀b,b<l->c.getLsbD b=zU):(AI c 0).1=l:=by have f:((ApT 256).find? λb=>zT (0<=b)&&c.getLsbD b)=zY l:=by{rw[List.find?_range_eq_some];exact⟨by simp[d],by simpa using a,λj g=>by simp[e j g]⟩};unfold AI;rw[f]
def YY(cells:List (BitVec 256))(next:List (List Int))(final:List Bool):∃H,CB (DE cells next final) H:=by
 unfold DE;cases hs:Bt cells next final.length with|false=>refine⟨[0],rfl,rZ _ _,λk c d=>?_,λk c l b d z a m=>?_,λA a=>?_,λb a=>?_⟩;{have r:k=0:=by{have:=(P_.1 d).1;simpa [Au]using this};subst r;have:c=ArT 256:=by{simpa [Au]using d.symm};subst this;exact⟨0,rfl,zQ,SX zQ zQ (λb a=>zO),zQ⟩};{have r:k=0:=by{have:=(P_.1 d).1;simpa [Au]using this};subst r;have:l=0:=by{simpa using z.symm};subst this;refine⟨V_ _,λq O t=>?_⟩;simp only[Bool.false_eq_true,if_false]at t ⊢;simp only[stN]at t;obtain rfl:q=0:=zO;rfl};{cases a};refine⟨0,ArT 256,rfl,?_,λC F h _=>?_⟩;{rw[rD];simp[a]};have:=(P_.1 h).1;simpa [Au]using this|true=>{
 simp only[if_true];have⟨t,B⟩:=Ye hs;have u:=MX (LK next cells) 256;refine⟨(By (HK next cells) 256).1,t.symm,Wl (LK next cells) 256,λk c d=>?_,λk c l b d z a m=>?_,λA I k r=>?_,λb a=>?_⟩;{have r:k<(By (HK next cells) 256).1.length:=by{rw[<-t];exact(P_.1 d).1};have⟨g,e⟩:=Ai r;have⟨g1,g2⟩:=u.first k g e;have f:=B k c d;refine⟨g,e,g1,SX g1 (by rw[f g g1];simp[FU,g2]) (λb a=>?_),by rw[f g g1];simp[FU,g2]⟩;rw[f b zO];unfold FU;rw[beq_eq_false_iff_ne];intro w;have:=(u.sig b k g w e).2;omega};{
 rw[B k c d b a]at m;have w:(By (HK next cells) 256).2[b]?=zY k:=by simpa [FU]using m
 have⟨G,J⟩:=u.sig b k l w z;refine⟨J,λq K L=>?_⟩;obtain⟨n,rfl⟩:=uF K;have x:=(u.first k l z).1;have M:n<next.length:=by simp only[stN,BE,d_]at L;omega
 have⟨row,j⟩:=Ai M;rw[E3 hs j a,E3 hs j x];unfold HK at G;have:=xJ.1 G row (Y_ j);simpa using this};{cases I;have⟨g,e⟩:=Ai (l:=(By (HK next cells) 256).1) (k:=k) (by rw[<-t];exact r);have⟨g1,g2⟩:=u.first k g e;refine⟨g,g1,?_⟩;have N:=(US hs (sp:=λb=>AR b b) 256 (I_ _)).2;simp only[BE];rw[N];exact g2};have⟨p,w⟩:=Ai (l:=(By (HK next cells) 256).2) (k:=b) (by rw[u.plen];exact a);have D:=u.lt p (Y_ w);have⟨c,d⟩:=Ai (l:=(BE cells next final).sets) (k:=p) (by rw[t];exact D);refine⟨p,c,d,by rw[B p c d b a];simp[FU,w],λC F E y=>?_⟩;rw[B C F E b a]at y;have:(By (HK next cells) 256).2[b]?=zY C:=by simpa [FU]using y
 rw[w]at this;exact(AmN.inj this).symm}
end
def tV:Ty v_ where
 size:=1
 rep _ _ cs x:=cs=[x]
 len h:=by rw[h];rfl
 frame h _:=h
 mono h _:=h
def YC{α:Type}{T:Ty α}{a:Option Addr}{n cap:Nat}{xs:List α}{t ty by_:Nat}{z:v_}{u d:Nat}{e2:x_}{ys:List α}(m:D_ B H0 H ps)(i j:Nat)(y:SlT P t e T.size by_ z)(A:ps[i]?=zY (pS T e a n cap xs))(w:ps[j]?=zY (pS T e2 a2 u d ys))(C:0<ys.length) (D:T.Ones) (p:xs.length+ys.length<=34359738368) (hby:by_<=1024)(k:∀a' f H',D_ B H0 H' (ps.set i (pS T e a' (xs.length+ys.length) f (xs++ys)))->A_ (λk=>k<H.size/\¬R_ (.slice a n cap) k) H H'->K (.slice a' (xs.length+ys.length) f) H'):Bu P (Builtin.append_ #[t,t] ty [.slice a n cap,.slice a2 u d].toArray) H K:=by obtain⟨E,⟨J,h⟩,x⟩:=(m.at_ j w).1;have r:=m.len j w;rcases h with⟨h,F⟩ | ⟨b,c,l,h,F,G,L,M,N,I⟩;{omega};injection h with g1 g2 g3;subst g1;subst g3;refine Uj m i y A (q:=b) (o:=0) (ds:=E) (G.cells λj v g=>?_) x r (D.reps x) p hby k;rw[<-I]at g;rw[N_];rw[tP]at g;split at g;{exact g};cases g
section
attribute [local irreducible] Bh By AJ
def Lv{o:Option AM}{a:List Nat}(h:CB o a):0<(Au o).length:=by obtain⟨k,c,b,-⟩:=h.part 0 zQ;exact Nat.lt_of_le_of_lt (V_ k) (P_.1 b).1
def F1{v:v_}{o:Option AM}(h:AS S H v o):(Au o).length<=256:=by cases o with|none=>decide|some A=>obtain⟨_,_,_,a,_⟩:=h;exact a.sl
def BA(os:List (v_×Option AM)):List (BitVec 256):=os.flatMap λx=>Au x.2
def Vq{pa:Option Addr}{W:Nat}{os:List (v_×Option AM)}(G:∀k,S k->k<H.size)(hp:c_ tV S H pa W (os.map (·.1)))(ab:os.length<=16)(I:∀x∈os,AS S H x.1 x.2/\∃X,CB x.2 X):
  Am prog 92 #[.slice pa os.length W] H λv H'=>A_ (F_ H) H H'/\h_ (Dc .u8) none_ H' H.size 5 v ((BH (BA os)).map fun(b:Nat)=>(b:Int)):=by refine Am.of_vc func92 rfl (call92 _) ?_;(conv=>whnf);refine AD.mk [3,13] (λx:Nat×List (BitVec 256)×Option Addr×Nat=>match x with | (k,cs,a,c)=>[.slice a cs.length c,B_ k]) (λx H1=>x.1<=os.length/\x.2.1=BA (os.take x.1)/\x.2.1.length<=x.1*256/\St H H1 [pS Co 65 x.2.2.1 x.2.1.length x.2.2.2 x.2.1]) (λx _=>os.length-x.1) ?_ ?_;{(conv=>whnf);exact⟨(0,[],zV,0),rfl,zZ,rfl,zZ,D_.nils (St.nil H) Co 65⟩};{rintro⟨k,cs,a,c⟩ H1 Y ⟨h,m,J,st1⟩;simp only at h m J st1;refine Av.m2 (λhz=>?_) (λhz=>?_);{have⟨x,r⟩:=Ai (l:=os) (k:=k) zO;have⟨t,X,K⟩:=I x (Y_ r);have u:=Lv K;have ad:=F1 t;have d:BA (os.take (k+1))=cs++Au x.2:=by{rw[m];exact LR _ r};refine I2 (i:=k) (x:=x.1) WO (hp.frame (st1.old.mono G)) zZ (by rw[I',r];rfl) rfl ?_;rintro b2 o2 ae Z e rfl;refine C_ e.one zA (An.mk (Jb (S:=S) (λk h=>st1.up (G k h)) (t.frame (st1.old.mono G))) ?_);rintro _ H3 ⟨L,ah,M⟩;obtain⟨a3,c3,rfl,N⟩:=st1.got L M;refine YC N 0 1 Cj rfl rfl u Js zO zQ λa' O H4 P _=>?_;(conv=>whnf);rw[S_ k zO];refine⟨rfl,(k+1,cs++Au x.2,a',O),zZ,⟨by simp only;omega,d.symm,by simp only[M_];omega,?_⟩,by simp only;omega⟩;simp only[M_];exact P.pick [0] zQ};{obtain rfl:k=os.length:=zO;rw[yH]at m;have n:=st1.view 0 rfl;have ai:=reps_len cs;have hM:BH cs=(Bg cs).map λc=>(AI c 0).1:=rfl;refine An.mk (Hl (S:=F_ H1) (λk h=>h) n zO) ?_;rintro _ H5 ⟨Q,a5,c5,rfl,h5⟩;have p:=st1.call Q;rw[<-m];rw[hM];generalize Bg cs=at_ at*;(conv=>whnf);refine AD.mk [6,25] (λx:Nat×List Int×Option Addr×Nat=>match x with | (k,l,a,c)=>[.slice a l.length c,B_ k]) (λx H6=>x.1<=at_.length/\x.2.1=((at_.take x.1).map λc=>(AI c 0).1).map (fun(b:Nat)=>(b:Int))/\x.2.1.length=x.1/\St H5 H6 [pS (Dc .u8) 5 x.2.2.1 x.2.1.length x.2.2.2 x.2.1]) (λx _=>at_.length-x.1) ?_ ?_;{(conv=>whnf);exact⟨(0,[],zV,0),rfl,zZ,rfl,rfl,D_.nils (St.nil H5) (Dc .u8) 5⟩};{rintro⟨k,l,a6,c6⟩ H6 R ⟨h,F,w,f⟩;simp only at h F w f;refine Av.m2 (λT=>?_) (λT=>?_);{have⟨x,r⟩:=Ai (l:=at_) (k:=k) zO;have U:=Ch x 0;have d:((at_.take (k+1)).map λc=>(AI c 0).1).map (fun(b:Nat)=>(b:Int))=l++[((AI x 0).1:Int)]:=by{rw[F,Aj r,xV,xV];rfl};refine zP (i:=k) Cj (h5.frame f.old) r rfl ?_;rintro b7 o7 aj a0 g rfl;refine K_ (cs:=Ag x) g zA (BO f (AX 0) (Ag 0) rfl rfl λp8 H8 V=>(AB (cs:=Ag x) V 1 rfl rfl (zQ:0+4<=4) rfl λH9 q=>?_));rw[KZ]at q;refine K_ (cs:=Ag x) ((q.blk 1 rfl).cells λj v I=>by rw[N_];exact I) zA ?_;refine Af (Kk x 0 zQ H9) λH10 y=>?_;have z:=q.call y;refine Az Ct [.int .u8 ((AI x 0).1:Int)] rfl rfl zQ zQ ?_;intro ak H11 A a8 B C;have D:=z.skip A C;refine Ip D 0 Ct rfl B ⟨rfl,I1 U⟩ rfl zO zQ λa' O H12 E a9=>?_;(conv=>whnf);rw[S_ k zO];refine⟨rfl,(k+1,l++[((AI x 0).1:Int)],a',O),zZ,⟨by simp only;omega,d.symm,by simp[w],?_⟩,by simp only;omega⟩;simp only[M_,g_];exact E.pick [0] zQ};{obtain rfl:k=at_.length:=zO;rw[yH]at F;(conv=>whnf);have:=f.own 0 rfl;rw[<-F];exact⟨p.old.trans (f.old.mono λk h=>p.up h),this.lower p.size⟩}}}}
end
structure Nd where
 s:Int
 x:Int
 y:Int
deriving DecidableEq
def Nd.Ok(n:Nd):Prop:=zC .i64 n.s/\zC .i64 n.x/\zC .i64 n.y
def u_(n:Nd):v_:=.agg #[B_ n.s,B_ n.x,B_ n.y]
def e_(n:Nd):List v_:=[B_ n.s,B_ n.x,B_ n.y]
def Rq(a b:Nd)(h:u_ a=u_ b):a=b:=by have⟨s,x,y⟩:=a;have⟨f,g,j⟩:=b;simp only[u_,Value.agg.injEq,Array.mk.injEq,List.cons.injEq,Value.int.injEq,true_and,and_true]at h;have⟨c,d,e⟩:=h;subst c;subst d;subst e;rfl
def UJ(h:zC .i64 x):(Lit.int .i64 x).wf=zW:=by unfold Lit.wf;simp only[o_,yL];exact h
variable{n t:Nd}
def XJ(m:Nat)(h:n.Ok):prog.keyLits (m+2) 216 (e_ n)=zY [.int .i64 n.s,.int .i64 n.x,.int .i64 n.y]:=by have a:prog.cellsOf 216=3:=zX;have b:prog.cellsOf 3=1:=zX;simp[Program.keyLits,underlying216,underlying3,a,b,e_,UJ h.1,UJ h.2.1,UJ h.2.2]
def cH(h:n.Ok):∃l,keyOf prog 216 (u_ n)=zY l:=by
 have a:prog.keyType 216=zW:=zX;have b:prog.cellsOf 216=3:=zX;have c:(u_ n).formed prog 216=zW:=by simp[u_,Value.formed,underlying216,b]
 obtain⟨m,d⟩:∃m,prog.types.size+1=m+2:=⟨prog.types.size-1,by{have:zT (1<=prog.types.size)=zW:=zX;have:=of_decide_eq_true this;omega}⟩;refine⟨.string (keyBytes [.int .i64 n.s,.int .i64 n.x,.int .i64 n.y]),?_⟩;unfold keyOf;simp only[underlying216,a,c,Bool.and_self,if_true];rw[d,show(u_ n).cells.toList=e_ n from rfl,XJ m h];rfl
def LB:Fv prog 216 Nd.Ok u_:=Fv.ofLaw (deep_law (m:=2) zQ zX zX (by simp[underlying216])) Rq λa h=>cH h
def tNd:Ty Nd where
 size:=3
 rep _ _ cs n:=cs=e_ n
 len h:=by rw[h];rfl
 frame h _:=h
 mono h _:=h
structure Gr where
 next:Nd->Nat->List Nd
 ends:Nd->Bool
def Dx(g:Gr):List Nat->Nd->Prop | [],n=>g.ends n=zW | b::w,n=>∃t,t∈g.next n b/\Dx g w t
def DD(g:Gr)(P:Nd->Prop)(w:List Nat):Prop:=∃n,P n/\Dx g w n
def Dz(g:Gr)(P:Nd->Prop)(b:Nat):Nd->Prop:=λt=>∃n,P n/\t∈g.next n b
variable{g:Gr}
def Mq{P:Nd->Prop}{b:Nat}{w:List Nat}:DD g P (b::w)↔DD g (Dz g P b) w:=⟨λ⟨n,a,t,c,d⟩=>⟨t,⟨n,a,c⟩,d⟩,λ⟨t,⟨n,a,c⟩,d⟩=>⟨n,a,t,c,d⟩⟩
def D8:List Nat->List Nat->Prop | a::s,b::t=>a<b\/(a=b/\D8 s t)| _,_=>True
def P8:∀{s t:List Nat},s.length=t.length->D8 s t->D8 t s->s=t
 | [],[],_,_,_=>rfl
 | [],_::_,h,_,_=>by simp at h
 | _::_,[],h,_,_=>by simp at h
 | a::s,b::t,h,c,d=>by
   simp only[U_,kO]at h;rcases c with c | ⟨c,e⟩<;>rcases d with d | ⟨d,f⟩
   ·omega
   ·omega
   ·omega
   ·rw[c,P8 h e f]
def BG(w:List Nat):Prop:=∀b∈w,b<256
def CX(g:Gr)(P:Nd->Prop)(k:Nat)(w:List Nat):Prop:=w.length=k/\BG w/\DD g P w/\∀u,u.length=k->BG u->DD g P u->D8 w u
def CX.nil{P:Nd->Prop}(a:P n)(c:g.ends n=zW):CX g P 0 []:=⟨rfl,(λb d=>by cases d),⟨n,a,c⟩,λu e _ _=>by unfold D8;cases u<;>trivial⟩
def CX.cons{P:Nd->Prop}{w:List Nat}(q:b<256)(h:CX g (Dz g P b) k w)(j:∀c,c<b->∀u,u.length=k->BG u->¬DD g (Dz g P c) u):CX g P (k+1) (b::w):=by have⟨r,t,x,y⟩:=h;refine⟨by rw[U_,r],λc l=>?_,Mq.2 x,λu p m n=>?_⟩;{rcases J'.1 l with rfl | l;{exact q};exact t c l};cases u with|nil=>simp at p|cons c u=>{have f:u.length=k:=by{simpa using p};have a:BG u:=λd hd=>m d (yD _ hd);have e:=Mq.1 n;unfold D8;rcases pH b c with h | h | h;{exact .inl h};{subst h;exact .inr ⟨rfl,y u f a e⟩};exact absurd e (j c h u f a)}
def D0(g:Gr)(P:Nd->Prop)(w:List Nat):Prop:=CX g P w.length w/\∀u,BG u->DD g P u->w.length<=u.length
def D0.uniq{P:Nd->Prop}{w v:List Nat}(h:D0 g P w)(k:D0 g P v):w=v:=by obtain⟨⟨n,a,b,f⟩,j⟩:=h;obtain⟨⟨p,c,d,l⟩,m⟩:=k;have e:w.length=v.length:=Nat.le_antisymm (j v c d) (m w a b);exact P8 e (f v e.symm c d) (l w e a b)
def NU{g:Gr}{by_:List Nat}(hby:∀c,c<256->∃r∈by_,r<=c/\∀n,g.next n r=g.next n c):∀{w:List Nat} {n:Nd},BG w->Dx g w n->∃v,v.length=w.length/\(∀b∈v,b∈by_)/\Dx g v n | [],n,_,h=>⟨[],rfl,(λb a=>by cases a),h⟩ | c::w,n,a,⟨t,ht,hw⟩=>by have⟨v,e,f,j⟩:=NU hby (λd hd=>a d (yD _ hd)) hw;obtain⟨r,k,-,hs⟩:=hby c (a c yN);exact⟨r::v,by simp[e],λd hd=>by
    rcases J'.1 hd with rfl | hd
    ·exact k
    ·exact f d hd,t,by rw[hs];exact ht,j⟩
inductive BJ(g:Gr)(by_:List Nat)(a:Nd):Nd->Prop
 | refl:BJ g by_ a a
 | step {n t:Nd} {b:Nat} (h:BJ g by_ a n) (hb:b∈by_) (ht:t∈g.next n b):BJ g by_ a t
structure Dd(g:Gr)(by_:List Nat)(a:Nd)(left:Nd->Option Nat):Prop where
 ends:∀n,BJ g by_ a n->g.ends n=zW->left n=zY 0
 pred:∀n k,left n=zY k->∀p b,BJ g by_ a p->b∈by_->n∈g.next p b->∃j,j<=k+1/\left p=zY j
 word:∀n k,left n=zY k->BJ g by_ a n/\∃w,w.length=k/\(∀b∈w,b∈by_)/\Dx g w n
section
variable{g:Gr}{by_:List Nat}{a:Nd}{left:Nd->Option Nat}
def Dd.le(h:Dd g by_ a left):∀{w:List Nat} {n:Nd},BJ g by_ a n->(∀b∈w,b∈by_)->Dx g w n->∃j,j<=w.length/\left n=zY j | [],n,hr,_,hl=>⟨0,I_ _,h.ends n hr hl⟩ | b::w,n,hr,hb,⟨t,ht,hl⟩=>by have d:=hb b yN;have⟨j,l,e⟩:=Dd.le h (hr.step d ht) (λc k=>hb c (yD _ k)) hl;have⟨i,m,f⟩:=h.pred t j e n b hr d ht;exact⟨i,by rw[U_];omega,f⟩
variable(hby:∀c,c<256->∃r∈by_,r<=c/\∀n,g.next n r=g.next n c)
include hby
def Dd.bytes(h:Dd g by_ a left){w:List Nat}{n:Nd}(b:BJ g by_ a n)(c:BG w)(d:Dx g w n):∃j,j<=w.length/\left n=zY j:=by have⟨v,e,f,k⟩:=NU hby c d;rw[<-e];exact h.le b f k
def Dd.fwd(h:Dd g by_ a left)(l:∀b∈by_,b<256){P:Nd->Prop}{k b:Nat}(q:∀n,P n->left n=zY (k+1))(x:b∈by_):(∃u,u.length=k/\BG u/\DD g (Dz g P b) u)↔∃t,Dz g P b t/\left t=zY k:=by have y:∀t,Dz g P b t->BJ g by_ a t:=λt ⟨n,m,f⟩=>(h.word n _ (q n m)).1.step x f;constructor;{rintro⟨u,E,r,t,f,z⟩;have⟨j,F,d⟩:=h.bytes hby (y t f) r z;have⟨n,m,p⟩:=f;have⟨i,G,e⟩:=h.pred t j d n b (h.word n _ (q n m)).1 x p;rw[q n m]at e;injection e with e;have:j=k:=zO;exact⟨t,⟨n,m,p⟩,this ▸ d⟩};rintro⟨t,f,d⟩;obtain⟨-,w,A,B,C⟩:=h.word t k d;exact⟨w,A,λc D=>l c (B c D),t,f,C⟩
def Dd.first(h:Dd g by_ a left){k:Nat}{w:List Nat}(d:left a=zY k)(e:CX g (·=a) k w):D0 g (·=a) w:=by have⟨f,l,m,p⟩:=e;subst f;refine⟨⟨rfl,l,m,p⟩,λu q c=>?_⟩;obtain⟨n,rfl,r⟩:=c;have⟨j,t,b⟩:=h.bytes hby .refl q r;rw[d]at b;injection b with b;omega
def Dd.none(h:Dd g by_ a left)(c:left a=zV):∀u,BG u->¬DD g (·=a) u:=by rintro u d ⟨n,rfl,e⟩;obtain⟨j,-,b⟩:=h.bytes hby .refl d e;rw[c]at b;cases b
end
def MN(g:Gr)(by_:List Nat)(a n:Nd)(left:Nd->Option Nat)(k:Nat):Prop:=∀p b,BJ g by_ a p->b∈by_->n∈g.next p b->∃j,j<=k+1/\left p=zY j
structure Qt(g:Gr)(by_:List Nat)(a:Nd)(left:Nd->Option Nat)(todo:List Nd)(k:Nat):Prop where
 ends:∀n,BJ g by_ a n->g.ends n=zW->left n=zY 0
 word:∀n j,left n=zY j->BJ g by_ a n/\∃w,w.length=j/\(∀b∈w,b∈by_)/\Dx g w n
 q:∀n∈todo,∃j,left n=zY j/\k<=j
 up:∀n j,left n=zY j->j<=k+1
 sorted:todo.Pairwise λn p=>∀i j,left n=zY i->left p=zY j->i<=j
 done:∀n j,left n=zY j->n∉todo->MN g by_ a n left j
structure OZ(g:Gr)(by_:List Nat)(a:Nd)(left:Nd->Option Nat)(todo:List Nd)(n:Nd)(k:Nat)(d:Nd->Prop):Prop where
 ends:∀n,BJ g by_ a n->g.ends n=zW->left n=zY 0
 word:∀n j,left n=zY j->BJ g by_ a n/\∃w,w.length=j/\(∀b∈w,b∈by_)/\Dx g w n
 here:left n=zY k
 q:∀n∈todo,∃j,left n=zY j/\k<=j
 up:∀n j,left n=zY j->j<=k+1
 sorted:todo.Pairwise λn p=>∀i j,left n=zY i->left p=zY j->i<=j
 done:∀m j,left m=zY j->m∉todo->m≠n->MN g by_ a m left j
 now:∀p,d p->∃j,j<=k+1/\left p=zY j
section
variable{a:Nd}{left:Nd->Option Nat}
def Qt.end_(h:Qt g by_ a left [] k):Dd g by_ a left:=⟨h.ends,λn j b=>h.done n j b zZ,h.word⟩
def Qt.take{todo:List Nd}(h:Qt g by_ a left (n::todo) k):∃j,left n=zY j/\OZ g by_ a left todo n j λ_=>False:=by have⟨j,d,l⟩:=h.q n yN;have⟨r,t⟩:=vE.1 h.sorted;refine⟨j,d,h.ends,h.word,d,λm c=>?_,λm i b=>by have:=h.up m i b;omega,t,λm i b c e=>h.done m i b λf=>?_,λp u=>u.elim⟩;{obtain⟨i,b,-⟩:=h.q m (yD _ c);exact⟨i,b,r m c j i d b⟩};rcases J'.1 f with h | h;{exact e h};exact c h
end
variable{d:Nd->Prop}
section
variable{a p:Nd}{left:Nd->Option Nat}{todo:List Nd}
def OZ.skip(h:OZ g by_ a left todo n k d)(e:(left p).isSome=zW):OZ g by_ a left todo n k λx=>d x\/x=p:=by refine⟨h.ends,h.word,h.here,h.q,h.up,h.sorted,h.done,λx b=>?_⟩;rcases b with b | rfl;{exact h.now x b};have⟨j,c⟩:=Option.isSome_iff_exists.1 e;exact⟨j,h.up _ j c,c⟩
def OZ.push{left':Nd->Option Nat}(h:OZ g by_ a left todo n k d)(K:left p=zV)(L:BJ g by_ a p)(M:b∈by_)(N:n∈g.next p b)(D:∀m,left' m=if m=p then zY (k+1)else left m):OZ g by_ a left' (todo++[p]) n k λx=>d x\/x=p:=by
 have old:∀m j,left m=zY j->left' m=zY j:=λm j f=>by
  rw[D,G_ (λe=>by rw[e,K]at f;cases f)];exact f
 have y:left' p=zY (k+1):=by rw[D,H_ rfl]
 have new:∀m j,left' m=zY j->(m=p/\j=k+1)\/left m=zY j:=λm j f=>by
  rw[D]at f;split at f
  ·rename_i e;injection f with f;exact .inl ⟨e,f.symm⟩
  ·exact .inr f
 have O:∀m j,MN g by_ a m left j->MN g by_ a m left' j:=λm j l q c z A E=>by
  have⟨i,B,P⟩:=l q c z A E;exact⟨i,B,old q i P⟩
 refine⟨λm z A=>old m 0 (h.ends m z A),λm j f=>?_,old n k h.here,λm l=>?_,λm j f=>?_,?_,λm j f l F=>?_,λx G=>?_⟩
 ·rcases new m j f with⟨rfl,rfl⟩ | f
  ·obtain⟨-,w,z,A,E⟩:=h.word n k h.here;exact⟨L,b::w,by simp[z],λc H=>by
    rcases J'.1 H with rfl | H
    ·exact M
    ·exact A c H,n,N,E⟩
  ·exact h.word m j f
 ·rcases n_.1 l with l | l
  ·have⟨j,f,Q⟩:=h.q m l;exact⟨j,old m j f,Q⟩
  ·rw[Q_]at l;subst l;exact⟨k+1,y,zO⟩
 ·rcases new m j f with⟨-,rfl⟩ | f
  ·exact I_ _
  ·exact h.up m j f
 ·refine vW.2 ⟨?_,rZ _ _,λm l m' r i j B f=>?_⟩
  ·refine(List.Pairwise.and_mem.1 h.sorted).imp fun{m m'} I i j B f=>?_;have⟨l,r,hs⟩:=I;obtain⟨J,t,-⟩:=h.q m l;obtain⟨R,C,-⟩:=h.q m' r;have u:=old m J t;have e2:=old m' R C;rw[B]at u;rw[f]at e2;injection u with u;injection e2 with e2
   subst u;subst e2;exact hs i j t C
  ·rw[Q_]at r;subst r;rw[y]at f;injection f with f
   subst f;obtain⟨J,t,-⟩:=h.q m l;have u:=old m J t;rw[B]at u;injection u with u
   subst u;exact h.up m i t
 ·rcases new m j f with⟨rfl,rfl⟩ | f
  ·exact absurd (n_.2 (.inr (Q_.2 rfl))) l
  ·exact O m j (h.done m j f (λr=>l (n_.2 (.inl r))) F)
 ·rcases G with G | rfl
  ·have⟨j,z,A⟩:=h.now x G;exact⟨j,z,old x j A⟩
  ·exact⟨k+1,I_ _,y⟩
end
section
variable{a:Nd}{left:Nd->Option Nat}{todo:List Nd}
def OZ.end_(h:OZ g by_ a left todo n k d)(c:∀p b,BJ g by_ a p->b∈by_->n∈g.next p b->d p):Qt g by_ a left todo k:=by refine⟨h.ends,h.word,h.q,h.up,h.sorted,λm j e l=>?_⟩;by_cases f:m=n;{subst f;rw[h.here]at e;injection e with e;subst e;exact λp b r t u=>h.now p (c p b r t u)};exact h.done m j e l f
def Qt.start(f:∀n,left n=if n∈todo then zY 0 else zV)(k:∀n,n∈todo↔BJ g by_ a n/\g.ends n=zW):Qt g by_ a left todo 0:=by have e:∀n j,left n=zY j->n∈todo/\j=0:=λn j c=>by{rw[f]at c;split at c;{rename_i h;injection c with c;exact⟨h,c.symm⟩};cases c};refine⟨λn l m=>by rw[f,H_ ((k n).2 ⟨l,m⟩)],λn j c=>?_,λn d=>⟨0,by rw[f,H_ d],I_ _⟩,λn j c=>by rw[(e n j c).2];omega,List.pairwise_of_forall λn p i j q c=>by rw[(e n i q).2];omega,λn j c d=>absurd (e n j c).1 d⟩;obtain⟨d,rfl⟩:=e n j c;exact⟨((k n).1 d).1,[],rfl,(λb r=>by cases r),((k n).1 d).2⟩
end
structure N0(g:Gr)(by_:List Nat)(a:Nd)(order:List Nd)(bk:Nd->Nd->Prop)(d:Nd->Nat->Nd->Prop):Prop where
 first:order[0]?=zY a
 nodup:order.Nodup
 reach:∀n∈order,BJ g by_ a n
 back:∀t p,bk t p->BJ g by_ a p/\∃b,b∈by_/\t∈g.next p b
 done:∀n b t,d n b t->t∈order/\bk t n
variable{bk:Nd->Nd->Prop}
def N0.see{a:Nd}{order:List Nd}{bk':Nd->Nd->Prop}{d:Nd->Nat->Nd->Prop}(h:N0 g by_ a order bk d)(w:n∈order)(z:b∈by_)(A:t∈g.next n b)(l:∀x p,bk' x p↔bk x p\/(x=t/\p=n)):∀f,(t∈order/\f=order)\/(t∉order/\f=order++[t])->N0 g by_ a f bk' λm c x=>d m c x\/(m=n/\c=b/\x=t):=by intro f k;have sub:∀x,x∈order->x∈f:=λx j=>by{rcases k with⟨-,rfl⟩ | ⟨-,rfl⟩;{exact j};exact n_.2 (.inl j)};have q:t∈f:=by{rcases k with⟨h,rfl⟩ | ⟨-,rfl⟩;{exact h};simp};refine⟨?_,?_,λx j=>?_,λx p r=>?_,λm c x j=>?_⟩;{rcases k with⟨-,rfl⟩ | ⟨-,rfl⟩;{exact h.first};rw[zE (P_.1 h.first).1];exact h.first};{rcases k with⟨-,rfl⟩ | ⟨u,rfl⟩;{exact h.nodup};refine rG.2 ⟨h.nodup,zZ,λx j y B=>?_⟩;rw[Q_]at B;subst B;exact λe=>u (e ▸ j)};{rcases k with⟨-,rfl⟩ | ⟨-,rfl⟩;{exact h.reach x j};rcases n_.1 j with j | j;{exact h.reach x j};rw[Q_]at j;subst j;exact(h.reach n w).step z A};{rcases(l x p).1 r with r | ⟨rfl,rfl⟩;{exact h.back x p r};exact⟨h.reach p w,b,z,A⟩};rcases j with j | ⟨rfl,rfl,rfl⟩;{have⟨C,D⟩:=h.done m c x j;exact⟨sub x C,(l x m).2 (.inl D)⟩};exact⟨q,(l x m).2 (.inr ⟨rfl,rfl⟩)⟩
variable{d':Nd->Nat->Nd->Prop}
section
variable{a:Nd}{order:List Nd}{d:Nd->Nat->Nd->Prop}
def N0.weak(h:N0 g by_ a order bk d)(k:∀n b t,d' n b t->d n b t):N0 g by_ a order bk d':=⟨h.first,h.nodup,h.reach,h.back,λn b t hd=>h.done n b t (k n b t hd)⟩
def N0.all(h:N0 g by_ a order bk d)(c:∀n b t,n∈order->b∈by_->t∈g.next n b->d n b t):(∀n,n∈order↔BJ g by_ a n)/\∀t p,bk t p↔BJ g by_ a p/\∃b,b∈by_/\t∈g.next p b:=by have e:∀n,BJ g by_ a n->n∈order:=λn k=>by{induction k with|refl=>exact Y_ h.first|step q f j l=>exact(h.done _ _ _ (c _ _ _ l f j)).1};exact⟨λn=>⟨h.reach n,e n⟩,λt p=>⟨h.back t p,λ⟨m,b,f,j⟩=>(h.done p b t (c p b t (e p m) f j)).2⟩⟩
end
def GS:∀u:List Nat,D8 u u | []=>by unfold D8;trivial | a::u=>by unfold D8;exact .inr ⟨rfl,GS u⟩
def NY:∀{u v w:List Nat},u.length=v.length->v.length=w.length->D8 u v->D8 v w->D8 u w
 | [],_,_,_,_,_,_=>by unfold D8;trivial
 | a::u,[],_,h,_,_,_=>by simp at h
 | a::u,b::v,[],_,h,_,_=>by simp at h
 | a::u,b::v,c::w,h1,h2,d,e=>by
   simp only[U_,kO]at h1 h2;unfold D8 at d e ⊢;rcases d with d | ⟨rfl,d⟩<;>rcases e with e | ⟨rfl,e⟩
   ·exact .inl (Nat.lt_trans d e)
   ·exact .inl d
   ·exact .inl e
   ·exact .inr ⟨rfl,NY h1 h2 d e⟩
def PB:∀{u v:List Nat} (b:Nat),u.length=v.length->D8 u v->D8 (u++[b]) (v++[b])
 | [],[],b,_,_=>GS _
 | [],_::_,_,h,_=>by simp at h
 | _::_,[],_,h,_=>by simp at h
 | a::u,c::v,b,h,d=>by
   unfold D8 at d;show D8 (a::(u++[b])) (c::(v++[b]));unfold D8;rcases d with d | ⟨rfl,d⟩
   ·exact .inl d
   ·exact .inr ⟨rfl,PB b (by simpa using h) d⟩
def To(g:Gr):List Nat->Nd->Nd->Prop | [],n,t=>n=t | b::w,n,t=>∃m,m∈g.next n b/\To g w m t
def Nq{g:Gr}{b:Nat}{t:Nd}:∀{w:List Nat} {n:Nd},To g (w++[b]) n t↔∃m,To g w n m/\t∈g.next m b
 | [],n=>by
   constructor
   ·rintro⟨m,a,h⟩;obtain rfl:m=t:=h;exact⟨n,rfl,a⟩
   ·rintro⟨m,h,f⟩;obtain rfl:n=m:=h;exact⟨t,f,rfl⟩
 | c::w,n=>by
   constructor
   ·rintro⟨m,a,h⟩;have⟨p,d,e⟩:=Nq.1 h;exact⟨p,⟨m,a,d⟩,e⟩
   ·rintro⟨p,⟨m,a,d⟩,e⟩;exact⟨m,a,Nq.2 ⟨p,d,e⟩⟩
def I3{g:Gr}:∀{w:List Nat} {n:Nd},Dx g w n↔∃t,To g w n t/\g.ends t=zW
 | [],n=>⟨λh=>⟨n,rfl,h⟩,λ⟨t,h,k⟩=>by obtain rfl:n=t:=h;exact k⟩
 | b::w,n=>by
   constructor
   ·rintro⟨m,a,h⟩;have⟨t,c,d⟩:=I3.1 h;exact⟨t,⟨m,a,c⟩,d⟩
   ·rintro⟨t,⟨m,a,c⟩,d⟩;exact⟨m,a,I3.2 ⟨t,c,d⟩⟩
def TW{g:Gr}{by_:List Nat}{a t:Nd}:∀{w:List Nat} {n:Nd},BJ g by_ a n->(∀b∈w,b∈by_)->To g w n t->BJ g by_ a t
 | [],n,hr,_,h=>by obtain rfl:n=t:=h;exact hr
 | b::w,n,hr,hb,⟨m,hm,h⟩=>TW (hr.step (hb b yN) hm) (λc d=>hb c (yD _ d)) h
def Kh{g:Gr}{by_:List Nat}(hby:∀c,c<256->∃r∈by_,r<=c/\∀n,g.next n r=g.next n c):∀{w:List Nat} {n:Nd},BG w->Dx g w n->∃v,v.length=w.length/\(∀b∈v,b∈by_)/\Dx g v n/\D8 v w
 | [],n,_,h=>⟨[],rfl,(λb a=>by cases a),h,GS _⟩
 | c::w,n,a,⟨t,ht,hw⟩=>by
   have⟨v,f,j,k,l⟩:=Kh hby (λd hd=>a d (yD _ hd)) hw;have⟨r,m,e,hs⟩:=hby c (a c yN);refine⟨r::v,by simp[f],λd hd=>?_,⟨t,by rw[hs];exact ht,k⟩,?_⟩
   ·rcases J'.1 hd with rfl | hd
    ·exact m
    ·exact j d hd
   ·unfold D8;rcases tT e with h | h
    ·exact .inl h
    ·exact .inr ⟨h,l⟩
abbrev NW:=Nd×List Nat
section
variable{g:Gr}{by_:List Nat}{a n t:Nd}{L:Nat}{F F':List NW}{d d':Nd->List Nat->Prop}{w:List Nat}{r:Bool}
variable(hby:∀c,c<256->∃r∈by_,r<=c/\∀n,g.next n r=g.next n c)
include hby
end
def O8(o:Option AM)(w:List Nat)(q:Int):Int:=w.foldl (λq b=>Ao o q b) q
def Ha(o:Option AM)(c:Nat)(w:List Nat)(q:Int):O8 o (c::w) q=O8 o w (Ao o q c):=rfl
def accL(o:Option AM)(w:List Nat):Bool:=AL o (O8 o w 0)
def AP:Nd:=⟨0,0,0⟩
def FC(a b:Option AM):Gr:=⟨λn c=>[⟨0,Ao a n.x c,Ao b n.y c⟩],λn=>AL a n.x&&AL b n.y⟩
def BQ(a b:Option AM)(n:Nd)(c:Nat):List Nd:=if n.s=0 then⟨0,Ao a n.x c,0⟩::(if AL a n.x then [⟨1,Ao b 0 c,Ao a n.x c⟩]else [])
 else if n.s=1 then⟨1,Ao b n.x c,Ao a n.y c⟩::(if AL a n.y then [⟨2,Ao b n.x c,Ao b 0 c⟩]else [])
 else [⟨2,Ao b n.x c,Ao b n.y c⟩]
def C3(a b:Option AM)(n:Nd):Bool:=if n.s=1 then AL b n.x&&AL a n.y&&AL b 0 else if n.s=2 then AL b n.x&&AL b n.y else zU
def Gs(a b:Option AM):Gr:=⟨BQ a b,C3 a b⟩
def Xg(a b:Option AM)(w:List Nat)(x:Int)(i:Nat):Prop:=AL a (O8 a (w.take i) x)=zW/\AL b (O8 b (w.drop i) 0)=zW
section
variable{b:Option AM}
def IZ:t∈(Gs a b).next ⟨0,x,y⟩ c↔t=⟨0,Ao a x c,0⟩\/(AL a x=zW/\t=⟨1,Ao b 0 c,Ao a x c⟩):=by show t∈BQ a b ⟨0,x,y⟩ c↔_;unfold BQ;rw[H_ rfl,J'];cases h:AL a x<;>simp
def Ja:t∈(Gs a b).next ⟨1,x,y⟩ c↔t=⟨1,Ao b x c,Ao a y c⟩\/(AL a y=zW/\t=⟨2,Ao b x c,Ao b 0 c⟩):=by show t∈BQ a b ⟨1,x,y⟩ c↔_;unfold BQ;rw[G_ (show¬(1:Int)=0 by decide),H_ rfl,J'];cases h:AL a y<;>simp
def Lu:t∈(Gs a b).next ⟨2,x,y⟩ c↔t=⟨2,Ao b x c,Ao b y c⟩:=by show t∈BQ a b ⟨2,x,y⟩ c↔_;unfold BQ;rw[G_ (show¬(2:Int)=0 by decide),G_ (show¬(2:Int)=1 by decide),Q_]
end
def JS{a b:Option AM}:∀(w:List Nat) (x y:Int),Dx (Gs a b) w ⟨2,x,y⟩↔AL b (O8 b w x)=zW/\AL b (O8 b w y)=zW
 | [],x,y=>by
   show C3 a b ⟨2,x,y⟩=zW↔_;unfold C3;rw[G_ (show¬(2:Int)=1 by decide),H_ rfl,o_]<;>rfl
 | c::w,x,y=>by
   rw[Ha,Ha,<-JS w];constructor
   ·rintro⟨t,d,h⟩;obtain rfl:=Lu.1 d;exact h
   ·exact λh=>⟨_,Lu.2 rfl,h⟩
def Hh{a b:Option AM}:∀(w:List Nat) (x y:Int),Dx (Gs a b) w ⟨1,x,y⟩↔AL b (O8 b w x)=zW/\∃j,j<=w.length/\Xg a b w y j
 | [],x,y=>by
   show C3 a b ⟨1,x,y⟩=zW↔_;unfold C3;rw[H_ rfl,o_,o_];constructor
   ·rintro⟨⟨e,d⟩,g⟩;exact⟨e,0,I_ _,d,g⟩
   ·rintro⟨e,j,f,d⟩;obtain rfl:j=0:=by simpa using f
    exact⟨⟨e,d.1⟩,d.2⟩
 | c::w,x,y=>by
   rw[Ha];constructor
   ·rintro⟨t,k,h⟩;rcases Ja.1 k with rfl | ⟨l,rfl⟩
    ·have⟨e,j,f,d⟩:=(Hh w _ _).1 h;exact⟨e,j+1,by simpa using f,d⟩
    ·have⟨e,d⟩:=(JS w _ _).1 h;exact⟨e,0,V_ _,l,d⟩
   ·rintro⟨e,j,f,d⟩;cases j with
    | zero=>exact⟨_,Ja.2 (.inr ⟨d.1,rfl⟩),(JS w _ _).2 ⟨e,d.2⟩⟩
    | succ j=>exact⟨_,Ja.2 (.inl rfl),(Hh w _ _).2 ⟨e,j,by simpa using f,d⟩⟩
def JR{a b:Option AM}:∀(w:List Nat) (x y:Int),Dx (Gs a b) w ⟨0,x,y⟩↔∃i j,i<j/\j<=w.length/\Xg a b w x i/\Xg a b w x j
 | [],x,y=>by
   show C3 a b ⟨0,x,y⟩=zW↔_;unfold C3;rw[G_ (show¬(0:Int)=1 by decide),G_ (show¬(0:Int)=2 by decide)];constructor
   ·exact λh=>by cases h
   ·rintro⟨i,j,f,d,-⟩;simp at d;omega
 | c::w,x,y=>by
   constructor
   ·rintro⟨t,l,h⟩;rcases IZ.1 l with rfl | ⟨m,rfl⟩
    ·have⟨i,j,f,d,e,g⟩:=(JR w _ _).1 h;exact⟨i+1,j+1,zO,by simpa using d,e,g⟩
    ·have⟨f,j,n,d⟩:=(Hh w _ _).1 h;exact⟨0,j+1,zO,by simpa using n,⟨m,f⟩,d⟩
   ·rintro⟨i,j,f,d,e,g⟩;obtain⟨j,rfl⟩:∃k,j=k+1:=⟨j-1,zO⟩;cases i with
    | zero=>exact⟨_,IZ.2 (.inr ⟨e.1,rfl⟩),(Hh w _ _).2 ⟨e.2,j,by simpa using d,g⟩⟩
    | succ i=>exact⟨_,IZ.2 (.inl rfl),(JR w _ _).2 ⟨i,j,zO,by simpa using d,e,g⟩⟩
def YV(a b:Option AM)(w:List Nat):Dx (Gs a b) w AP↔∃i j,i<j/\j<=w.length/\Xg a b w 0 i/\Xg a b w 0 j:=JR w 0 0
def Dj(a:Option AM)(q:Int)(c:Nat):List Int:=Ao a q c::(if AL a q then [Ao a 0 c]else [])
def BL(a:Option AM)(n:Nd)(c:Nat):List Nd:=if n.s=0 then⟨0,Ao a n.x c,0⟩::(if AL a n.x then [⟨1,Ao a 0 c,Ao a n.x c⟩]else [])
 else(Dj a n.x c).flatMap λx=>(Dj a n.y c).map λy=>⟨1,x,y⟩
def GP(a:Option AM)(n:Nd):Bool:=n.s==1&&AL a n.x&&AL a n.y
def FY(a:Option AM):Gr:=⟨BL a,GP a⟩
def XE{q:Int}{t:Int}:t∈Dj a q c↔t=Ao a q c\/(AL a q=zW/\t=Ao a 0 c):=by unfold Dj;rw[J'];cases h:AL a q<;>simp
def UK:t∈(FY a).next ⟨0,x,y⟩ c↔t=⟨0,Ao a x c,0⟩\/(AL a x=zW/\t=⟨1,Ao a 0 c,Ao a x c⟩):=by show t∈BL a ⟨0,x,y⟩ c↔_;unfold BL;rw[H_ rfl,J'];cases h:AL a x<;>simp
def UL:t∈(FY a).next ⟨1,x,y⟩ c↔∃p∈Dj a x c,∃q∈Dj a y c,t=⟨1,p,q⟩:=by
 show t∈BL a ⟨1,x,y⟩ c↔_;unfold BL;rw[G_ (show¬(1:Int)=0 by decide),uS];simp only[yT];constructor;rotate_left
 all_goals rintro⟨p,b,q,d,e⟩;exact⟨p,b,q,d,e.symm⟩
def D_.mqNil{α β:Type}{Ok:α->Prop}{enc:α->v_}{T:Ty β}{m:α->Option v_}(f:D_ B H0 H ps)(i:Nat)(g:ps[i]?=zY (yZ Ok enc b m))(d:∀a,Ep m a= .slice zV 0 0):D_ B H0 H (ps.set i (vK Ok enc T e b m λ_=>[])):=by refine f.upd i g (A_.refl _ _) _ ⟨f.mapW i g,λa=>by rw[d];exact h_.nil,λa a' k _ c=>?_,λa c=>?_⟩ (λk c=>?_) (λk c=>?_) (I_ _);{rw[d]at c;exact absurd c Ng};{rw[d]at c;exact Ng c};{rcases c with c | ⟨a,c⟩;{exact .inl c};rw[d]at c;exact absurd c Ng};rcases c with c | ⟨a,c⟩;{exact(f.in_ i g c).2};rw[d]at c;exact absurd c Ng
def AhP{H':Aa}(h:A_ S H H')(a:S k)(b:k<H.size):k<H'.size:=by have e:=h k a;rw[Array.getElem?_eq_getElem b]at e;exact(Array.getElem?_eq_some_iff.1 e).1
def D_.apart{p q:Pc}(b:D_ B H0 H ps){i j:Nat}(a:i<j)(c:ps[i]?=zY p)(d:ps[j]?=zY q):Dis p q:=by have⟨e,f⟩:=P_.1 c;have⟨g,h⟩:=P_.1 d;have:=xT.1 b.dis i j e g a;rwa [f,h]at this
def jF{β:Type}{T:Ty β}{xs:List β}{x:β}{n cap:Nat}{a:Option Addr}{t by_ j:Nat}{z:v_}{k:IntKind}{d:Int}{H2:Aa}{K:v_->Prop}(m:SlT P t e T.size by_ z)(f:D_ B H0 H ps)(i:Nat)(g:ps[i]?=zY (pS T e a n cap xs))(l:xs[j]?=zY x) (p:d=(j:Int)) (q:∀b o c,R_ (.slice a n cap) b->F_ H b->AO H b o c->T.rep (F_ H) H c x->K (.pointer (zY ⟨b,o,zV⟩))):A8 P (Instr.indexAt t (.slice a n cap) (.int k d)) S H2 K:=by have h:=f.view i g;have y:=f.len i g;obtain⟨b,o,c,rfl,r,u,w⟩:=h.get l;subst p;have A:=(P_.1 l).1;exact ix m zO zO (by simpa using q b _ c ⟨_,_,_,rfl⟩ r u w)
def nA:D4 prog 251 216 217 (.slice zV 0 0):=⟨rfl,rfl⟩
def Pf:D4 prog 254 216 3 (.int .i64 0):=⟨rfl,rfl⟩
def RB:AP.Ok:=⟨CF (x:=0) zQ,CF (x:=0) zQ,CF (x:=0) zQ⟩
def CM:(prog.info? 216).bind (·.zero)=zY (u_ AP):=zX
structure FR(g:Gr)(by_:List Nat)(M C:Nat):Prop where
 byl:∀b∈by_,b<256
 nb:by_.length<=256
 ok:∀n,BJ g by_ AP n->n.Ok
 card:∀l:List Nd,l.Nodup->(∀n∈l,BJ g by_ AP n)->l.length<=M
 occ:∀n b t,BJ g by_ AP n->b∈by_->(g.next n b).count t<=C
 c0:1<=C
 big:C*(256*M)<=5864062014805
structure Nu(S:Nat->Prop)(H:Aa)(v:v_)(g:Gr)(by_:List Nat):Prop where
 out:∃(pg:Nat) (ba:Option Addr) (bc:Nat) (f e:FuncId) (fs cs es ds:List v_),v= J_ pg/\S pg/\
  L_ H pg 214 [.slice ba by_.length bc,.func (.func f) fs.toArray cs.toArray,.func (.func e) es.toArray ds.toArray]/\c_ (Dc .u8) S H ba bc (by_.map fun(b:Nat)=>(b:Int))/\
  (∀H',A_ S H H'->∀n b,BJ g by_ AP n->b∈by_->Am prog f (fs++[u_ n,.int .u8 (b:Int)]++cs).toArray H' λv H''=>A_ (F_ H') H' H''/\h_ tNd none_ H'' H'.size 216 v (g.next n b))/\
  (∀H',A_ S H H'->∀n,BJ g by_ AP n->AT prog e (es++[u_ n]++ds).toArray H' (.bool (g.ends n)))
def HL(n t:Nd):As (e_ n) 0 (e_ t)=e_ t:=rfl
variable{l:List Nd}
def U5(j:Nat):(l.take j).count t<=l.count t:=by
 conv=>rhs;rw[<-rE j l,kL]
 omega
def U0{j:Nat}(h:l[j]?=zY t):(l.take j).count t+1<=l.count t:=by have:=U5 (l:=l) (t:=t) (j+1);rw[Aj h,kL,eV]at this;omega
def AjJ{i nb M:Nat}(b:i<M)(d:k<nb)(a:nb<=256):i*nb+k+1<=256*M:=by have c:(i+1)*nb<=M*nb:=vM _ b;have e:M*nb<=M*256:=pO _ a;rw[Nat.succ_mul]at c;omega
def AfH{v:v_}{M C:Nat}(hS:∀k,S k->k<H.size)(hg:FR g by_ M C)(O:Nu S H v g by_):
  Am prog 128 #[v] H λv H'=>∃(a:Option Addr) (c:Nat) (order:List Nd) (mb:Nat) (m:Nd->Option v_) (xs:Nd->List Nd),v= .tuple #[.slice a order.length c,.map (zY mb)]/\
   St H H' [pS tNd 216 a order.length c order,vK Nd.Ok u_ tNd 216 mb m xs]/\order.Nodup/\(∀n,n∈order↔BJ g by_ AP n)/\∀t p,p∈xs t↔BJ g by_ AP p/\∃b,b∈by_/\t∈g.next p b:=by
 obtain⟨pg,ba,bc,f,e,fs,cs,es,ds,rfl,am,ad,hby,ao,d1⟩:=O;have d2:=hg.nb;have e3:=hg.big;have d3:=hg.c0;have eb:256*M<=C*(256*M):=dD _ d3;refine Am.of_vc func128 rfl (call128 _) (Ad underlying216 rfl (u_ AP) CM (e_ AP) rfl (BO (St.nil H) (u_ AP) (e_ AP) CM rfl λp1 H1 st1=>(AB (cs:=e_ AP) st1 0 rfl rfl (zQ:0+3<=3) rfl λH2 bf=>?_)));rw[HL]at bf;refine I5 (Ok:=Nd.Ok) (enc:=u_) λmb H3 d4 d5 d6 d7=>?_;have bh:=bf.mapNewW d4 d5 d6 d7;have q3:=bh.blk 0 rfl;refine K_ (cs:=e_ AP) (q3.cells λj v O=>by rw[N_];exact O) zA ?_;refine GB (a:=AP) bh 1 nA LB RB rfl rfl λH4 d8=>?_;have d9:∀a,Ep (put (λ_=>zV) AP (zY (.slice zV 0 0))) a= .slice zV 0 0:=λa=>by
  by_cases h:a=AP
  ·subst h;rw[OE]
  ·rw[RG h];rfl
 have da:∀t,(put (λ_=>zV) AP (zY (.slice zV 0 0)) t:Option v_).isSome=zW↔t∈[AP]:=λt=>by
  rw[Q_];by_cases h:t=AP
  ·subst h;rw[BU];simp
  ·rw[D3 h];simp[h]
 generalize put (λ_=>zV) AP (zY (Value.slice zV 0 0))=m0 at*;have bj:=d8.mqNil (T:=tNd) (e:=216) 1 rfl d9;have q5:=bj.blk 0 rfl;refine K_ (cs:=e_ AP) (q5.cells λj v O=>by rw[N_];exact O) zA ?_;refine Az Cy (e_ AP) rfl rfl zQ zQ ?_;intro b6 H6 db dc de df;have dg:=(bj.new (T:=tNd) (n:=1) (xs:=[AP]) db dc de df (Ty.reps_one rfl) rfl zQ).pick [2,1] zQ;(conv=>whnf);refine AD.mk [6,7] (λx:Nat×List Nd×Option Addr×Nat=>match x with | (i,order,a,c)=>[.slice a order.length c,B_ i])
  (λx H7=>x.1<=x.2.1.length/\∃m xs,N0 g by_ AP x.2.1 (λt p=>p∈xs t) (λn b t=>n∈x.2.1.take x.1/\b∈by_/\t∈g.next n b)/\(∀t,(m t).isSome=zW↔t∈x.2.1)/\(∀t,(xs t).length<=C*(x.1*by_.length))/\
   St H H7 [pS tNd 216 x.2.2.1 x.2.1.length x.2.2.2 x.2.1,vK Nd.Ok u_ tNd 216 mb m xs]) (λx _=>M-x.1) ?_ ?_
 ·(conv=>whnf);refine⟨(0,[AP],zY ⟨b6,0,zV⟩,1),rfl,zZ,m0,λ_=>[],⟨rfl,zZ,λn hn=>?_,λt p hp=>(by cases hp),λn b t h=>(by simp at h)⟩,da,zZ,dg⟩;rw[Q_]at hn;subst hn;exact .refl
 ·rintro⟨i,order,a7,c7⟩ H7 dh ⟨hi,m7,bn,y,bo,bp,a0⟩;simp only at hi y bo bp a0;have di:=hg.card order y.nodup y.reach;refine Av.m2 (λhz=>?_) (λhz=>?_)
  ·have⟨n,hn⟩:=Ai (l:=order) (k:=i) zO;have ap:=Y_ hn;have aq:=y.reach n ap;have q7:=ad.agr (a0.old.mono hS) am;refine fa ?_;refine lT (q7.cellE rfl) ?_;(conv=>whnf);refine AD.mk [6,31] (λx:Nat×List Nd×Option Addr×Nat=>match x with | (k,order,a,c)=>[.slice a order.length c,B_ k])
    (λx H8=>x.1<=by_.length/\x.2.1[i]?=zY n/\∃m xs,N0 g by_ AP x.2.1 (λt p=>p∈xs t) (λR b t=>(R∈x.2.1.take i/\b∈by_/\t∈g.next R b)\/(R=n/\b∈by_.take x.1/\t∈g.next n b))/\(∀t,(m t).isSome=zW↔t∈x.2.1)/\(∀t,(xs t).length<=C*(i*by_.length+x.1))/\
     St H H8 [pS tNd 216 x.2.2.1 x.2.1.length x.2.2.2 x.2.1,vK Nd.Ok u_ tNd 216 mb m xs]) (λx _=>by_.length-x.1) ?_ ?_
   ·(conv=>whnf);exact⟨(0,order,a7,c7),rfl,zZ,hn,m7,bn,y.weak λR b t h=>by simpa using h,bo,by simpa using bp,a0⟩
   ·rintro⟨k,E,a8,c8⟩ H8 dj ⟨G,U,m8,bq,w,au,V,I⟩;simp only at G U w au V I;have cy:=hg.card E w.nodup w.reach;have e4:=(P_.1 U).1;refine Av.m2 (λdk=>?_) (λdk=>?_)
    ·have⟨b,hb⟩:=Ai (l:=by_) (k:=k) zO;have z:=Y_ hb;have ec:=hg.byl b z;have hP:=AjJ (i:=i) (k:=k) (M:=M) (nb:=by_.length) zO zO d2;have dl:C*(i*by_.length+k+1)<=C*(256*M):=pO _ hP;rw[Nat.mul_succ]at dl;refine I2 (i:=k) (x:=(b:Int)) Ct (hby.frame (I.old.mono hS)) zZ (by rw[I',hb];rfl) rfl ?_;rintro b9 o9 ed ee dm ⟨rfl,-⟩;refine C_ dm.one zA (Ap.held (F_ H8) 99 (sq [0,1,2,3,4,5,6,7,8,11] (.f 9 (sq [10] .e))) rfl zX ?_);have q8:=ad.agr (I.old.mono hS) am;refine fa ?_;refine C_ (q8.cellE rfl) (I.up (hS pg am)) (xM (j:=i) Cy I 0 rfl U rfl λef eg e5 br bu bv=>?_);obtain rfl:=bv;refine K_ (cs:=e_ n) bu br (An.mk (ao H8 (I.old.mono hS) n b aq z) ?_);rintro _ H9 ⟨bw,aw⟩;refine⟨bw,?_⟩;obtain⟨a9,c9,rfl,dp⟩:=I.got bw aw;have ae:=λt=>hg.occ n b t aq z;have ay:∀t,t∈g.next n b->t.Ok:=λt ht=>hg.ok t (aq.step z ht)
     generalize bx:g.next n b=Z at*
     (conv=>whnf);refine AD.mk [6,46] (λx:Nat×List Nd×Option Addr×Nat=>match x with | (j,order,a,c)=>[.slice a order.length c,B_ j])
      (λx H10=>x.1<=Z.length/\x.2.1[i]?=zY n/\∃m xs,N0 g by_ AP x.2.1 (λt p=>p∈xs t) (λR b' t=>((R∈x.2.1.take i/\b'∈by_/\t∈g.next R b')\/(R=n/\b'∈by_.take k/\t∈g.next n b'))\/(R=n/\b'=b/\t∈Z.take x.1))/\(∀t,(m t).isSome=zW↔t∈x.2.1)/\(∀t,(xs t).length<=C*(i*by_.length+k)+(Z.take x.1).count t)/\
       St H H10 [pS tNd 216 x.2.2.1 x.2.1.length x.2.2.2 x.2.1,vK Nd.Ok u_ tNd 216 mb m xs,pS tNd 216 a9 Z.length c9 Z]) (λx _=>Z.length-x.1) ?_ ?_
     ·(conv=>whnf);exact⟨(0,E,a8,c8),rfl,zZ,U,m8,bq,w.weak λR b t h=>by simpa using h,au,by simpa using V,dp⟩
     ·rintro⟨j,d,bz,c2⟩ H10 cz ⟨hj,D,W,A,r,J,B,K⟩;simp only at hj D r J B K;have c3:=hg.card d r.nodup r.reach;have az:=(P_.1 D).1;refine Av.m2 (λdq=>?_) (λdq=>?_)
      ·have⟨t,ht⟩:=Ai (l:=Z) (k:=j) zO;have F:=Y_ ht;have c4:=K.max 2 rfl;unfold maxLen at c4;have eh:=U0 ht;have ei:=ae t;refine xM (j:=j) Cy K 2 rfl ht rfl λej ek e6 e7 c5 c6=>?_;obtain rfl:=c6;refine K_ (cs:=e_ t) c5 zA (BO K (u_ AP) (e_ AP) CM rfl λdr H12 cd=>(AB (cs:=e_ t) cd 3 rfl rfl (zQ:0+3<=3) rfl λH13 L=>?_));rw[HL]at L;have ce:=L.blk 3 rfl;(conv=>whnf);refine AC.cut [6] (λx:List Nd×Option Addr×Nat=>match x with | (order,a,c)=>[.slice a order.length c])
        (λx H14=>((t∈d/\x.1=d)\/(t∉d/\x.1=d++[t]))/\St H H14 [pS tNd 216 x.2.1 x.1.length x.2.2 x.1,vK Nd.Ok u_ tNd 216 mb W A,pS tNd 216 a9 Z.length c9 Z,pB 216 dr (e_ t)]) ?_ ?_
       ·refine K_ (cs:=e_ t) (ce.cells λj v O=>by rw[N_];exact O) zA ?_;refine FD (S:=λ_=>True) (a:=t) nA LB (ay t F) (L.mqMap 1 rfl) zA ?_;by_cases ab:t∈d
        ·rw[(J t).2 ab];(conv=>whnf);exact⟨rfl,(d,bz,c2),rfl,.inl ⟨ab,rfl⟩,L⟩
        ·have dt:(W t).isSome=zU:=by
          cases h:(W t).isSome with
          | false=>rfl
          | true=>exact absurd ((J t).1 h) ab
         rw[dt];refine K_ (cs:=e_ t) (ce.cells λj v O=>by rw[N_];exact O) zA ?_;refine Az Cy (e_ t) rfl rfl zQ zQ ?_;intro b0 H14 cg e8 ch ci;have u:=L.skip cg ci;refine JP (ys:=[t]) (ds:=e_ t) u 0 Cy rfl (ch.cells λj v O=>by rw[N_];exact O) (Ty.reps_one rfl) rfl (by simp[e_,Value.oneCell']) (by simp only[g_,maxLen];omega) (by simp only[g_];omega) λa' c' H15 ah _=>?_;(conv=>whnf);refine⟨rfl,(d++[t],a',c'),zZ,.inr ⟨ab,rfl⟩,?_⟩;simp only[M_,g_]at ah ⊢;exact ah
       ·rintro⟨q,du,dv⟩ H14 d0 ⟨X,u⟩;simp only at X u;have ai:q[i]?=zY n:=by
         rcases X with⟨-,rfl⟩ | ⟨-,rfl⟩
         ·exact D
         ·rw[zE az];exact D
        have b4:q.take i=d.take i:=by
         rcases X with⟨-,rfl⟩ | ⟨-,rfl⟩
         ·rfl
         ·rw[List.take_append_of_le_length zO]
        have b5:∀x,x∈q↔x∈d\/x=t:=λx=>by
         rcases X with⟨h,rfl⟩ | ⟨-,rfl⟩
         ·exact⟨.inl,λhx=>hx.elim id λe=>e ▸ h⟩
         ·simp
        refine Ap.held (λk=>k<H14.size/\¬(vK Nd.Ok u_ tNd 216 mb W A).foot k) 11 (sq [0,1,2,3,4,5] (.f 6 (.f 7 (sq [8,10] (.f 9 (.f 11 .e)))))) rfl zX ?_;have b0:=u.blk 3 rfl;have dw:=u.apart (i:=0) (j:=1) zQ rfl rfl;have dx:=u.apart (i:=1) (j:=3) zQ rfl rfl;have dy:=(u.in_ 1 rfl (.inl rfl)).2;refine K_ (cs:=e_ t) (b0.cells λj v O=>by rw[N_];exact O) ⟨b0.lt,λhf=>dx _ hf rfl⟩ ?_;refine jF (j:=i) Cy u 0 rfl ai rfl λel en e9 b7 cj ck cm=>?_;obtain rfl:=cm;refine K_ (cs:=e_ n) ck ⟨cj,dw _ (.inl b7)⟩ (Az Cy (e_ n) rfl rfl zQ zQ ?_);intro dz H16 co ea cp N;have cq:=u.skip co N;refine⟨N.mono λk G=>by have:=G.1;omega,?_⟩;refine AeL (a:=t) cq 1 nA LB (ay t F) rfl λs eo H17 b8 P cr aj=>?_;refine⟨(N.mono λk G=>by have:=G.1;omega).trans (P.mono λk G Y=>G.2 (.inl Y)),?_⟩;have e0:=B t;refine AkT (ys:=[n]) (ds:=e_ n) aj 1 Cy rfl ((cp.agr P (by show dz≠mb;omega)).cells λj v O=>by rw[N_];exact O) (Ty.reps_one rfl) rfl (by simp[e_,Value.oneCell']) (by simp only[g_,maxLen];omega) (by simp only[g_];omega) λep H18 ct ak bd=>?_;refine⟨((N.mono λk G=>by have:=G.1;omega).trans (P.mono λk G Y=>G.2 (.inl Y))).trans (ak.mono λk G=>⟨?_,λhs=>G.2 (.inr ⟨t,hs⟩)⟩),?_⟩
        ·have:=G.1;have eu:=Ay (H:=H14) (H':=H16) (N.mono λk G=>by unfold F_ at G;omega);exact AhP P (λY=>G.2 (.inl Y)) zO
        have be:=b8.agr ak ⟨aj.in_ 1 rfl (.inl rfl) |>.2,bd⟩;refine AeO ct 1 LB (ay t F) rfl be λe1 H19 cu cw=>?_;(conv=>whnf);rw[S_ j zO];have cx:=r.see (bk':=λx p=>p∈upd A t (A t++[n]) x) (Y_ D) z (by rw[bx];exact F) (λx p=>by
         by_cases hx:x=t
         ·subst hx;rw[OS];simp
         ·rw[VD hx];simp[hx]) q X
        refine⟨rfl,(j+1,q,du,dv),zZ,⟨by simp only;omega,ai,e1,upd A t (A t++[n]),cx.weak λR b' x h=>?_,λx=>?_,λx=>?_,cw.pick [0,1,2] zQ⟩,by simp only;omega⟩
        ·simp only at h;rw[b4,Aj ht,n_,Q_]at h;rcases h with h | ⟨Q,h2,h3 | h3⟩
         ·exact .inl (.inl h)
         ·exact .inl (.inr ⟨Q,h2,h3⟩)
         ·exact .inr ⟨Q,h2,h3⟩
        ·rw[cu,cr,J,b5]
        ·simp only;rw[Aj ht,kL];have:=B x;by_cases hx:x=t
         ·subst hx;rw[OS,M_,eV,g_];omega
         ·rw[VD hx];omega
      ·obtain rfl:j=Z.length:=zO
       rw[yH]at r B;(conv=>whnf);rw[S_ k zO];refine⟨rfl,(k+1,d,bz,c2),zZ,⟨by simp only;omega,D,W,A,r.weak λR b' t h=>?_,J,λt=>?_,K.pick [0,1] zQ⟩,by simp only;omega⟩
       ·rcases h with h | ⟨rfl,Q,h2⟩
        ·exact .inl (.inl h)
        ·rw[Aj hb,n_,Q_]at Q;rcases Q with Q | rfl
         ·exact .inl (.inr ⟨rfl,Q,h2⟩)
         ·exact .inr ⟨rfl,rfl,bx ▸ h2⟩
       ·have:=B t;have:=ae t;rw[<-rT,Nat.mul_succ];omega
    ·obtain rfl:k=by_.length:=zO
     rw[yH]at w;(conv=>whnf);rw[S_ i zO];refine⟨rfl,(i+1,E,a8,c8),zZ,⟨by simp only;omega,m8,bq,w.weak λR b' t h=>?_,au,λt=>?_,I⟩,by simp only;omega⟩
     ·have⟨Q,h2,h3⟩:=h;rw[Aj U,n_,Q_]at Q;rcases Q with Q | rfl
      ·exact .inl ⟨Q,h2,h3⟩
      ·exact .inr ⟨rfl,h2,h3⟩
     ·rw[Nat.succ_mul];exact V t
  ·obtain rfl:i=order.length:=zO
   rw[yH]at y;have⟨r1,r2⟩:=y.all λn b t Q h2 h3=>⟨Q,h2,h3⟩;(conv=>whnf);exact⟨a7,c7,order,mb,m7,bn,rfl,a0,y.nodup,r1,r2⟩
def Xc{s d e cap n:Nat}{a:Option Addr}(bs:List Nat)(g:D_ B H0 H ps)(i:Nat)(m:ps[i]?=zY (pN (Dc .u8) S e a n cap (bs.map fun(x:Nat)=>(x:Int))))(hs:P.underlying s=zY (.slice e)) (p:P.underlying e=zY (.int .u8)) (hd:P.underlying d=zY .string) (k:K (.string ⟨(bs.map UInt8.ofNat).toArray⟩) H):Bu P (convert s d (.slice a n cap)) H K:=by have h:=g.view i m;have q:=g.len i m;rw[d_]at q;cases bs with|nil=>{cases a with|none=>exact mN hs p hd k|some A=>{have r:=g.at_ i m;obtain⟨C,⟨D,f⟩,E⟩:=r.1;rcases f with⟨f,-⟩ | ⟨b,c,l,f,F,G,I,J,L,M⟩;{cases f};injection f with g1 g2 g3;injection g1 with g1;subst g1;exact VE [] hs p hd (λj x t=>by simp at t) q k}}|cons x xs=>{obtain⟨b,rfl⟩:=g.adr i m zZ;refine VE (x::xs) hs p hd (λj y u=>?_) q k;obtain⟨b',N,O,e,-,w,z⟩:=h.get (i:=j) (x:=(y:Int)) (by rw[I',u];rfl);injection e with e;injection e with e1 e2 e3;subst e1;subst e2;obtain⟨rfl,-⟩:=z;have:=w.one;rw[show(Dc .u8).size=1 from rfl,Nat.mul_one]at this;exact this}
structure Pre(g:Gr)(a:Nd)(lf:Nd->Option Nat)(L r:Nat)(w:List Nat)(P:Nd->Prop):Prop where
 len:w.length+r=L
 fst:∀v,CX g P r v->CX g (·=a) L (w++v)
 all:∀n,P n->lf n=zY r
 ne:∃n,P n
section
variable{g:Gr}{by_:List Nat}{a:Nd}{lf:Nd->Option Nat}{L k b:Nat}{w:List Nat}{P Q:Nd->Prop}
def Pre.start(h:lf a=zY L):Pre g a lf L L [] (·=a):=⟨zZ,λv b=>b,λn c=>by rw[c,h],a,rfl⟩
def Pre.done(h:Pre g a lf L 0 w P)(hd:Dd g by_ a lf):CX g (·=a) L w:=by have⟨n,b⟩:=h.ne;obtain⟨-,u,c,-,d⟩:=hd.word n 0 (h.all n b);obtain rfl:=wL c;have:=h.fst [] (CX.nil b d);rwa [xZ]at this
def Pre.some(h:Pre g a lf L (k+1) w P)(hd:Dd g by_ a lf):∃b,b∈by_/\∃t,Dz g P b t/\lf t=zY k:=by have⟨n,r⟩:=h.ne;have e:=h.all n r;have⟨x,u,y,f,m⟩:=hd.word n _ e;cases u with|nil=>simp at y|cons b u=>{have⟨t,p,m⟩:=m;have q:=f b yN;have⟨j,A,l⟩:=hd.le (x.step q p) (λc z=>f c (yD _ z)) m;have⟨i,B,d⟩:=hd.pred t j l n b x q p;rw[e]at d;injection d with d;simp only[U_,kO]at y;have:j=k:=zO;exact⟨b,q,t,⟨n,r,p⟩,this ▸ l⟩}
variable(hby:∀c,c<256->∃r∈by_,r<=c/\∀n,g.next n r=g.next n c)
include hby
def Dd.narrow(h:Dd g by_ a lf)(r:∀n,P n->lf n=AmN (k+1))(w:b∈by_)(x:∀t,Q t↔Dz g P b t/\lf t=AmN k){v:List Nat}(A:CX g Q k v):CX g (Dz g P b) k v:=by obtain⟨B,C,⟨n,D,p⟩,E⟩:=A;refine⟨B,C,⟨n,((x n).1 D).1,p⟩,λu F d q=>?_⟩;have⟨t,y,p⟩:=q;refine E u F d ⟨t,(x t).2 ⟨y,?_⟩,p⟩;have⟨m,z,e⟩:=y;have f:=(h.word m _ (r m z)).1;have⟨j,G,l⟩:=h.bytes hby (f.step w e) d p;have⟨i,H,c⟩:=h.pred t j l m b f w e;rw[r m z]at c;injection c with c;have:j=k:=zO;exact this ▸ l
def Pre.step(h:Pre g a lf L (k+1) w P)(hd:Dd g by_ a lf)(d:∀b∈by_,b<256)(hs:by_.Pairwise (·<=·)){j:Nat}(f:by_[j]?=AmN b)(B:∀t,Q t↔Dz g P b t/\lf t=AmN k)(p:∃t,Q t)(q:∀c∈by_.take j,∀t,¬(Dz g P c t/\lf t=AmN k)):Pre g a lf L k (w++[b]) Q:=by have x:=Y_ f;refine⟨by rw[M_,g_];have:=h.len;omega,λv D=>?_,λn E=>((B n).1 E).2,p⟩;have F:=CX.cons (d b x) (hd.narrow hby h.all x B D) λc N u G y l=>by{have⟨r,C,H,z⟩:=hby c (by have:=d b x;omega);have e:Dz g P c=Dz g P r:=by{funext t;unfold Dz;simp only[z]};rw[e]at l;have⟨t,I,J⟩:=(hd.fwd hby d h.all C).1 ⟨u,G,y,l⟩;refine q r ?_ t ⟨I,J⟩;have⟨i,A⟩:=xB C;have⟨p1,p2⟩:=P_.1 A;have⟨K,M⟩:=P_.1 f;by_cases m:i<j;{exact Y_ (i:=i) (by rw[tP,H_ m];exact A)};exfalso;rcases tT (Nat.not_lt.1 m)with h | h;{have:=xT.1 hs j i K p1 h;rw[p2,M]at this;omega};subst h;rw[A]at f;injection f with f;omega};have:=h.fst _ F;rwa [List.append_cons]at this
end
def Ea(lf:Nd->Option Nat):Nd->Option v_:=λn=>(lf n).map fun(k:Nat)=>Value.int .i64 (k:Int)
def S1(lf:Nd->Option Nat)(p:Nd)(k:Nat):put (Ea lf) p (zY (.int .i64 (k:Int)))=Ea λm=>if m=p then zY k else lf m:=by funext m;by_cases h:m=p;{subst h;rw[BU];simp[Ea]};rw[D3 h];simp[Ea,h]
def Xw(todo:List Nd)(p:Nd):put (Ea λn=>if n∈todo then zY 0 else zV) p (zY (.int .i64 0))=Ea λn=>if n∈todo++[p]then zY 0 else zV:=by have:=S1 (λn=>if n∈todo then zY 0 else zV) p 0;refine Eq.trans this ?_;congr 1;funext m;by_cases h:m=p;{subst h;simp};simp[h]
def J9(q:Nd->Bool):Nd->Option v_:=λn=>if q n then zY (.int .i64 1)else zV
def Sz(q:Nd->Bool)(p:Nd):put (J9 q) p (zY (.int .i64 1))=J9 λm=>zT (m=p)|| q m:=by funext m;by_cases h:m=p;{subst h;rw[BU];unfold J9;simp};rw[D3 h];unfold J9;simp[h]
def Pz{q:Nd->Bool}:(J9 q n).isSome=zW↔q n=zW:=by unfold J9;cases h:q n<;>simp
def Py{q:Nd->Bool}:J9 q n=zV↔q n=zU:=by unfold J9;cases h:q n<;>simp
def Ev(g:Gr)(w:List Nat)(ok:Bool):Prop:=(ok=zW->D0 g (·=AP) w)/\(ok=zU->w=[]/\∀u,BG u->¬DD g (·=AP) u)
structure Xi(g:Gr)(by_:List Nat)(lf:Nd->Option Nat)(seen:List Nd):Prop where
 nd:seen.Nodup
 mem:∀n,(lf n).isSome=zW↔n∈seen
 le:∀n j,lf n=zY j->j<=seen.length
 rch:∀n∈seen,BJ g by_ AP n
variable{lf:Nd->Option Nat}
def Xi.push{seen:List Nd}{p:Nd}(h:Xi g by_ lf seen)(f:lf p=zV)(l:BJ g by_ AP p)(q:lf n=zY k):Xi g by_ (λm=>if m=p then zY (k+1)else lf m) (seen++[p]):=by have c:p∉seen:=λr=>by{have:=(h.mem p).2 r;rw[f]at this;cases this};refine⟨rG.2 ⟨h.nd,zZ,λx t y d=>?_⟩,λm=>?_,λm j b=>?_,λm a=>?_⟩;{rw[Q_]at d;subst d;exact λe=>c (e ▸ t)};{by_cases a:m=p;{subst a;simp};rw[G_ a,h.mem];simp[a]};{rw[M_,g_];split at b;{have:=h.le n k q;injection b with b;omega};have:=h.le m j b;omega};rcases n_.1 a with a | a;{exact h.rch m a};rw[Q_]at a;subst a;exact l
def QU{v:v_}{M C:Nat}(hS:∀k,S k->k<H.size)(hg:FR g by_ M C)(ay:∀c,c<256->∃r∈by_,r<=c/\∀n,g.next n r=g.next n c)(c8:by_.Pairwise (·<=·))(E:Nu S H v g by_):
  Am prog 95 #[v] H λv H'=>A_ (F_ H) H H'/\∃w ok,v= .tuple #[.string (bA w),.bool ok]/\Ev g w ok/\w.length<=M:=by
 have gd:=hg.nb;have fx:=hg.big;have gf:256*M<=C*(256*M):=dD _ hg.c0;have bj:=AfH hS hg E;obtain⟨pg,ba,bc,f,e,fs,cs,es,ds,rfl,az,b0,hby,cd,ce⟩:=E;refine Am.of_vc func95 rfl (call95 _) (An.mk bj ?_);rintro _ H1 ⟨a1,c1,order,mb,m1,xs,rfl,st1,d0,bn,d3⟩;have e7:=hg.card order d0 λn hn=>(bn n).1 hn;refine I5 (Ok:=Nd.Ok) (enc:=u_) λlb H2 e8 e9 ea eb=>?_;have ec:=st1.mapNewW e8 e9 ea eb;have ed:=ec.nils tNd 216;(conv=>whnf);refine AD.mk [7,36] (λx:Nat×List Nd×Option Addr×Nat=>match x with | (i,todo,a,c)=>[.slice a todo.length c,B_ i])
  (λx H3=>x.1<=order.length/\x.2.1=(order.take x.1).filter g.ends/\St H H3 [pS tNd 216 a1 order.length c1 order,vK Nd.Ok u_ tNd 216 mb m1 xs,yZ Nd.Ok u_ lb (Ea λn=>if n∈x.2.1 then zY 0 else zV),pS tNd 216 x.2.2.1 x.2.1.length x.2.2.2 x.2.1]) (λx _=>order.length-x.1) ?_ ?_
 ·(conv=>whnf);refine⟨(0,[],zV,0),rfl,zZ,rfl,?_⟩;have e0:(Ea λn=>if n∈([]:List Nd)then zY 0 else zV)=λ_=>zV:=by funext n;simp[Ea]
  simp only[e0];exact ed
 ·rintro⟨i,todo,a4,c4⟩ H4 ee ⟨hi,y,bo⟩;simp only at hi y bo;refine Av.m2 (λhz=>?_) (λhz=>?_)
  ·have⟨n,hn⟩:=Ai (l:=order) (k:=i) zO;have cg:=Y_ hn;have a8:=(bn n).1 cg;have N:(order.take (i+1)).filter g.ends=todo++[n].filter g.ends:=by
    rw[y,Aj hn,uH]
   have ef:todo.length<=i:=by
    rw[y];refine V' (List.length_filter_le _ _) ?_;rw[vL];omega
   refine AC.run (xM (j:=i) Cy bo 0 rfl hn rfl λb5 o5 gg gh eg eh=>?_);obtain rfl:=eh;refine K_ (cs:=e_ n) eg zA (BO bo (u_ AP) (e_ AP) CM rfl λp5 H5 ch=>(AB (cs:=e_ n) ch 4 rfl rfl (zQ:0+3<=3) rfl λH6 G=>?_));rw[HL]at G;refine Ap.held (F_ H6) 99 (sq [0,1,2,3,4] (.f 5 .e)) rfl zX ?_;have q6:=b0.agr (G.old.mono hS) az;have r6:=G.blk 4 rfl;refine fa ?_;refine C_ (q6.cellE rfl) (G.up (hS pg az)) ?_;refine K_ (cs:=e_ n) (r6.cells λj v E=>by rw[N_];exact E) r6.lt ?_;refine Af (ce H6 (G.old.mono hS) n a8) λH7 aw=>(⟨aw,?_⟩);have ab:=G.call aw;have r7:=ab.blk 4 rfl;cases he:g.ends n with
   | false=>
     have hf:[n].filter g.ends=[]:=uG (by rw[he];decide);rw[hf,xZ]at N;(conv=>whnf);rw[S_ i zO];exact⟨rfl,(i+1,todo,a4,c4),zZ,⟨by simp only;omega,N.symm,ab.pick [0,1,2,3] zQ⟩,by simp only;omega⟩
   | true=>
     have hf:[n].filter g.ends=[n]:=vF he;rw[hf]at N;refine K_ (cs:=e_ n) (r7.cells λj v E=>by rw[N_];exact E) zA ?_;refine GB (a:=n) ab 2 Pf LB (hg.ok n a8) rfl (Xw todo n) λH8 ae=>?_;have r8:=ae.blk 4 rfl;refine K_ (cs:=e_ n) (r8.cells λj v E=>by rw[N_];exact E) zA ?_;refine Az Cy (e_ n) rfl rfl zQ zQ ?_;intro q9 H9 ei gi ej ek;have U:=ae.skip ei ek;refine JP (ys:=[n]) (ds:=e_ n) U 3 Cy rfl (ej.cells λj v E=>by rw[N_];exact E) (Ty.reps_one rfl) rfl (by simp[e_,Value.oneCell']) (by simp only[g_,maxLen];omega) (by simp only[g_];omega) λa' c' H10 u _=>?_;(conv=>whnf);rw[S_ i zO];refine⟨rfl,(i+1,todo++[n],a',c'),zZ,⟨by simp only;omega,N.symm,?_⟩,by simp only;omega⟩;simp only[M_,g_];exact u.pick [0,1,2,3] zQ
  ·obtain rfl:i=order.length:=zO
   rw[yH]at y;have hB:=Qt.start (g:=g) (by_:=by_) (a:=AP) (todo:=todo) (left:=λn=>if n∈todo then zY 0 else zV) (λn=>rfl) (λn=>by rw[y,yS,bn]);have B:Xi g by_ (λn=>if n∈todo then zY 0 else zV) todo:=by
    refine⟨by rw[y];exact d0.filter _,λn=>by by_cases h:n∈todo<;>simp[h],λn j hj=>?_,λn hn=>?_⟩
    ·split at hj
     ·injection hj with hj;omega
     ·cases hj
    ·rw[y,yS]at hn;exact(bn n).1 hn.1
   generalize (λn=>if n∈todo then zY 0 else zV:Nd->Option Nat)=el at*;have ch:=bo.toQ 3 rfl;clear y;(conv=>whnf);refine AD.mk [7] (λx:List Nd×Option Addr×Nat×List Nd=>match x with | (todo,a,c,seen)=>[.slice a todo.length c])
    (λx H5=>∃lf k,Qt g by_ AP lf x.1 k/\Xi g by_ lf x.2.2.2/\x.1.length<=x.2.2.2.length/\St H H5 [pS tNd 216 a1 order.length c1 order,vK Nd.Ok u_ tNd 216 mb m1 xs,yZ Nd.Ok u_ lb (Ea lf),pQ tNd 216 x.2.1 x.1.length x.2.2.1 x.1]) (λx _=>2*(M-x.2.2.2.length)+x.1.length) ?_ ?_
   ·(conv=>whnf);exact⟨(todo,a4,c4,todo),rfl,el,0,hB,B,I_ _,ch⟩
   ·rintro⟨todo,a6,c6,seen⟩ H6 en ⟨lf,k0,hB,B,ci,G⟩;simp only at hB B ci G;have gj:=hg.card seen B.nd B.rch;refine Av.m2 (λcj=>?_) (λcj=>?_)
    ·cases todo with
     | nil=>simp at cj
     | cons n todo=>
     have⟨k,bp,d4⟩:=hB.take;have a8:=(hB.word n k bp).1;have bx:=hg.ok n a8;obtain⟨-,eo⟩:=G.qview 3 rfl;refine zP (i:=0) (x:=n) Cy eo rfl rfl ?_;rintro b7 o7 gk gl ep rfl;refine K_ (cs:=e_ n) ep zA (Aq (u_ AP) (e_ AP) CM rfl ?_);intro p7 H7 eu ck ev aw;have ab:=G.box eu ck ev aw;refine AB (cs:=e_ n) ab 4 rfl rfl (zQ:0+3<=3) rfl λH8 ae=>?_;rw[HL]at ae;refine pX ae 3 Cy rfl λa9 c9 U=>?_;have r9:=U.blk 4 rfl;obtain⟨ad,cap,d5,-⟩:=U.mqView 1 rfl n;refine K_ (cs:=e_ n) (r9.cells λj v E=>by rw[N_];exact E) zA ?_;refine Oc (S:=λ_=>True) (a:=n) nA LB bx (U.mqMap 1 rfl) zA ?_;have d6:(m1 n).getD (.slice zV 0 0)= .slice ad (xs n).length cap:=d5;rw[d6];simp only[U_]at ci;(conv=>whnf);refine AD.mk [7,65] (λx:Nat×List Nd×Option Addr×Nat×List Nd=>match x with | (j,todo,a,c,seen)=>[.slice a todo.length c,B_ j])
      (λx H10=>x.1<=(xs n).length/\∃lf,OZ g by_ AP lf x.2.1 n k (λp=>p∈(xs n).take x.1)/\Xi g by_ lf x.2.2.2.2/\x.2.1.length+1<=x.2.2.2.2.length/\2*(M-x.2.2.2.2.length)+x.2.1.length<=2*(M-seen.length)+todo.length/\
       St H H10 [pS tNd 216 a1 order.length c1 order,vK Nd.Ok u_ tNd 216 mb m1 xs,yZ Nd.Ok u_ lb (Ea lf),pQ tNd 216 x.2.2.1 x.2.1.length x.2.2.2.1 x.2.1,pB 216 p7 (e_ n)]) (λx _=>(xs n).length-x.1) ?_ ?_
     ·(conv=>whnf);exact⟨(0,todo,a9,c9,seen),rfl,zZ,lf,by simpa using d4,B,ci,I_ _,U⟩
     ·rintro⟨j,V,ah,ai,O⟩ H10 bq ⟨hj,J,z,d,b4,b6,u⟩;simp only at hj z d b4 b6 u;have fy:=hg.card O d.nd d.rch;have⟨gm,fz,bz,d7⟩:=u.mqView 1 rfl n;rw[d5]at bz;injection bz with g1 g2 g3
      subst g1;subst g3;have b8:=((u.at_ 1 rfl).2.1 n).len;unfold maxLen at b8;refine Av.m2 (λcm=>?_) (λcm=>?_)
      ·have⟨p,hp⟩:=Ai (l:=xs n) (k:=j) zO;have⟨co,b,hb,ew⟩:=(d3 n p).1 (Y_ hp);have c2:=hg.ok p co;have b9:∀x,x∈(xs n).take (j+1)↔x∈(xs n).take j\/x=p:=λx=>by
        rw[Aj hp,n_,Q_]
       refine AC.run (zP (i:=j) Cy d7 hp rfl ?_);rintro gp gq g4 g5 d8 rfl;refine K_ (cs:=e_ p) d8 zA (BO u (u_ AP) (e_ AP) CM rfl λgr H11 P=>(AB (cs:=e_ p) P 5 rfl rfl (zQ:0+3<=3) rfl λH12 A=>?_));rw[HL]at A;have cp:=A.blk 5 rfl;have d9:=A.blk 4 rfl;refine K_ (cs:=e_ p) (cp.cells λj v E=>by rw[N_];exact E) zA ?_;refine FD (S:=λ_=>True) (a:=p) Pf LB c2 (A.mapW 2 rfl) zA ?_;cases bd:J p with
       | some l=>
         rw[show Ea J p=zY (.int .i64 (l:Int)) by simp[Ea,bd]];(conv=>whnf);rw[S_ j zO];have cq:=z.skip (p:=p) (by rw[bd];rfl);refine⟨rfl,(j+1,V,ah,ai,O),zZ,⟨by simp only;omega,J,?_,d,b4,b6,A.pick [0,1,2,3,4] zQ⟩,by simp only;omega⟩;simp only[b9];exact cq
       | none=>
         rw[show Ea J p=zV by simp[Ea,bd]];have aj:=z.here;have g6:=d.le n k aj;refine Ap.held (F_ H12) 6 (sq [0,1,2,3,4,5] (.f 6 .e)) rfl zX ?_;refine K_ (cs:=e_ p) (cp.cells λj v E=>by rw[N_];exact E) cp.lt ?_;refine K_ (cs:=e_ n) (d9.cells λj v E=>by rw[N_];exact E) d9.lt ?_;refine Oc (a:=n) Pf LB bx (A.mapW 2 rfl) (A.in_ 2 rfl rfl).2 ?_;rw[show(Ea J n).getD (.int .i64 0)= .int .i64 (k:Int) by simp[Ea,aj]];(conv=>whnf);rw[S_ k zO];refine GB (a:=p) A 2 Pf LB c2 rfl (S1 J p (k+1)) λH13 ao=>?_;have Q:=d.push bd co aj;have da:=hg.card _ Q.nd Q.rch;have cr:=z.push (left':=λm=>if m=p then zY (k+1)else J m) bd co hb ew λm=>rfl;rw[M_,g_]at da;have ey:=ao.blk 5 rfl;refine K_ (cs:=e_ p) (ey.cells λj v E=>by rw[N_];exact E) zA ?_;refine Az Cy (e_ p) rfl rfl zQ zQ ?_;intro gu H14 db g7 dc de;have Z:=ao.skip db de;refine pU (ys:=[p]) (ds:=e_ p) Z 3 Cy rfl (dc.cells λj v E=>by rw[N_];exact E) (Ty.reps_one rfl) rfl (by simp[e_,Value.oneCell']) (by simp only[g_,maxLen];omega) (by simp only[g_];omega) λa' c' H15 K _=>?_;(conv=>whnf);rw[S_ j zO];refine⟨rfl,(j+1,V++[p],a',c',O++[p]),zZ,⟨by simp only;omega,_,?_,Q,by simp;omega,by simp;omega,?_⟩,by simp only;omega⟩
         ·simp only[b9];exact cr
         ·simp only[M_,g_];exact K.pick [0,1,2,3,4] zQ
      ·obtain rfl:j=(xs n).length:=zO
       rw[yH]at z;have df:=z.end_ λp b X Y h3=>(d3 n p).2 ⟨X,b,Y,h3⟩;(conv=>whnf);exact⟨rfl,(V,ah,ai,O),rfl,⟨J,k,df,d,by simp only;omega,u.pick [0,1,2,3] zQ⟩,by simp only[U_];omega⟩
    ·obtain rfl:todo=[]:=by
      cases todo with
      | nil=>rfl
      | cons x l=>simp at cj
     have hD:=hB.end_;refine Ad underlying216 rfl (u_ AP) CM (e_ AP) rfl (FD (S:=λ_=>True) (a:=AP) Pf LB RB (G.mapW 2 rfl) zA ?_);cases I:lf AP with
     | none=>
       rw[show Ea lf AP=zV by simp[Ea,I]];(conv=>whnf);exact⟨G.old,[],zU,rfl,⟨λh=>(by cases h),λ_=>⟨rfl,hD.none ay I⟩⟩,V_ _⟩
     | some L=>
     rw[show Ea lf AP=zY (.int .i64 (L:Int)) by simp[Ea,I]];have hL:=B.le AP L I;refine I5 (Ok:=Nd.Ok) (enc:=u_) λez H7 dg ck fb aw=>?_;have ab:=G.mapNewW dg ck fb aw;refine Ad underlying216 rfl (u_ AP) CM (e_ AP) rfl (GB (a:=AP) ab 4 Pf LB RB rfl (Sz (λ_=>zU) AP) λH8 ae=>?_);have U:=(ae.pick [2,4] zQ).nils (Dc .u8) 5;obtain⟨q0,dh⟩:∃q:Nd->Bool,q=λm=>zT (m=AP)|| false:=⟨_,rfl⟩
     rw[<-dh]at U;have ct:Pre g AP lf L L [] (λn=>q0 n=zW):=by
      have:=Pre.start (g:=g) (a:=AP) (lf:=lf) I;rw[dh];simpa using this
     (conv=>whnf);rw[m_ (x:=(L:Int)-1) zO];(conv=>whnf);refine AD.mk [17,18,19] (λx:Nat×List Nat×Option Addr×Nat×Nat×(Nd->Bool)=>match x with | (r,w,a,c,nb,q)=>[.map (zY nb),.slice a w.length c,B_ ((r:Int)-1)])
      (λx H9=>Pre g AP lf L x.1 x.2.1 (λn=>x.2.2.2.2.2 n=zW)/\St H H9 [yZ Nd.Ok u_ lb (Ea lf),yZ Nd.Ok u_ x.2.2.2.2.1 (J9 x.2.2.2.2.2),pS (Dc .u8) 5 x.2.2.1 x.2.1.length x.2.2.2.1 (x.2.1.map fun(b:Nat)=>(b:Int))]) (λx _=>x.1) ?_ ?_
     ·(conv=>whnf);exact⟨(L,[],zV,0,ez,q0),rfl,ct,U⟩
     ·rintro⟨r,w,ah,ai,ap,a0⟩ H10 bq ⟨R,u⟩;simp only at R u;have gv:=R.len;refine Av.m2 (λcm=>?_) (λcm=>?_)
      ·obtain⟨k,rfl⟩:∃k,r=k+1:=⟨r-1,zO⟩;rw[show((k+1:Nat):Int)-1=(k:Int) by omega];(conv=>whnf);refine AC.cut [17,18] (λx:List Nat×Option Addr×Nat×Nat×(Nd->Bool)=>match x with | (w,a,c,nb,q)=>[.map (zY nb),.slice a w.length c])
        (λx H11=>Pre g AP lf L k x.1 (λn=>x.2.2.2.2 n=zW)/\St H H11 [yZ Nd.Ok u_ lb (Ea lf),yZ Nd.Ok u_ x.2.2.2.1 (J9 x.2.2.2.2),pS (Dc .u8) 5 x.2.1 x.1.length x.2.2.1 (x.1.map fun(b:Nat)=>(b:Int))]) ?_ ?_
       ·have di:=b0.agr (u.old.mono hS) az;refine fa ?_;refine lT (di.cellE rfl) ?_;(conv=>whnf);refine AD.mk [17,18,110] (λj:Nat=>[.map (zY ap),.slice ah w.length ai,B_ j])
         (λj H11=>j<=by_.length/\(∀c∈by_.take j,∀t,¬(Dz g (λn=>a0 n=zW) c t/\lf t=zY k))/\St H H11 [yZ Nd.Ok u_ lb (Ea lf),yZ Nd.Ok u_ ap (J9 a0),pS (Dc .u8) 5 ah w.length ai (w.map fun(b:Nat)=>(b:Int))]) (λj _=>by_.length-j) ?_ ?_
        ·(conv=>whnf);exact⟨0,rfl,V_ _,zZ,u⟩
        ·rintro j H11 br ⟨hj,bu,P⟩;refine Av.m2 (λfd=>?_) (λfd=>?_)
         ·have⟨b,hb⟩:=Ai (l:=by_) (k:=j) zO;have ak:=Y_ hb;have fe:=hg.byl b ak;refine I2 (i:=j) (x:=(b:Int)) Ct (hby.frame (P.old.mono hS)) zZ (by rw[I',hb];rfl) rfl ?_;rintro gw gx g8 g9 dj ⟨rfl,-⟩;refine C_ dj.one zA (I5 (Ok:=Nd.Ok) (enc:=u_) λtb H12 cu dk dl dm=>?_);have A:=P.mapNewW cu dk dl dm;refine W3 A 1 Pf rfl λrr n0 H13 ao=>?_;(conv=>whnf);refine AD.mk [] (λx:Nat×(Nd->Prop)×Option Nd×(Nd->Bool)=>[])
           (λx H14=>(∀t,x.2.2.2 t=zW↔∃n,x.2.1 n/\a0 n=zW/\t∈g.next n b/\lf t=zY k)/\
            St H H14 [yZ Nd.Ok u_ lb (Ea lf),sD Nd.Ok u_ ap rr (J9 a0) x.2.1 x.2.2.1 x.1,pS (Dc .u8) 5 ah w.length ai (w.map fun(b:Nat)=>(b:Int)),yZ Nd.Ok u_ tb (J9 x.2.2.2)]) (λx _=>x.1) ?_ ?_
          ·(conv=>whnf);exact⟨(n0,λ_=>False,zV,λ_=>zU),rfl,zZ,ao⟩
          ·rintro⟨cnt,D,last,qt⟩ H14 e5 ⟨cw,Z⟩;simp only at cw Z;refine ZS Z 1 Rq rfl (λdp=>?_) λn fg H15 be am gy W K=>?_
           ·have K:=Z.iterEnd 1 rfl;have hQ:∀t,qt t=zW↔Dz g (λn=>a0 n=zW) b t/\lf t=zY k:=λt=>by
             rw[cw];constructor
             ·rintro⟨n,-,X,Y,h3⟩;exact⟨⟨n,X,Y⟩,h3⟩
             ·rintro⟨⟨n,X,Y⟩,h3⟩;exact⟨n,dp n (Pz.2 X),X,Y,h3⟩
            refine jM (S:=λ_=>True) Pf (K.mapW 3 rfl) zA λc hc=>?_;by_cases bv:∃t,qt t=zW
            ·have dq:c≠0:=λh=>by
              have⟨t,ht⟩:=bv;have:=Py.1 (hc.1 h t);rw[ht]at this;cases this
             have d1:zT ((0:Int)<(c:Int))=zW:=Y';have cx:=R.step ay hD hg.byl c8 hb hQ bv bu;(conv=>whnf);rw[d1];refine Az Ct [.int .u8 (b:Int)] rfl rfl zQ zQ ?_;intro gz H16 dr ga dt du;have bf:=K.skip dr du;refine JP (ys:=[(b:Int)]) (ds:=[.int .u8 (b:Int)]) bf 2 Ct rfl (dt.cells λj v E=>by rw[N_];exact E) (Ty.reps_one ⟨rfl,I1 fe⟩) rfl (by simp[Value.oneCell']) (by simp only[g_,d_,maxLen];omega) (by simp only[g_,d_];omega) λa' c' H17 F _=>?_;(conv=>whnf);simp only[d_,g_]at F;refine⟨rfl,(w++[b],a',c',tb,qt),zZ,cx,?_⟩;simp only[M_,g_,xV,xY,List.map_nil];exact F.pick [0,3,2] zQ
            ·have dq:c=0:=hc.2 λt=>by
              refine Py.2 ?_;cases h:qt t with
              | false=>rfl
              | true=>exact absurd ⟨t,h⟩ bv
             subst dq;(conv=>whnf);rw[S_ j zO];refine⟨rfl,j+1,rfl,⟨zO,λc hc t ht=>?_,K.pick [0,1,2] zQ⟩,zO⟩;rw[Aj hb,n_,Q_]at hc;rcases hc with hc | rfl
             ·exact bu c hc t ht
             ·exact bv ⟨t,(hQ t).2 ht⟩
           ·have cy:a0 n=zW:=Pz.1 (by rw[am];rfl);have fh:=R.all n cy;obtain⟨a8,-⟩:=hD.word n _ fh;have dv:fg= .int .i64 1:=by
             unfold J9 at am;rw[cy,H_ rfl]at am;injection am with am
             exact am.symm
            subst dv;refine fI (K.iterW 1 rfl) Rq am (BO K (u_ AP) (e_ AP) CM rfl λh0 H16 bf=>(AB (cs:=e_ n) bf 4 rfl rfl (zQ:0+3<=3) rfl λH17 F=>?_));rw[HL]at F;have dw:=F.blk 4 rfl;refine Ap.held (F_ H17) 99 (sq [0,1,2,3,4,5,8] (.f 6 (sq [7] .e))) rfl zX ?_;have fj:=b0.agr (F.old.mono hS) az;refine fa ?_;refine C_ (fj.cellE rfl) (F.up (hS pg az)) ?_;refine K_ (cs:=e_ n) (dw.cells λj v E=>by rw[N_];exact E) dw.lt ?_;refine An.mk (cd H17 (F.old.mono hS) n b a8 ak) ?_;rintro _ H18 ⟨c3,bw⟩;refine⟨c3,?_⟩;obtain⟨fk,fm,rfl,c5⟩:=F.got c3 bw;have b8:=c5.max 5 rfl;unfold maxLen at b8;have fo:∀t,t∈g.next n b->t.Ok:=λt ht=>hg.ok t (a8.step ak ht)
            have cz:∀t,(∃m,(D m\/m=n)/\a0 m=zW/\t∈g.next m b/\lf t=zY k)↔qt t=zW\/(t∈g.next n b/\lf t=zY k):=λt=>by
             rw[cw];constructor
             ·rintro⟨m,X | rfl,Y,h3,h4⟩
              ·exact .inl ⟨m,X,Y,h3,h4⟩
              ·exact .inr ⟨h3,h4⟩
             ·rintro(⟨m,X,Y,h3,h4⟩ | ⟨h3,h4⟩)
              ·exact⟨m,.inl X,Y,h3,h4⟩
              ·exact⟨n,.inr rfl,cy,h3,h4⟩
            generalize g.next n b=ls at*
            (conv=>whnf);refine AD.mk [129] (λx:Nat×(Nd->Bool)=>match x with | (j,q)=>[B_ j])
             (λx H19=>x.1<=ls.length/\(∀t,x.2 t=zW↔qt t=zW\/(t∈ls.take x.1/\lf t=zY k))/\
              St H H19 [yZ Nd.Ok u_ lb (Ea lf),sD Nd.Ok u_ ap rr (J9 a0) (λx=>D x\/x=n) (zY n) be,pS (Dc .u8) 5 ah w.length ai (w.map fun(b:Nat)=>(b:Int)),yZ Nd.Ok u_ tb (J9 x.2),pS tNd 216 fk ls.length fm ls]) (λx _=>ls.length-x.1) ?_ ?_
            ·(conv=>whnf);exact⟨(0,qt),rfl,zZ,zZ,c5.pick [0,1,2,3,5] zQ⟩
            ·rintro⟨l,qu⟩ H19 e6 ⟨hl,bh,aq⟩;simp only at hl bh aq;refine Av.m2 (λfp=>?_) (λfp=>?_)
             ·have⟨t,ht⟩:=Ai (l:=ls) (k:=l) zO;have c7:=fo t (Y_ ht);have b9:∀x,x∈ls.take (l+1)↔x∈ls.take l\/x=t:=λx=>by
               rw[Aj ht,n_,Q_]
              refine AC.run (xM (j:=l) Cy aq 4 rfl ht rfl λh5 h6 gb gc dx dy=>?_);obtain rfl:=dy;refine K_ (cs:=e_ t) dx zA (BO aq (u_ AP) (e_ AP) CM rfl λh7 H20 dz=>(AB (cs:=e_ t) dz 5 rfl rfl (zQ:0+3<=3) rfl λH21 T=>?_));rw[HL]at T;have e1:=T.blk 5 rfl;refine K_ (cs:=e_ t) (e1.cells λj v E=>by rw[N_];exact E) zA ?_;refine FD (S:=λ_=>True) (a:=t) Pf LB c7 (T.mapW 0 rfl) zA ?_;have skip:lf t≠zY k->∀t',qu t'=zW↔qt t'=zW\/(t'∈ls.take (l+1)/\lf t'=zY k):=λW t'=>by
               rw[bh,b9];constructor
               ·rintro(h | ⟨X,Y⟩)
                ·exact .inl h
                ·exact .inr ⟨.inl X,Y⟩
               ·rintro(h | ⟨X | rfl,Y⟩)
                ·exact .inl h
                ·exact .inr ⟨X,Y⟩
                ·exact absurd Y W
              cases W:lf t with
              | none=>
                rw[show Ea lf t=zV by simp[Ea,W]];(conv=>whnf);rw[S_ l zO];exact⟨rfl,(l+1,qu),rfl,⟨by simp only;omega,skip (by rw[W];simp),T.pick [0,1,2,3,4] zQ⟩,by simp only;omega⟩
              | some l'=>
                rw[show Ea lf t=zY (.int .i64 (l':Int)) by simp[Ea,W]];by_cases bp:l'=k
                ·subst bp;have d2:((l':Int)==(l':Int))=zW:=beq_self_eq_true _;(conv=>whnf);rw[d2];refine K_ (cs:=e_ t) (e1.cells λj v E=>by rw[N_];exact E) zA ?_;refine GB (a:=t) T 3 Pf LB c7 rfl (Sz qu t) λH22 e3=>?_;(conv=>whnf);rw[S_ l zO];refine⟨rfl,(l+1,λm=>zT (m=t)|| qu m),rfl,⟨by simp only;omega,λt'=>?_,e3.pick [0,1,2,3,4] zQ⟩,by simp only;omega⟩;simp only[wX,yL];rw[bh,b9];constructor
                 ·rintro(rfl | h | ⟨X,Y⟩)
                  ·exact .inr ⟨.inr rfl,W⟩
                  ·exact .inl h
                  ·exact .inr ⟨.inl X,Y⟩
                 ·rintro(h | ⟨X | rfl,Y⟩)
                  ·exact .inr (.inl h)
                  ·exact .inr (.inr ⟨X,Y⟩)
                  ·exact .inl rfl
                ·have d2:((l':Int)==(k:Int))=zU:=beq_eq_false_iff_ne.2 zO;(conv=>whnf);rw[d2];(conv=>whnf);rw[S_ l zO];exact⟨rfl,(l+1,qu),rfl,⟨by simp only;omega,skip (by rw[W];intro h;injection h with h;exact bp h),T.pick [0,1,2,3,4] zQ⟩,by simp only;omega⟩
             ·obtain rfl:l=ls.length:=zO
              rw[yH]at bh;(conv=>whnf);refine⟨rfl,(be,λx=>D x\/x=n,zY n,qu),rfl,⟨λt=>?_,aq.pick [0,1,2,3] zQ⟩,W⟩;rw[cz,bh]
         ·obtain rfl:j=by_.length:=zO
          rw[yH]at bu;have⟨b,hb,t,ht⟩:=R.some hD;exact absurd ht (bu b hb t)
       ·rintro⟨fq,ft,fu,e4,fw⟩ H11 br ⟨au,P⟩;simp only at au P;(conv=>whnf);rw[m_ (x:=(k:Int)-1) zO];exact⟨rfl,(k,fq,ft,fu,e4,fw),rfl,⟨au,P⟩,by simp only;omega⟩
      ·obtain rfl:r=0:=zO
       refine Xc w u 2 rfl rfl rfl rfl ?_;(conv=>whnf);exact⟨u.old,w,zW,rfl,⟨λ_=>hD.first ay I (R.done hD),λh=>(by cases h)⟩,zO⟩
section
attribute [local irreducible] Bh By AJ
def iI:∀(n:Nat) (l:List Nat),l.Nodup->(∀x∈l,x<n)->l.length<=n
 | 0,l,_,h=>by
   cases l with
   | nil=>exact I_ _
   | cons x l=>exact absurd (h x yN) (Nat.not_lt_zero _)
 | n+1,l,hd,h=>by
   have j:=iI n (l.filter λx=>zT (x<n)) (hd.filter _) (λx b=>by simpa using(yS.1 b).2);have k:(l.filter λx=> !zT (x<n)).length<=1:=by
    have a:(l.filter λx=> !zT (x<n)).Nodup:=hd.filter _;have c:∀x∈l.filter (λx=> !zT (x<n)),x=n:=λx b=>by
     have⟨d,e⟩:=yS.1 b;have:=h x d;simp at e;omega
    generalize l.filter (λx=> !zT (x<n))=m at a c
    match m,a,c with
    | [],_,_=>simp
    | [_],_,_=>simp
    | x::y::r,a,c=>
      have f:=c x zZ;have e2:=c y zZ;rw[f,e2]at a;simp at a
   have g:∀m:List Nat,(m.filter λx=>zT (x<n)).length+(m.filter λx=> !zT (x<n)).length=m.length:=λm=>by
    induction m with
    | nil=>rfl
    | cons x m p=>by_cases b:x<n<;>simp[sN,b]<;>omega
   have:=g l;omega
def AfC{α:Type}{f:α->Nat}{l:List α}(a:l.Nodup)(b:∀x∈l,∀y∈l,f x=f y->x=y):(l.map f).Nodup:=by unfold List.Nodup;rw[List.pairwise_map];exact(List.Pairwise.and_mem.1 a).imp fun{x y} ⟨c,d,g⟩ e=>g (b x c y d e)
def inA(o:Option AM)(q:Int):Prop:=0<=q/\q<stN o
structure BM(o:Option AM):Prop where
 n1:1<=stN o
 n2:stN o<=65536
 step:∀q b,inA o q->b<256->inA o (Ao o q b)
def BM.zero{o:Option AM}(h:BM o):inA o 0:=⟨Int.le_refl _,by have:=h.n1;omega⟩
def Yh{v:v_}{o:Option AM}(h:AS S H v o)(c:q<stN o)(e:b<256):0<=Ao o (q:Int) b/\Ao o (q:Int) b<stN o:=by cases o with|none=>have:q=0:=by{simp only[stN]at c;omega};subst this;decide+revert|some A=>obtain⟨pb,rfl,d,a,_⟩:=h;exact TN a zO (by simp only[stN]at c;omega) e
def AS.steps{v:v_}{o:Option AM}(h:AS S H v o):BM o:=⟨(iW h).1,(iW h).2,λq b a c=>by
   obtain⟨n,rfl⟩:=uF a.1;exact Yh h (by have:=a.2;omega) c⟩
def bG{o:Option AM}{g:List Nat}(h:CB o g){r:Nat}(j:r<256)(b:c<256)(hs:∀s∈Au o,s.getLsbD r=s.getLsbD c)(q:Int):Ao o q r=Ao o q c:=by by_cases d:q<0\/(stN o:Int)<=q;{unfold Ao;rw[H_ d,H_ d]};obtain⟨k,s,a,e,-⟩:=h.part c b;obtain⟨l,f,-⟩:=h.least k s a;have m:=(h.keeps k s l c a f b e).2 q zO zO;have e2:=(h.keeps k s l r a f j (by rw[hs s (Y_ a)];exact e)).2 q zO zO;rw[m,e2]
def MZ{M C:Nat}(R:Nd->Prop)(f:Nd->Nat)(h0:R AP)(c:∀n b t,R n->b<256->t∈g.next n b->R t)(k:∀n,R n->n.Ok)(A:∀n,R n->f n<M)(B:∀n m,R n->R m->f n=f m->n=m)(d:∀n b,(g.next n b).length<=C) (c0:1<=C) (p:C*(256*M)<=5864062014805) (z:∀b∈by_,b<256) (q:by_.length<=256):FR g by_ M C:=by have j:∀n,BJ g by_ AP n->R n:=λn h=>by{induction h with|refl=>exact h0|step H r D E=>exact c _ _ _ E (z _ r) D};refine⟨z,q,λn u=>k n (j n u),λl F a=>?_,λn b t _ _=>V' List.count_le_length (d n b),c0,p⟩;rw[<-d_ (f:=f)];refine iI M _ (AfC F λx w y G e=>B x y (j x (a x w)) (j y (a y G)) e) λx w=>?_;obtain⟨n,u,rfl⟩:=yT.1 w;exact A n (j n (a n u))
structure InR(K:Nat)(n:Nd):Prop where
 s0:0<=n.s
 s1:n.s<=K
 x0:0<=n.x
 x1:n.x<65536
 y0:0<=n.y
 y1:n.y<65536
 z:n.s=0->n.y=0
def NE(n:Nd):Nat:=if n.s=0 then n.x.toNat else 65536+(n.s.toNat-1)*4294967296+n.x.toNat*65536+n.y.toNat
def InR.ok{K:Nat}(a:K<=2)(h:InR K n):n.Ok:=by have⟨b,c,d,e,f,g,j⟩:=h;refine⟨?_,?_,?_⟩<;>unfold zC<;>simp only[IntKind.min,IntKind.max,IntKind.signed,IntKind.bits]<;>constructor<;>simp<;>omega
def VV{K:Nat}(h:InR K n):NE n<65536+K*4294967296:=by have⟨a,b,c,d,e,f,g⟩:=h;unfold NE;split;{omega};have:(n.s.toNat-1)+1<=K:=zO;have:=vM 4294967296 this;omega
def Sr{K:Nat}{m:Nd}(h:InR K n)(k:InR K m)(e:NE n=NE m):n=m:=by obtain⟨l,p,q,r,t,u,b⟩:=h;obtain⟨w,z,A,B,C,D,c⟩:=k;obtain⟨s,x,y⟩:=n;obtain⟨d,f,g⟩:=m;simp only at*;unfold NE at e;simp only at e;have a:s=d/\x=f/\y=g:=by{split at e<;>split at e;{rename_i j e2;exact⟨zO,zO,by rw[b j,c e2]⟩};{omega};{omega};refine⟨zO,zO,zO⟩};obtain⟨rfl,rfl,rfl⟩:=a;rfl
def Yz(a b:Option AM)(n:Nd):Prop:=(n.s=0/\inA a n.x/\n.y=0)\/(n.s=1/\inA b n.x/\inA a n.y)\/(n.s=2/\inA b n.x/\inA b n.y)
section
variable{b:Option AM}
def Yz.inR(g:BM a)(j:BM b)(h:Yz a b n):InR 2 n:=by have:=g.n2;have:=j.n2;rcases h with⟨c,⟨d,e⟩,f⟩ | ⟨c,⟨d,e⟩,f,k⟩ | ⟨c,⟨d,e⟩,f,k⟩<;>constructor<;>omega
def YW(k:BM a)(e:BM b):∀n c t,Yz a b n->c<256->t∈(Gs a b).next n c->Yz a b t:=by rintro⟨s,x,y⟩ c t h d l;rcases h with⟨j,f,g⟩ | ⟨j,f,g⟩ | ⟨j,f,g⟩<;>simp only at j f g<;>subst j;{subst g;rcases IZ.1 l with rfl | ⟨-,rfl⟩;{exact .inl ⟨rfl,k.step _ _ f d,rfl⟩};exact .inr (.inl ⟨rfl,e.step _ _ e.zero d,k.step _ _ f d⟩)};{rcases Ja.1 l with rfl | ⟨-,rfl⟩;{exact .inr (.inl ⟨rfl,e.step _ _ f d,k.step _ _ g d⟩)};exact .inr (.inr ⟨rfl,e.step _ _ f d,e.step _ _ e.zero d⟩)};obtain rfl:=Lu.1 l;exact .inr (.inr ⟨rfl,e.step _ _ f d,e.step _ _ g d⟩)
def aW(n:Nd)(c:Nat):((Gs a b).next n c).length<=2:=by show(BQ a b n c).length<=2;unfold BQ;split;{split<;>simp};split;{split<;>simp};simp
def aV{r:Nat}(d:∀q,Ao a q r=Ao a q c)(e:∀q,Ao b q r=Ao b q c):(Gs a b).next n r=(Gs a b).next n c:=by show BQ a b n r=BQ a b n c;unfold BQ;simp only[d,e]
def Ai4(c:BM a)(d:BM b)(f:∀b∈by_,b<256)(g:by_.length<=256):FR (Gs a b) by_ (65536+2*4294967296) 2:=MZ (Yz a b) NE (.inl ⟨rfl,c.zero,rfl⟩) (YW c d) (λn h=>(h.inR c d).ok zQ) (λn h=>VV (h.inR c d)) (λn m h k e=>Sr (h.inR c d) (k.inR c d) e) aW zQ zQ f g
end
def RX(a:Option AM)(n:Nd):Prop:=(n.s=0/\inA a n.x/\n.y=0)\/(n.s=1/\inA a n.x/\inA a n.y)
def RX.inR(b:BM a)(h:RX a n):InR 1 n:=by have:=b.n2;rcases h with⟨c,⟨d,e⟩,f⟩ | ⟨c,⟨d,e⟩,f,g⟩<;>constructor<;>omega
def SV(b:BM a){q t:Int}(e:inA a q)(d:c<256)(h:t∈Dj a q c):inA a t:=by rcases XE.1 h with rfl | ⟨-,rfl⟩;{exact b.step _ _ e d};exact b.step _ _ b.zero d
def X5(b:BM a):∀n c t,RX a n->c<256->t∈(FY a).next n c->RX a t:=by rintro⟨s,x,y⟩ c t h d j;rcases h with⟨g,e,f⟩ | ⟨g,e,f⟩<;>simp only at g e f<;>subst g;{subst f;rcases UK.1 j with rfl | ⟨-,rfl⟩;{exact .inl ⟨rfl,b.step _ _ e d,rfl⟩};exact .inr ⟨rfl,b.step _ _ b.zero d,b.step _ _ e d⟩};obtain⟨p,k,q,l,rfl⟩:=UL.1 j;exact .inr ⟨rfl,SV b e d k,SV b f d l⟩
def Jj(q:Int)(c:Nat):(Dj a q c).length<=2:=by unfold Dj;split<;>simp
def Z5(n:Nd)(c:Nat):((FY a).next n c).length<=4:=by show(BL a n c).length<=4;unfold BL;split;{split<;>simp};have d:=Jj (a:=a) n.y c;have b:=Jj (a:=a) n.x c;rw[List.length_flatMap];simp only[d_];generalize Dj a n.y c=ys at*;generalize Dj a n.x c=xs at*;match xs,b with|[],_=>simp|[_],_=>simp;omega|[_,_],_=>simp;omega
def Z4{r:Nat}(b:∀q,Ao a q r=Ao a q c):(FY a).next n r=(FY a).next n c:=by show BL a n r=BL a n c;unfold BL Dj;simp only[b]
def Ae3(c:BM a)(d:∀b∈by_,b<256)(f:by_.length<=256):FR (FY a) by_ (65536+1*4294967296) 4:=MZ (RX a) NE (.inl ⟨rfl,c.zero,rfl⟩) (X5 c) (λn h=>(h.inR c).ok zQ) (λn h=>VV (h.inR c)) (λn m h k e=>Sr (h.inR c) (k.inR c) e) Z5 zQ zQ d f
def VJ(a b:Option AM)(n:Nd):Prop:=n.s=0/\inA a n.x/\inA b n.y
def AeK{b:Option AM}(d:BM a)(f:BM b)(u:∀b∈by_,b<256)(w:by_.length<=256):FR (FC a b) by_ 4294967296 1:=by have D:=d.n2;have nb:=f.n2;refine MZ (VJ a b) (λn=>n.x.toNat*65536+n.y.toNat) ⟨rfl,d.zero,f.zero⟩ (λn c t h g z=>?_) (λn h=>?_) (λn h=>?_) (λn m h k e=>?_) (λn c=>I_ _) zQ zQ u w;{obtain rfl:=Q_.1 z;exact⟨rfl,d.step _ _ h.2.1 g,f.step _ _ h.2.2 g⟩};{obtain⟨j,⟨l,p⟩,q,r⟩:=h;refine⟨?_,?_,?_⟩<;>unfold zC<;>simp only[IntKind.min,IntKind.max,IntKind.signed,IntKind.bits]<;>constructor<;>simp<;>omega};{obtain⟨j,⟨l,p⟩,q,r⟩:=h;omega};obtain⟨j,⟨l,p⟩,q,r⟩:=h;obtain⟨E,⟨F,G⟩,H,I⟩:=k;obtain⟨s,x,y⟩:=n;obtain⟨A,B,C⟩:=m;simp only at*;obtain⟨rfl,rfl,rfl⟩:s=A/\x=B/\y=C:=⟨zO,zO,zO⟩;rfl
def ZR{b:Option AM}{r:Nat}(d:∀q,Ao a q r=Ao a q c)(e:∀q,Ao b q r=Ao b q c):(FC a b).next n r=(FC a b).next n c:=by show [_]=[_];rw[d,e]
def Jp{os:List (Option AM)}(j:∀o∈os,∃e,CB o e){sets:List (BitVec 256)}(hs:∀o∈os,∀s∈Au o,s∈sets):∀c,c<256->∃r∈BH sets,r<=c/\∀o∈os,∀q,Ao o q r=Ao o q c:=λc a=>by
 have⟨r,f,d,b⟩:=cR sets a;refine⟨r,f,d,λo g q=>?_⟩;have⟨e,h⟩:=j o g;exact bG h (KV sets r f) a (λs h=>b s (hs o g s h)) q
def LG(sets:List (BitVec 256)):(BH sets).length<=256:=by have:=reps_len sets;unfold BH;rw[d_];exact this
def Ef(w:List Nat):(bA w).size=w.length:=by unfold bA;simp[ByteArray.size]
def MP(w:List Nat):(bA w).data.toList=w.map UInt8.ofNat:=by unfold bA;simp
def YG(w:List Nat)(i j:Nat):(bA w).extract i j=bA ((w.take j).drop i):=by apply IQ;rw[ByteArray.data_extract,Array.toList_extract,MP,MP,List.extract_eq_take_drop,List.map_drop,List.map_take,List.drop_take]
def aN(w:List Nat)(i:Nat):(bA w).extract 0 i=bA (w.take i):=by rw[YG];rfl
def aM(w:List Nat)(i:Nat):(bA w).extract i (bA w).size=bA (w.drop i):=by rw[YG,Ef,yH]
def Q0{o:Option AM}{w:List Nat}(h:BG w):Ee o (bA w)=accL o w:=by unfold Ee accL Ya O8;rw[Ef,MP,List.take_of_length_le zZ,List.foldl_map];congr 1;have:∀(w:List Nat) (q:Int),BG w->w.foldl (λq b=>Ao o q (UInt8.ofNat b).toNat) q=w.foldl (λq b=>Ao o q b) q:=λw=>by{induction w with|nil=>intro q _;rfl|cons c w f=>intro q a;have g:=a c yN;have e:(UInt8.ofNat c).toNat=c:=by{simp;omega};rw[wO,wO,e];exact f _ λd hd=>a d (yD _ hd)};exact this w 0 h
def Uv{w:List Nat}(h:BG w)(i:Nat):BG (w.take i):=λb a=>h b (List.mem_of_mem_take a)
def Uu{w:List Nat}(h:BG w)(i:Nat):BG (w.drop i):=λb a=>h b (List.mem_of_mem_drop a)
def iE(s:ByteArray):List Nat:=s.data.toList.map UInt8.toNat
def LW(s:ByteArray):BG (iE s):=λb a=>by
 obtain⟨x,-,rfl⟩:=yT.1 a;exact UInt8.toNat_lt x
def AhU(s:ByteArray):bA (iE s)=s:=by
 apply IQ;rw[MP];unfold iE;rw[List.map_map];conv=>rhs;rw[<-List.map_id s.data.toList]
 apply sO;intro x _;simp
def Jz(a b:Option AM)(s:ByteArray)(i:Nat):Bool:=Ee a (s.extract 0 i)&&Ee b (s.extract i s.size)
def Zb{b:Option AM}{w:List Nat}(h:BG w)(i:Nat):Jz a b (bA w) i=zW↔Xg a b w 0 i:=by unfold Jz;rw[aN,aM,Q0 (Uv h i),Q0 (Uu h i),o_];rfl
def JN(a b:Option AM)(t:ByteArray)(i j:Nat)(ok:Bool):Prop:=(ok=zW->∃w,t=bA w/\D0 (Gs a b) (·=AP) w/\i<j/\j<=w.length/\Jz a b t i=zW/\Jz a b t j=zW/\(∀k,k<i->Jz a b t k=zU)/\∀k,i<k->k<j->Jz a b t k=zU)/\
 (ok=zU->t=⟨#[]⟩/\i=0/\j=0/\∀u,BG u->¬DD (Gs a b) (·=AP) u)
def D0.leads{w:List Nat}(h:D0 g (·=AP) w):Dx g w AP:=by obtain⟨n,rfl,a⟩:=h.1.2.2.1;exact a
def D0.bytes{w:List Nat}(h:D0 g (·=AP) w):BG w:=h.1.2.1
def NV{l i:Nat}(a:l<=i)(h:f i=zW):∃r,l<=r/\r<=i/\f r=zW/\∀k,l<=k->k<r->f k=zU:=by have b:∀d l,i-l=d->l<=i->∃r,l<=r/\r<=i/\f r=zW/\∀k,l<=k->k<r->f k=zU:=λd=>by{induction d with|zero=>intro l hd a;obtain rfl:l=i:=zO;exact⟨l,I_ _,I_ _,h,λk e c=>zO⟩|succ d j=>intro l hd a;by_cases g:f l=zW;{exact⟨l,I_ _,a,g,λk e c=>zO⟩};have⟨r,e,c,m,n⟩:=j (l+1) zO zO;refine⟨r,zO,c,m,λk t p=>?_⟩;by_cases q:k=l;{subst q;simpa using g};exact n k zO p};exact b _ l rfl a
def bQ{b:Option AM}{w:List Nat}(g:BG w)(h:Dx (Gs a b) w AP):∃i j,i<j/\j<=w.length/\Jz a b (bA w) i=zW/\Jz a b (bA w) j=zW/\(∀k,k<i->Jz a b (bA w) k=zU)/\∀k,i<k->k<j->Jz a b (bA w) k=zU:=by have⟨i,j,n,m,p,q⟩:=(YV a b w).1 h;obtain⟨r,-,y,t,d⟩:=NV (f:=Jz a b (bA w)) (l:=0) (V_ i) ((Zb g i).2 p);have⟨s,hs,u,e,c⟩:=NV (f:=Jz a b (bA w)) (l:=r+1) (i:=j) zO ((Zb g j).2 q);exact⟨r,s,zO,zO,t,e,λk x=>d k (V_ _) x,λk n m=>c k zO m⟩
structure Fy(S:Nat->Prop)(H:Aa)(p:Nat)(o:Option AM):Prop where
 out:∃v,S p/\L_ H p 36 [v]/\AS S H v o
def Fy.frame{H':Aa}{p:Nat}{o:Option AM}(h:Fy S H p o)(k:A_ S H H'):Fy S H' p o:=by have⟨v,a,b,c⟩:=h;exact⟨v,a,b.agr k a,c.frame k⟩
def Fy.ld{S':Nat->Prop}{p:Nat}{o:Option AM}{K:v_->Prop}(h:Fy S H p o)(a:∀k,S k->S' k)(k:∀v,AS S H v o->K v):A8 prog (Instr.loadAt 36 (J_ p)) S' H K:=by have⟨v,b,c,d⟩:=h;exact C_ (c.cellE rfl) (a p b) (k v d)
def nB{p:Nat}(h:L_ H p 216 (e_ n)):YtjbnocjgdmnkoaaGreatDoor.cell H p (0+0)=zY (.int .i64 n.s):=by rw[h.cell];rfl
def Kj{p:Nat}(h:L_ H p 216 (e_ n)):YtjbnocjgdmnkoaaGreatDoor.cell H p (0+1)=zY (.int .i64 n.x):=by rw[h.cell];rfl
def Rr{p:Nat}(h:L_ H p 216 (e_ n)):YtjbnocjgdmnkoaaGreatDoor.cell H p (0+2)=zY (.int .i64 n.y):=by rw[h.cell];rfl
def Rx(H:Aa)(t:Nd):tNd.reps none_ H (e_ t) [t]:=Ty.reps_one rfl
def Oh{H1 H':Aa}(a:St H H1 ps)(b:q=H1.size)(hs:H'.size=q+1)(c:L_ H' q 216 (e_ t))(d:A_ (λk=>k<q) H1 H'):St H H' (ps++[pS tNd 216 (k_ q) 1 1 [t]]):=
 a.new (T:=tNd) (n:=1) (xs:=[t]) b hs c d (Ty.reps_one rfl) rfl zQ
section
variable{pa pb:Nat}{b:Option AM}
def Ai1(D:∀k,S k->k<H.size)(ha:Fy S H pa a)(hb:Fy S H pb b)(n:Nd)(N:c<256):Am prog 96 #[u_ n,.int .u8 (c:Int),J_ pa,J_ pb] H λv H'=>A_ (F_ H) H H'/\h_ tNd none_ H' H.size 216 v (BQ a b n c):=by refine Am.of_vc func96 rfl (call96 _) ?_;have g:∀{H':Aa} {ps:List Pc},St H H' ps->∀k,S k->k<H'.size:=λst k d=>st.up (D k d);refine Ec (St.nil H) (e_ n) rfl λp1 H1 st1=>?_;have M:=st1.blk 0 rfl;refine fa ?_;refine lT (nB M) ?_;by_cases R:n.s=0;{have d0:(n.s==0)=zW:=by{rw[R];rfl};(conv=>whnf);rw[d0];refine(ha.frame (st1.old.mono D)).ld (λ_ _=>trivial) λva E=>(fa ?_);refine C_ (Kj M) zA (Af (BW (g st1) E N) λH2 p=>?_);have w:=st1.call p;refine Ad underlying216 rfl (u_ AP) CM (e_ ⟨0,Ao a n.x c,0⟩) rfl (Az Cy (e_ ⟨0,Ao a n.x c,0⟩) rfl rfl zQ zQ ?_);intro q3 H3 ad ae ah z;have A:=Oh w ad ae ah z;have r3:=A.blk 0 rfl;refine AC.run ((ha.frame (A.old.mono D)).ld (λ_ _=>trivial) λay a0=>(fa ?_));refine C_ (Kj r3) zA (Af (BS a0) λH4 B=>?_);have l:=A.call B;cases hf:AL a n.x with|false=>(conv=>whnf);refine⟨l.old,?_⟩;have:=St.own l 1 rfl;unfold BQ;rw[H_ R,hf];exact this|true=>have r4:=l.blk 0 rfl;have t:∀k,S k->k<H4.size/\¬R_ (.slice (k_ q3) 1 1) k:=λk d=>⟨g l k d,λh=>(l.in_ 1 rfl (.inl h)).1 (D k d)⟩;have T:=l.apart (i:=0) (j:=1) zQ rfl rfl;have ai:p1<H4.size/\¬R_ (.slice (k_ q3) 1 1) p1:=⟨r4.lt,λh=>T p1 rfl (.inl h)⟩;refine Ap.held (λk=>k<H4.size/\¬R_ (.slice (k_ q3) 1 1) k) 12 (sq [0,1,2,4,5,6,7] (.f 3 (.f 8 (sq [9] (.f 10 (.f 11 (.f 12 .e))))))) rfl zX ((hb.frame (l.old.mono D)).ld t λaz a8=>((ha.frame (l.old.mono D)).ld t λaj F=>(fa ?_)));refine C_ (Kj r4) ai (Af (BW (q:=0) (g l) a8 N) λH5 C=>?_);have m:=l.call C;refine⟨C.mono λk d=>d.1,?_⟩;refine Af (BW (g m) (F.frame (C.mono λk d=>g l k d)) N) λH6 u=>?_;have O:=m.call u;have G:A_ (F_ H4) H4 H6:=C.trans (u.mono λk d=>Ak C d);refine⟨G.mono λk d=>d.1,?_⟩;refine Ad underlying216 rfl (u_ AP) CM (e_ ⟨1,Ao b 0 c,Ao a n.x c⟩) rfl (Az Cy (e_ ⟨1,Ao b 0 c,Ao a n.x c⟩) rfl rfl zQ zQ ?_);intro q7 H7 ak b0 am I;have U:=O.skip ak I;have J:A_ (F_ H4) H4 H7:=G.trans (I.mono λk d=>by have:=Ak G d;omega);refine⟨J.mono λk d=>d.1,?_⟩;refine JP (ys:=[⟨1,Ao b 0 c,Ao a n.x c⟩]) (ds:=e_ ⟨1,Ao b 0 c,Ao a n.x c⟩) U 1 Cy rfl (am.cells λj v hv=>by rw[N_];exact hv) (Rx _ _) rfl (by simp[e_,Value.oneCell']) (by simp only[g_];decide) (by simp only[g_];decide) λa' c' H8 P Q=>?_;refine⟨(J.mono λk d=>d.1).trans (Q.mono λk d=>⟨Ak J d.1,d.2⟩),?_⟩;(conv=>whnf);refine⟨P.old,?_⟩;have:=St.own P 1 rfl;unfold BQ;rw[H_ R,hf];exact this};have d0:(n.s==0)=zU:=beq_eq_false_iff_ne.2 R;(conv=>whnf);rw[d0];by_cases h1:n.s=1;{have d1:(n.s==1)=zW:=by{rw[h1];rfl};(conv=>whnf);rw[d1];refine Ap.held (F_ H1) 12 (sq [0,1,2,3,5,6,7,8] (.f 4 (.f 9 (sq [10] (.f 11 (.f 12 .e)))))) rfl zX ((hb.frame (st1.old.mono D)).ld (g st1) λvb V=>(fa ?_));refine C_ (Kj M) M.lt ((ha.frame (st1.old.mono D)).ld (g st1) λva E=>(fa ?_));refine C_ (Rr M) M.lt (Af (BW (g st1) V N) λH2 p=>?_);have w:=st1.call p;refine⟨p,?_⟩;refine Af (BW (g w) (E.frame (p.mono λk d=>g st1 k d)) N) λH3 z=>?_;have A:=w.call z;have r:A_ (F_ H1) H1 H3:=p.trans (z.mono λk d=>Ak p d);refine⟨r,?_⟩;refine Ad underlying216 rfl (u_ AP) CM (e_ ⟨1,Ao b n.x c,Ao a n.y c⟩) rfl (Az Cy (e_ ⟨1,Ao b n.x c,Ao a n.y c⟩) rfl rfl zQ zQ ?_);intro q4 H4 W X Y B;have l:=Oh A W X Y B;refine⟨r.trans (B.mono λk d=>by have:=Ak r d;omega),?_⟩;have r4:=l.blk 0 rfl;refine AC.run ((ha.frame (l.old.mono D)).ld (λ_ _=>trivial) λaj F=>(fa ?_));refine C_ (Rr r4) zA (Af (BS F) λH5 C=>?_);have m:=l.call C;cases hf:AL a n.y with|false=>(conv=>whnf);refine⟨m.old,?_⟩;have:=St.own m 1 rfl;unfold BQ;rw[G_ R,H_ h1,hf];exact this|true=>have r5:=m.blk 0 rfl;have t:∀k,S k->k<H5.size/\¬R_ (.slice (k_ q4) 1 1) k:=λk d=>⟨g m k d,λh=>(m.in_ 1 rfl (.inl h)).1 (D k d)⟩;have T:=m.apart (i:=0) (j:=1) zQ rfl rfl;have ao:p1<H5.size/\¬R_ (.slice (k_ q4) 1 1) p1:=⟨r5.lt,λh=>T p1 rfl (.inl h)⟩;refine Ap.held (λk=>k<H5.size/\¬R_ (.slice (k_ q4) 1 1) k) 12 (sq [0,1,2,3,4,6,7] (.f 5 (.f 8 (sq [9] (.f 10 (.f 11 (.f 12 .e))))))) rfl zX ((hb.frame (m.old.mono D)).ld t λb4 a9=>(fa ?_));refine C_ (Kj r5) ao ((hb.frame (m.old.mono D)).ld t λaw Z=>(Af (BW (g m) a9 N) λH6 u=>?_));have O:=m.call u;refine⟨u.mono λk d=>d.1,?_⟩;refine Af (BW (q:=0) (g O) (Z.frame (u.mono λk d=>g m k d)) N) λH7 I=>?_;have U:=O.call I;have K:A_ (F_ H5) H5 H7:=u.trans (I.mono λk d=>Ak u d);refine⟨K.mono λk d=>d.1,?_⟩;refine Ad underlying216 rfl (u_ AP) CM (e_ ⟨2,Ao b n.x c,Ao b 0 c⟩) rfl (Az Cy (e_ ⟨2,Ao b n.x c,Ao b 0 c⟩) rfl rfl zQ zQ ?_);intro q8 H8 ap b5 aq Q;have P:=U.skip ap Q;have L:A_ (F_ H5) H5 H8:=K.trans (Q.mono λk d=>by have:=Ak K d;omega);refine⟨L.mono λk d=>d.1,?_⟩;refine JP (ys:=[⟨2,Ao b n.x c,Ao b 0 c⟩]) (ds:=e_ ⟨2,Ao b n.x c,Ao b 0 c⟩) P 1 Cy rfl (aq.cells λj v hv=>by rw[N_];exact hv) (Rx _ _) rfl (by simp[e_,Value.oneCell']) (by simp only[g_];decide) (by simp only[g_];decide) λa' c' H9 ab au=>?_;refine⟨(L.mono λk d=>d.1).trans (au.mono λk d=>⟨Ak L d.1,d.2⟩),?_⟩;(conv=>whnf);refine⟨ab.old,?_⟩;have:=St.own ab 1 rfl;unfold BQ;rw[G_ R,H_ h1,hf];exact this};have d1:(n.s==1)=zU:=beq_eq_false_iff_ne.2 h1;(conv=>whnf);rw[d1];refine Ap.held (F_ H1) 12 (sq [0,1,2,3,5,6,7,8] (.f 4 (.f 9 (sq [10] (.f 11 (.f 12 .e)))))) rfl zX ((hb.frame (st1.old.mono D)).ld (g st1) λvb V=>(fa ?_));refine C_ (Kj M) M.lt ((hb.frame (st1.old.mono D)).ld (g st1) λva E=>(fa ?_));refine C_ (Rr M) M.lt (Af (BW (g st1) V N) λH2 p=>?_);have w:=st1.call p;refine⟨p,?_⟩;refine Af (BW (g w) (E.frame (p.mono λk d=>g st1 k d)) N) λH3 z=>?_;have A:=w.call z;have r:A_ (F_ H1) H1 H3:=p.trans (z.mono λk d=>Ak p d);refine⟨r,?_⟩;refine Ad underlying216 rfl (u_ AP) CM (e_ ⟨2,Ao b n.x c,Ao b n.y c⟩) rfl (Az Cy (e_ ⟨2,Ao b n.x c,Ao b n.y c⟩) rfl rfl zQ zQ ?_);intro q4 H4 W X Y B;have l:=Oh A W X Y B;refine⟨r.trans (B.mono λk d=>by have:=Ak r d;omega),?_⟩;(conv=>whnf);refine⟨l.old,?_⟩;have:=St.own l 1 rfl;unfold BQ;rw[G_ R,G_ h1];exact this
def Ai2(l:∀k,S k->k<H.size)(C:Fy S H pa a)(q:Fy S H pb b)(n:Nd):AT prog 97 #[u_ n,J_ pb,J_ pa] H (.bool (C3 a b n)):=by
 refine Am.of_vc func97 rfl (call97 _) (Ec (St.nil H) (e_ n) rfl λp1 H1 st1=>?_);have t:=st1.blk 0 rfl;refine fa ?_;refine lT (nB t) ?_;by_cases m:n.s=1;{have u:(n.s==1)=zW:=by{rw[m];rfl};have e:C3 a b n=(AL b n.x&&AL a n.y&&AL b 0):=by{unfold C3;rw[H_ m]};rw[e];(conv=>whnf);rw[u];refine(q.frame (st1.old.mono l)).ld (λ_ _=>trivial) λvb f=>(fa ?_);refine C_ (Kj t) zA (Af (BS f) λH2 g=>?_);have c:=st1.call g;have w:=c.blk 0 rfl;cases D:AL b n.x with|false=>(conv=>whnf);exact⟨rfl,c.old⟩|true=>{refine(C.frame (c.old.mono l)).ld (λ_ _=>trivial) λva h=>(fa ?_);refine C_ (Rr w) zA (Af (BS h) λH3 j=>?_);have d:=c.call j;cases E:AL a n.y with|false=>(conv=>whnf);exact⟨rfl,d.old⟩|true=>refine(q.frame (d.old.mono l)).ld (λ_ _=>trivial) λF p=>(Af (BS p) λH4 z=>?_);have A:=d.call z;(conv=>whnf);exact⟨rfl,A.old⟩}};have u:(n.s==1)=zU:=beq_eq_false_iff_ne.2 m;(conv=>whnf);rw[u];by_cases r:n.s=2;{have B:(n.s==2)=zW:=by{rw[r];rfl};have e:C3 a b n=(AL b n.x&&AL b n.y):=by{unfold C3;rw[G_ m,H_ r]};rw[e];(conv=>whnf);rw[B];refine(q.frame (st1.old.mono l)).ld (λ_ _=>trivial) λvb f=>(fa ?_);refine C_ (Kj t) zA (Af (BS f) λH2 g=>?_);have c:=st1.call g;have w:=c.blk 0 rfl;cases D:AL b n.x with|false=>(conv=>whnf);exact⟨rfl,c.old⟩|true=>refine(q.frame (c.old.mono l)).ld (λ_ _=>trivial) λva h=>(fa ?_);refine C_ (Rr w) zA (Af (BS h) λH3 j=>?_);have d:=c.call j;(conv=>whnf);exact⟨rfl,d.old⟩};have B:(n.s==2)=zU:=beq_eq_false_iff_ne.2 r;have e:C3 a b n=zU:=by unfold C3;rw[G_ m,G_ r]
 rw[e];(conv=>whnf);rw[B];(conv=>whnf);exact⟨rfl,st1.old⟩
end
def gS{vb:v_}{b:Option AM}{t:ByteArray}{l r:Nat}(m:∀k,S k->k<H.size)(A:AS S H va a)(B:AS S H vb b)(G:t.size<=1099511627776)(n:l<=r)(I:r<=t.size)(C:Jz a b t r=zW)(p:∀k,l<=k->k<r->Jz a b t k=zU):AT prog 98 #[va,vb,.string t,B_ l] H (.int .i64 (r:Int)):=by refine Am.of_vc func98 rfl (call98 _) ?_;(conv=>whnf);refine AD.mk [3] (λk:Nat=>[B_ k]) (λk H1=>l<=k/\k<=r/\St H H1 []) (λk _=>r-k) ?_ ?_;{(conv=>whnf);exact⟨l,rfl,I_ _,n,St.nil H⟩};rintro k H1 y ⟨q,D,st1⟩;have c:Jz a b t k=zT (k=r):=by{by_cases h:k=r;{subst h;rw[C];simp};rw[p k q zO];simp[h]};have g:∀{H':Aa} {ps:List Pc},St H H' ps->∀k,S k->k<H'.size:=λE k q=>E.up (m k q);refine hU lL zO zO ?_;rw[zG];refine Af (GK (g st1) (A.frame (st1.old.mono m)) (by simp only[ByteArray.size_extract,maxLen];omega)) λH2 u=>?_;have d:=st1.call u;unfold Jz at c;cases z:Ee a (t.extract 0 k)with|false=>rw[z,vX]at c;have F:k≠r:=λe=>by{rw[a_ e]at c;cases c};(conv=>whnf);rw[S_ k zO];exact⟨rfl,k+1,rfl,⟨zO,zO,d⟩,zO⟩|true=>rw[z,sI]at c;refine hW lL zO zO ?_;rw[zG];refine Af (GK (g d) (B.frame (d.old.mono m)) (by simp only[ByteArray.size_extract,maxLen];omega)) λH3 w=>?_;have j:=d.call w;rw[c];by_cases f:k=r;{subst f;rw[a_ rfl];(conv=>whnf);exact⟨rfl,j.old⟩};rw[b_ f];(conv=>whnf);rw[S_ k zO];exact⟨rfl,k+1,rfl,⟨zO,zO,j⟩,zO⟩
def AS.cells{v:v_}{o:Option AM}(h:AS S H v o):v.cells=[v].toArray/\v.oneCell'=zW:=by cases o with|none=>obtain rfl:=h;exact⟨rfl,rfl⟩|some A=>obtain⟨pb,rfl,-⟩:=h;exact⟨rfl,rfl⟩
def QW:(prog.info? 214).bind (·.zero)=zY (.agg #[.slice zV 0 0,.nilFunc,.nilFunc]):=zX
def Fk:(prog.info? 160).bind (·.zero)=zY (.agg #[.string ⟨#[]⟩,B_ 0,B_ 0]):=zX
def xN(t:ByteArray)(i j:Nat):List v_:=[.string t,B_ i,B_ j]
def NA{vb:v_}{b:Option AM}(q:∀k,S k->k<H.size)(B:AS S H va a)(C:AS S H vb b)(J:∃Y,CB a Y)(K:∃Y,CB b Y):
  Am prog 60 #[va,vb] H λv H'=>A_ (F_ H) H H'/\∃t i j ok,v= .tuple #[.agg (xN t i j).toArray,.bool ok]/\JN a b t i j ok/\t.size<=1099511627776:=by
 refine Am.of_vc func60 rfl (call60 _) ?_;have g:∀{H':Aa} {ps:List Pc},St H H' ps->∀k,S k->k<H'.size:=λst k p=>st.up (q k p);refine Ec (St.nil H) [va] B.cells.1 λp1 H1 st1=>(Ec st1 [vb] C.cells.1 λp2 H2 Z=>(BO Z _ (xN ⟨#[]⟩ 0 0) Fk rfl λp3 H3 f=>?_));have au:Fy (F_ H3) H3 p1 a:=⟨va,(f.in_ 0 rfl rfl).2,f.blk 0 rfl,(B.frame (f.old.mono q)).mono (g f)⟩;have aw:Fy (F_ H3) H3 p2 b:=⟨vb,(f.in_ 1 rfl rfl).2,f.blk 1 rfl,(C.frame (f.old.mono q)).mono (g f)⟩;refine C_ ((f.blk 0 rfl).cellE rfl) zA (C_ ((f.blk 1 rfl).cellE rfl) zA (HP WO [va] [vb] B.cells.1 C.cells.1 rfl rfl zQ zQ ?_));intro q4 H4 L ay a0 M;have u:=f.skip L M;have aq:=M.new L;have a8:c_ tV (F_ H4) H4 (k_ q4) 2 ([(va,a),(vb,b)].map (·.1)):=c_.ofBlk a0 (zO:q4<H4.size) ⟨[va],[vb],rfl,rfl,Ty.reps_one rfl⟩ rfl zQ;refine An.mk (Vq (S:=F_ H4) (os:=[(va,a),(vb,b)]) (λk p=>p) a8 zZ (λx X=>?_)) ?_
 ·rcases J'.1 X with rfl | X
  ·exact⟨(B.frame (u.old.mono q)).mono (g u),J⟩
  ·rw[Q_]at X;subst X;exact⟨(C.frame (u.old.mono q)).mono (g u),K⟩
 rintro _ H5 ⟨a9,E⟩;obtain⟨a5,c5,rfl,N⟩:=u.got a9 E;have y:∀o∈[a,b],∀s∈Au o,s∈BA [(va,a),(vb,b)]:=λo A s hs=>by
  unfold BA;simp only[vG,List.flatMap_nil,xZ,n_];rcases J'.1 A with rfl | A
  ·exact .inl hs
  ·rw[Q_]at A;subst A;exact .inr hs
 have O:=Jp (os:=[a,b]) (λo A=>by
  rcases J'.1 A with rfl | A
  ·exact J
  ·rw[Q_]at A;subst A;exact K) y
 have P:=KV (BA [(va,a),(vb,b)]);have Q:=LG (BA [(va,a),(vb,b)]);have F:=IC (BA [(va,a),(vb,b)]);clear y;rw[d_]at N ⊢;generalize BH (BA [(va,a),(vb,b)])=by_ at*;refine Ad underlying214 rfl _ QW [.slice a5 by_.length c5,.nilFunc,.nilFunc] rfl (Ec N [.slice a5 by_.length c5,.nilFunc,.nilFunc] rfl λp6 H6 ab=>(fa ?_));refine Bc ab 4 rfl zZ rfl λH7 ad=>(fa ?_);refine Bc ad 4 rfl zZ rfl λH8 e=>?_;have ae:BM a:=B.steps;have ah:BM b:=C.steps;have hg:=Ai4 ae ah P Q;have ai:∀c,c<256->∃r∈by_,r<=c/\∀n,(Gs a b).next n r=(Gs a b).next n c:=λc hc=>by
  have⟨r,hr,aj,D⟩:=O c hc;exact⟨r,hr,aj,λn=>aV (D a zZ) (D b zZ)⟩
 have R:Fy (F_ H8) H8 p1 a:=⟨va,(e.in_ 0 rfl rfl).2,e.blk 0 rfl,(B.frame (e.old.mono q)).mono (g e)⟩;have T:Fy (F_ H8) H8 p2 b:=⟨vb,(e.in_ 1 rfl rfl).2,e.blk 1 rfl,(C.frame (e.old.mono q)).mono (g e)⟩;have ak:Nu (F_ H8) H8 (J_ p6) (Gs a b) by_:=⟨p6,a5,c5,96,97,[],[J_ p1,J_ p2],[],[J_ p2,J_ p1],rfl,
  (e.in_ 4 rfl rfl).2,e.blk 4 rfl,e.view 3 rfl,λH' G n c _ hc=>Ai1 (λk p=>Ak G p) (R.frame G) (T.frame G) n (P c hc),λH' G n _=>Ai2 (λk p=>Ak G p) (R.frame G) (T.frame G) n⟩
 refine An.mk (QU (λk p=>p) hg ai F ak) ?_;rintro _ H9 ⟨am,w,ok,rfl,hR,az⟩;have m:=e.call am;cases ok with
 | false=>
   obtain⟨rfl,ao⟩:=hR.2 rfl;refine Ad underlying160 rfl _ Fk (xN ⟨#[]⟩ 0 0) rfl (AB (cs:=xN ⟨#[]⟩ 0 0) m 2 rfl rfl (zQ:0+3<=3) rfl λH10 d=>?_);rw[show As (xN ⟨#[]⟩ 0 0) 0 (xN ⟨#[]⟩ 0 0)=xN ⟨#[]⟩ 0 0 from rfl]at d;refine K_ (cs:=xN ⟨#[]⟩ 0 0) ((d.blk 2 rfl).cells λj v hv=>by rw[N_];exact hv) zA ?_;(conv=>whnf);exact⟨d.old,⟨#[]⟩,0,0,zU,rfl,⟨λh=>(by cases h),λ_=>⟨rfl,rfl,rfl,ao⟩⟩,zQ⟩
 | true=>
   have hw:=hR.1 rfl;have⟨i,j,h1,h2,h3,h4,h5,h6⟩:=bQ hw.bytes hw.leads;have I:(bA w).size<=1099511627776:=by rw[Ef];omega
   refine C_ ((m.blk 0 rfl).cellE rfl) zA (C_ ((m.blk 1 rfl).cellE rfl) zA ?_);refine Af (gS (S:=S) (l:=0) (r:=i) (g m) (B.frame (m.old.mono q)) (C.frame (m.old.mono q)) I (V_ _) (by rw[Ef];omega) h3 λk _ p=>h5 k p) λH10 U=>?_;have d:=m.call U;refine C_ ((d.blk 0 rfl).cellE rfl) zA (C_ ((d.blk 1 rfl).cellE rfl) zA ?_);(conv=>whnf);rw[S_ i zO];refine Af (gS (S:=S) (l:=i+1) (r:=j) (g d) (B.frame (d.old.mono q)) (C.frame (d.old.mono q)) I zO (by rw[Ef];omega) h4 λk p ap=>h6 k zO ap) λH11 V=>?_;have W:=d.call V;refine Ad underlying160 rfl _ Fk (xN (bA w) i j) rfl (AB (cs:=xN (bA w) i j) W 2 rfl rfl (zQ:0+3<=3) rfl λH12 z=>?_);rw[show As (xN ⟨#[]⟩ 0 0) 0 (xN (bA w) i j)=xN (bA w) i j from rfl]at z;refine K_ (cs:=xN (bA w) i j) ((z.blk 2 rfl).cells λj v hv=>by rw[N_];exact hv) zA ?_;(conv=>whnf);exact⟨z.old,bA w,i,j,zW,rfl,⟨λ_=>⟨w,rfl,hw,h1,h2,h3,h4,h5,h6⟩,λh=>(by cases h)⟩,I⟩
def iv(x:Int):v_:=.int .i64 x
def oR(H:Aa)(v:v_):tV.reps none_ H [v] [v]:=Ty.reps_one rfl
def W2{pa:Nat}(h:∀k,S k->k<H.size)(l:Fy S H pa a)(q:Int)(F:c<256):Am prog 99 #[B_ q,.int .u8 (c:Int),J_ pa] H λv H'=>A_ (F_ H) H H'/\h_ tV none_ H' H.size 3 v ((Dj a q c).map iv):=by refine Am.of_vc func99 rfl (call99 _) ?_;have m:∀{H':Aa} {ps:List Pc},St H H' ps->∀k,S k->k<H'.size:=λI k J=>I.up (h k J);refine l.ld (λ_ _=>trivial) λva p=>(Af (BW h p F) λH1 r=>?_);have st1:=(St.nil H).call r;refine Az AQ [iv (Ao a q c)] rfl rfl zQ zQ ?_;intro P H2 t u w x;have d:=st1.new (T:=tV) (n:=1) (xs:=[iv (Ao a q c)]) t u w x (oR _ _) rfl zQ;refine AC.run ((l.frame (d.old.mono h)).ld (λ_ _=>trivial) λK e=>(Af (BS e) λH3 y=>?_));have b:=d.call y;cases G:AL a q with|false=>(conv=>whnf);refine⟨b.old,?_⟩;have:=St.own b 0 rfl;unfold Dj;rw[G];exact this|true=>refine(l.frame (b.old.mono h)).ld (λ_ _=>trivial) λL f=>(Af (BW (q:=0) (m b) f F) λH4 z=>?_);have A:=b.call z;refine Az AQ [iv (Ao a 0 c)] rfl rfl zQ zQ ?_;intro Q H5 B M C D;have E:=A.skip B D;refine JP (ys:=[iv (Ao a 0 c)]) (ds:=[iv (Ao a 0 c)]) E 0 AQ rfl (C.cells λj v N=>by rw[N_];exact N) (oR _ _) rfl (by simp[iv,Value.oneCell']) (by simp only[g_];decide) (by simp only[g_];decide) λa' R H6 g O=>?_;(conv=>whnf);refine⟨g.old,?_⟩;have:=St.own g 0 rfl;unfold Dj;rw[G];exact this
structure Y8(S:Nat->Prop)(H:Aa)(p pa:Nat):Prop where
 in_:S p
 blk:L_ H p 220 [.func (.func 99) #[] #[J_ pa]]
def Y8.frame{H':Aa}{p pa:Nat}(h:Y8 S H p pa)(k:A_ S H H'):Y8 S H' p pa:=⟨h.1,h.2.agr k h.1⟩
def FF(x:Int)(ys:List Int):List Nd:=ys.map λy=>⟨1,x,y⟩
def Ae1{pa pf:Nat}(B:∀k,S k->k<H.size)(L:Fy S H pa a)(M:Y8 S H pf pa)(n:Nd)(N:c<256):
  Am prog 100 #[u_ n,.int .u8 (c:Int),J_ pa,J_ pf] H λv H'=>A_ (F_ H) H H'/\h_ tNd none_ H' H.size 216 v (BL a n c):=by refine Am.of_vc func100 rfl (call100 _) ?_;have m:∀{H':Aa} {ps:List Pc},St H H' ps->∀k,S k->k<H'.size:=λst k d=>st.up (B k d);refine Ec (St.nil H) (e_ n) rfl λp1 H1 st1=>?_;have W:=st1.blk 0 rfl;refine fa ?_;refine lT (nB W) ?_;by_cases O:n.s=0;{have X:(n.s==0)=zW:=by{rw[O];rfl};(conv=>whnf);rw[X];refine(L.frame (st1.old.mono B)).ld (λ_ _=>trivial) λva Y=>(fa ?_);refine C_ (Kj W) zA (Af (BW (m st1) Y N) λH2 F=>?_);have C:=st1.call F;refine Ad underlying216 rfl (u_ AP) CM (e_ ⟨0,Ao a n.x c,0⟩) rfl (Az Cy (e_ ⟨0,Ao a n.x c,0⟩) rfl rfl zQ zQ ?_);intro Z H3 a0 a8 a9 ab;have u:=Oh C a0 a8 a9 ab;have r3:=u.blk 0 rfl;refine AC.run ((L.frame (u.old.mono B)).ld (λ_ _=>trivial) λb9 P=>(fa ?_));refine C_ (Kj r3) zA (Af (BS P) λH4 ad=>?_);have b:=u.call ad;cases M:AL a n.x with|false=>(conv=>whnf);refine⟨b.old,?_⟩;have:=St.own b 1 rfl;unfold BL;rw[H_ O,M];exact this|true=>have r4:=b.blk 0 rfl;have g:∀k,S k->k<H4.size/\¬R_ (.slice (k_ Z) 1 1) k:=λk d=>⟨m b k d,λh=>(b.in_ 1 rfl (.inl h)).1 (B k d)⟩;have ae:=b.apart (i:=0) (j:=1) zQ rfl rfl;have ah:p1<H4.size/\¬R_ (.slice (k_ Z) 1 1) p1:=⟨r4.lt,λh=>ae p1 rfl (.inl h)⟩;refine Ap.held (λk=>k<H4.size/\¬R_ (.slice (k_ Z) 1 1) k) 12 (sq [0,1,2,4,5,6,7] (.f 3 (.f 8 (sq [9] (.f 10 (.f 11 (.f 12 .e))))))) rfl zX ((L.frame (b.old.mono B)).ld g λbd Q=>((L.frame (b.old.mono B)).ld g λbe R=>(fa ?_)));refine C_ (Kj r4) ah (Af (BW (q:=0) (m b) Q N) λH5 p=>?_);have w:=b.call p;refine⟨p.mono λk d=>d.1,?_⟩;refine Af (BW (m w) (R.frame (p.mono λk d=>m b k d)) N) λH6 T=>?_;have r:=w.call T;have z:A_ (F_ H4) H4 H6:=p.trans (T.mono λk d=>Ak p d);refine⟨z.mono λk d=>d.1,?_⟩;refine Ad underlying216 rfl (u_ AP) CM (e_ ⟨1,Ao a 0 c,Ao a n.x c⟩) rfl (Az Cy (e_ ⟨1,Ao a 0 c,Ao a n.x c⟩) rfl rfl zQ zQ ?_);intro q7 H7 ai bf aj U;have ak:=r.skip ai U;have A:A_ (F_ H4) H4 H7:=z.trans (U.mono λk d=>by have:=Ak z d;omega);refine⟨A.mono λk d=>d.1,?_⟩;refine JP (ys:=[⟨1,Ao a 0 c,Ao a n.x c⟩]) (ds:=e_ ⟨1,Ao a 0 c,Ao a n.x c⟩) ak 1 Cy rfl (aj.cells λj v hv=>by rw[N_];exact hv) (Rx _ _) rfl (by simp[e_,Value.oneCell']) (by simp only[g_];decide) (by simp only[g_];decide) λa' c' H8 D G=>?_;refine⟨(A.mono λk d=>d.1).trans (G.mono λk d=>⟨Ak A d.1,d.2⟩),?_⟩;(conv=>whnf);refine⟨D.old,?_⟩;have:=St.own D 1 rfl;unfold BL;rw[H_ O,M];exact this};{have X:(n.s==0)=zU:=beq_eq_false_iff_ne.2 O;have hR:BL a n c=(Dj a n.x c).flatMap λx=>FF x (Dj a n.y c):=by{unfold BL FF;rw[G_ O]};rw[hR];have bh:=Jj (a:=a) n.x c;have bj:=Jj (a:=a) n.y c;(conv=>whnf);rw[X];refine C_ ((M.frame (st1.old.mono B)).blk.cellE rfl) zA (fa ?_);refine C_ (Kj W) zA (An.mk (W2 (m st1) (L.frame (st1.old.mono B)) n.x N) ?_);rintro _ H2 ⟨F,I⟩;obtain⟨a2,c2,rfl,C⟩:=st1.got F I;rw[d_]at C ⊢;generalize Dj a n.x c=xs at*;have u:=C.nils tNd 216;(conv=>whnf);refine AD.mk [8,46] (λx:Nat×List Nd×Option Addr×Nat=>match x with | (i,out,a,c)=>[.slice a out.length c,B_ i]) (λx H4=>x.1<=xs.length/\x.2.1=(xs.take x.1).flatMap (λx=>FF x (Dj a n.y c))/\x.2.1.length<=2*x.1/\St H H4 [pB 216 p1 (e_ n),pS tV 3 a2 xs.length c2 (xs.map iv),pS tNd 216 x.2.2.1 x.2.1.length x.2.2.2 x.2.1]) (λx _=>xs.length-x.1) ?_ ?_;{(conv=>whnf);exact⟨(0,[],zV,0),rfl,zZ,rfl,zZ,u⟩};{rintro⟨i,out,a4,c4⟩ H4 am ⟨hi,g,ao,b⟩;simp only at hi g ao b;refine Av.m2 (λhz=>?_) (λhz=>?_);{have⟨x,hx⟩:=Ai (l:=xs) (k:=i) zO;have J:(xs.take (i+1)).flatMap (λx=>FF x (Dj a n.y c))=out++FF x (Dj a n.y c):=by{rw[g];exact LR _ hx};have q4:=b.blk 0 rfl;refine xM (j:=i) (x:=iv x) AQ b 1 rfl (by rw[I',hx];rfl) rfl λb5 o5 bn bo ap aq=>?_;obtain rfl:=aq;refine C_ ap.one zA (C_ ((M.frame (b.old.mono B)).blk.cellE rfl) zA (fa ?_));refine C_ (Rr q4) zA (An.mk (W2 (m b) (L.frame (b.old.mono B)) n.y N) ?_);rintro _ H5 ⟨p,K⟩;obtain⟨a5,c5,rfl,w⟩:=b.got p K;rw[d_]at w ⊢;generalize Dj a n.y c=ys at*;(conv=>whnf);refine AD.mk [8,56] (λx:Nat×List Nd×Option Addr×Nat=>match x with | (k,out,a,c)=>[.slice a out.length c,B_ k]) (λy H6=>y.1<=ys.length/\y.2.1=out++FF x (ys.take y.1)/\St H H6 [pB 216 p1 (e_ n),pS tV 3 a2 xs.length c2 (xs.map iv),pS tNd 216 y.2.2.1 y.2.1.length y.2.2.2 y.2.1,pS tV 3 a5 ys.length c5 (ys.map iv)]) (λy _=>ys.length-y.1) ?_ ?_;{(conv=>whnf);exact⟨(0,out,a4,c4),rfl,zZ,by simp[FF],w⟩};{rintro⟨k,V,a6,c6⟩ H6 au ⟨d,t,r⟩;simp only at d t r;refine Av.m2 (λaw=>?_) (λaw=>?_);{have⟨y,hy⟩:=Ai (l:=ys) (k:=k) zO;have E:out++FF x (ys.take (k+1))=V++[⟨1,x,y⟩]:=by{rw[t,Aj hy];simp[FF]};have b8:V.length<=2*i+k:=by{rw[t];simp only[FF,M_,d_,vL];omega};refine xM (j:=k) (x:=iv y) AQ r 3 rfl (by rw[I',hy];rfl) rfl λb7 o7 bp bq ay az=>?_;obtain rfl:=az;refine C_ ay.one zA (Ad underlying216 rfl (u_ AP) CM (e_ ⟨1,x,y⟩) rfl (Az Cy (e_ ⟨1,x,y⟩) rfl rfl zQ zQ ?_));intro q8 H8 b0 br b4 G;have D:=r.skip b0 G;refine JP (ys:=[⟨1,x,y⟩]) (ds:=e_ ⟨1,x,y⟩) D 2 Cy rfl (b4.cells λj v hv=>by rw[N_];exact hv) (Rx _ _) rfl (by simp[e_,Value.oneCell']) (by simp only[g_,maxLen];omega) (by simp only[g_];omega) λa' c' H9 b6 bu=>?_;(conv=>whnf);rw[S_ k zO];refine⟨rfl,(k+1,V++[⟨1,x,y⟩],a',c'),zZ,⟨by simp only;omega,E.symm,?_⟩,by simp only;omega⟩;simp only[M_,g_];exact b6.pick [0,1,2,3] zQ};{obtain rfl:k=ys.length:=zO;rw[yH]at t;(conv=>whnf);rw[S_ i zO];refine⟨rfl,(i+1,V,a6,c6),zZ,⟨by simp only;omega,by simp only;rw[J,t],?_,r.pick [0,1,2] zQ⟩,by simp only;omega⟩;simp only;rw[t];simp only[FF,M_,d_];omega}}};{obtain rfl:i=xs.length:=zO;rw[yH]at g;(conv=>whnf);refine⟨b.old,?_⟩;have:=St.own b 2 rfl;rw[g]at this ⊢;exact this}}}
def Ae2{pa:Nat}(j:∀k,S k->k<H.size)(l:Fy S H pa a)(n:Nd):AT prog 101 #[u_ n,J_ pa] H (.bool (GP a n)):=by refine Am.of_vc func101 rfl (call101 _) (Ec (St.nil H) (e_ n) rfl λp1 H1 st1=>?_);have m:=st1.blk 0 rfl;have e:GP a n=(n.s==1&&AL a n.x&&AL a n.y):=rfl;rw[e];refine fa ?_;refine lT (nB m) ?_;cases p:(n.s==1)with|false=>(conv=>whnf);rw[p];(conv=>whnf);exact⟨rfl,st1.old⟩|true=>{(conv=>whnf);rw[p];refine(l.frame (st1.old.mono j)).ld (λ_ _=>trivial) λvb c=>(fa ?_);refine C_ (Kj m) zA (Af (BS c) λH2 d=>?_);have b:=st1.call d;have q:=b.blk 0 rfl;cases r:AL a n.x with|false=>(conv=>whnf);exact⟨rfl,b.old⟩|true=>refine(l.frame (b.old.mono j)).ld (λ_ _=>trivial) λva f=>(fa ?_);refine C_ (Rr q) zA (Af (BS f) λH3 g=>?_);have h:=b.call g;(conv=>whnf);exact⟨rfl,h.old⟩}
def Hg(a:Option AM)(w:List Nat)(ok:Bool):Prop:=(AL a 0=zW->w=[]/\ok=zW)/\(AL a 0=zU->Ev (FY a) w ok)
def Rb(I:∀k,S k->k<H.size)(j:AS S H va a)(m:∃ls,CB a ls):
  Am prog 61 #[va] H λv H'=>A_ (F_ H) H H'/\∃w ok,v= .tuple #[.string (bA w),.bool ok]/\Hg a w ok/\w.length<=1099511627776:=by
 refine Am.of_vc func61 rfl (call61 _) ?_;have p:∀{H':Aa} {ps:List Pc},St H H' ps->∀k,S k->k<H'.size:=λst k d=>st.up (I k d);refine Ec (St.nil H) [va] j.cells.1 λp1 H1 st1=>(C_ ((st1.blk 0 rfl).cellE rfl) zA (Af (BS (q:=0) (j.frame (st1.old.mono I))) λH2 J=>?_));have t:=st1.call J;cases hf:AL a 0 with
 | true=>
   (conv=>whnf);exact⟨t.old,[],zW,rfl,⟨λ_=>⟨rfl,rfl⟩,(λh=>by rw[hf]at h;cases h)⟩,V_ _⟩
 | false=>
 refine BO t .nilFunc [.nilFunc] rfl rfl λp3 H3 K=>(Bc K 1 rfl zZ rfl λH4 u=>(C_ ((u.blk 0 rfl).cellE rfl) zA (Az WO [va] j.cells.1 rfl zQ zQ ?_)));intro q5 H5 L a0 M N;have e:=u.skip L N;have O:c_ tV (F_ H5) H5 (k_ q5) 1 ([(va,a)].map (·.1)):=c_.ofBlk M (zO:q5<H5.size) (Ty.reps_one rfl) rfl zQ;refine An.mk (Vq (S:=F_ H5) (os:=[(va,a)]) (λk d=>d) O zZ (λx hx=>?_)) ?_
 ·rw[Q_]at hx;subst hx;exact⟨(j.frame (e.old.mono I)).mono (p e),m⟩
 rintro _ H6 ⟨P,f⟩;obtain⟨Q,R,rfl,y⟩:=e.got P f;have z:=Jp (os:=[a]) (sets:=BA [(va,a)]) (λo A=>by
  rw[Q_]at A;subst A;exact m) λo A s hs=>by
   rw[Q_]at A;subst A;unfold BA;simpa using hs
 have B:=KV (BA [(va,a)]);have C:=LG (BA [(va,a)]);have g:=IC (BA [(va,a)]);rw[d_]at y ⊢;generalize BH (BA [(va,a)])=by_ at*;refine Ad underlying214 rfl _ QW [.slice Q by_.length R,.nilFunc,.nilFunc] rfl (Ec y [.slice Q by_.length R,.nilFunc,.nilFunc] rfl λp7 H7 T=>(fa ?_));refine Bc T 3 rfl zZ rfl λH8 U=>(fa ?_);refine Bc U 3 rfl zZ rfl λH9 b=>?_;have hg:=Ae3 j.steps B C;have V:∀c,c<256->∃r∈by_,r<=c/\∀n,(FY a).next n r=(FY a).next n c:=λc W=>by
  have⟨r,hr,X,D⟩:=z c W;exact⟨r,hr,X,λn=>Z4 (D a zZ)⟩
 have E:Fy (F_ H9) H9 p1 a:=⟨va,(b.in_ 0 rfl rfl).2,b.blk 0 rfl,(j.frame (b.old.mono I)).mono (p b)⟩;have Y:Y8 (F_ H9) H9 p3 p1:=⟨(b.in_ 1 rfl rfl).2,b.blk 1 rfl⟩;have Z:Nu (F_ H9) H9 (J_ p7) (FY a) by_:=⟨p7,Q,R,100,101,[],[J_ p1,J_ p3],[],[J_ p1],rfl,
  (b.in_ 3 rfl rfl).2,b.blk 3 rfl,b.view 2 rfl,λH' l n c _ W=>Ae1 (λk d=>Ak l d) (E.frame l) (Y.frame l) n (B c W),λH' l n _=>Ae2 (λk d=>Ak l d) (E.frame l) n⟩
 refine An.mk (QU (λk d=>d) hg V g Z) ?_;rintro _ H10 ⟨F,w,ok,rfl,hR,a8⟩;have G:=b.call F;(conv=>whnf);exact⟨G.old,w,ok,rfl,⟨(λh=>by rw[hf]at h;cases h),λ_=>hR⟩,zO⟩
end
section
attribute [local irreducible] Bh AJ By
end
section
attribute [local irreducible] Bh AJ
structure AhH(o:Option AM)(D:DM):Prop where
 ok:D.Ok
 n:stN o=D.next.length
 step:∀(q:Int) (b:Nat),b<256->Ao o q b=M2 D q b
 fin:∀q:Int,AL o q=AiH D q
 alive:∀q:Int,Q4 o q=Q3 D q
def aP(cells:List (BitVec 256))(next:List (List Int))(final:List Bool):AhH (DE cells next final) (HU cells next final):=⟨Zi _ _ _,YL _ _ _,λq b a=>Xo _ _ _ q a,Us _ _ _,Ur _ _ _⟩
end
section
attribute [local irreducible] Bh By AJ
def qH(f:Nat->Bool):Nat->BitVec 256 | 0=>0#256 | n+1=>if f n then qH f n ||| AR n n else qH f n
def VQ(f:Nat->Bool){b:Nat}(d:b<256):∀n,(qH f n).getLsbD b=(zT (b<n)&&f b)
 | 0=>by simp[qH]
 | n+1=>by
   have e:=VQ f d n;unfold qH;split
   ·rename_i a;rw[rS,e,Jr n n b d];by_cases h:b=n
    ·subst h;simp[a]
    ·have c:zT (b<n+1)=zT (b<n):=by rw[decide_eq_decide];omega
     have g:(zT (n<=b)&&zT (b<=n))=zU:=by simp;omega
     rw[c,g,Bool.or_false]
   ·rename_i a;rw[e];by_cases h:b=n
    ·subst h;simp[a]
    ·have c:zT (b<n+1)=zT (b<n):=by rw[decide_eq_decide];omega
     rw[c]
def kZ(f:Nat->Bool):BitVec 256:=qH f 256
def VR(f:Nat->Bool)(a:b<256):(kZ f).getLsbD b=f b:=by unfold kZ;rw[VQ f a,a_ a,sI]
def Sf(cells:List (BitVec 256)):∀b,(AJ cells b).1.Pairwise (·<·)| 0=>by rw[AJ];exact List.Pairwise.nil | b+1=>by have d:=Sf cells b;cases e:(AJ cells b).1.findIdx? (λg=>C7 cells b g)with
   | some k=>rw[N7 e];exact d
   | none=>
     rw[N6 e];refine vW.2 ⟨d,rZ _ _,λa h c f=>?_⟩;rw[Q_]at f;subst f;have⟨k,j⟩:=xB h;exact((Iq cells c).first k a j).1
end
section
attribute [local irreducible] Bh By AJ
end
def CK(cells:List (BitVec 256))(g:Nat):Bool:=(ApT g).all λh=> !C7 cells g h
section
variable{cells:List (BitVec 256)}
def B9{a:Nat}:C7 cells a b=zW↔∀c∈cells,c.getLsbD a=c.getLsbD b:=by unfold C7;simp
def DI{g:Nat}:CK cells g=zW↔∀h,h<g->C7 cells g h=zU:=by unfold CK;simp
def Ho:∀h,C7 cells b h=zW->∃g,g<=h/\C7 cells b g=zW/\CK cells g=zW:=by intro h;induction h using Nat.strongRecOn with|_ h ih=>{intro j;by_cases k:CK cells h=zW;{exact⟨h,I_ _,j,k⟩};have:∃a,a<h/\C7 cells h a=zW:=by{apply Classical.byContradiction;intro d;apply k;rw[DI];intro a e;cases hs:C7 cells h a with|false=>rfl|true=>exact absurd ⟨a,e,hs⟩ d};have⟨a,f,hs⟩:=this;have⟨g,g1,g2,m⟩:=ih a f (B9.2 λc l=>(B9.1 j c l).trans (B9.1 hs c l));exact⟨g,zO,g2,m⟩}
end
def K4(cells:List (BitVec 256)):∀b,(AJ cells b).1=(ApT b).filter (CK cells)| 0=>rfl | b+1=>by have a:=K4 cells b;rw[wS,uH];cases c:(AJ cells b).1.findIdx? λg=>C7 cells b g with
   | some k=>
     rw[N7 c];obtain⟨j,f,-⟩:=uT.1 c;have d:(AJ cells b).1[k]∈(ApT b).filter (CK cells):=by rw[<-a];exact dB j
     have e:=xO.1 (yS.1 d).1;have:CK cells b=zU:=by
      cases l:CK cells b with
      | false=>rfl
      | true=>rw[DI.1 l _ e]at f;cases f
     rw[uG (by rw[this];decide)];simpa using a
   | none=>
     rw[N6 c];have:CK cells b=zW:=by
      rw[DI];intro h n;cases hs:C7 cells b h with
      | false=>rfl
      | true=>
        have⟨g,g1,g2,m⟩:=Ho h hs;have d:g∈(AJ cells b).1:=by rw[a];exact yS.2 ⟨xO.2 zO,m⟩
        have:=List.findIdx?_eq_none_iff.1 c g d;rw[g2]at this;cases this
     rw[vF this,a];rfl
def Gl(x y:BitVec 256):Prop:=∀c,x.getLsbD c=zW->y.getLsbD c=zU
def QO{s b x:BitVec 256}(h:x∈JW s b):x=b &&& s\/x=b &&& ~~~s:=by have:=(yS.1 h).1;simpa using this
def K6(sets:List (BitVec 256)):(Cw sets).Pairwise Gl:=by have e:∀(rest d:List (BitVec 256)),d.Pairwise Gl->(rest.foldl Mt d).Pairwise Gl:=by{intro rest;induction rest with|nil=>exact λd h=>h|cons s rest j=>{intro d h;refine j _ ?_;unfold Mt;rw[eX];refine⟨λb p=>?_,h.imp fun{x y} f u k v l c a=>?_⟩;{refine List.Pairwise.filter _ (vE.2 ⟨λy g c a=>?_,rZ _ _⟩);rw[Q_]at g;subst g;rw[wN,o_]at a;rw[wN,rU,a.2];simp};have m:x.getLsbD c=zW:=by{rcases QO k with rfl | rfl<;>· rw[wN,o_]at a;exact a.1};have n:=f c m;rcases QO l with rfl | rfl<;>rw[wN,n,vX]}};exact e sets _ (rZ _ _)
def Uq(sets:List (BitVec 256)):∀x∈Cw sets,∀c d,c<256->d<256->(∀s∈sets,s.getLsbD c=s.getLsbD d)->x.getLsbD c=x.getLsbD d:=by have g:∀(rest f:List (BitVec 256)) (c d:Nat),c<256->d<256->(∀x∈f,x.getLsbD c=x.getLsbD d)->(∀s∈rest,s.getLsbD c=s.getLsbD d)->∀x∈rest.foldl Mt f,x.getLsbD c=x.getLsbD d:=by{intro rest;induction rest with|nil=>exact λf c d _ _ h _=>h|cons s rest n=>{intro f c d e hd h k;refine n _ c d e hd (λx a=>?_) λp j=>k p (yD _ j);have⟨b,q,a⟩:=uS.1 a;have l:=h b q;have m:=k s (yN ..);rcases QO a with rfl | rfl;{rw[wN,wN,l,m]};rw[wN,wN,rU,rU,l,m];simp[e,hd]}};intro x a c d e hd hs;refine g sets _ c d e hd (λx a=>?_) hs x a;rw[Q_]at a;subst a;rw[rD,rD];simp[e,hd]
def iK{l:List (BitVec 256)}(h:l.Pairwise Gl)(a:∀x∈l,x.getLsbD b=zW)(d:l≠[]):∃x,l=[x]:=by match l,d with|[x],_=>exact⟨x,rfl⟩|x::y::r,_=>have c:=(vE.1 h).1 y zZ b (a x zZ);rw[a y zZ]at c;cases c
def HF(sets:List (BitVec 256)):BH sets=(ApT 256).filter (CK sets):=by have a:=HE sets;have j:∀b,b<256->(BP (Cw sets) b).map (λc=>(AI c 0).1)=if CK sets b then [b]else []:=by{intro b q;have d:∀x∈BP (Cw sets) b,x∈Cw sets/\(AI x 0).1=b/\x.getLsbD b=zW:=λx e=>by{have⟨k,t⟩:=yS.1 e;have r:(AI x 0).1=b:=by{simpa using t};have g:=(FA (a.ne x k)).1;rw[r]at g;exact⟨k,r,g⟩};cases m:CK sets b with|false=>{rw[G_ zQ];have:BP (Cw sets) b=[]:=by{apply Classical.byContradiction;intro n;have⟨x,e⟩:=List.exists_mem_of_ne_nil _ n;have⟨k,t,r⟩:=d x e;have:∃h,h<b/\C7 sets b h=zW:=by{apply Classical.byContradiction;intro u;have:CK sets b=zW:=DI.2 λh w=>by{cases hs:C7 sets b h with|false=>rfl|true=>exact absurd ⟨h,w,hs⟩ u};rw[m]at this;cases this};have⟨h,w,hs⟩:=this;have g:=Uq sets x k b h q zO (B9.1 hs);rw[r]at g;have E:=(FA (a.ne x k)).2 h (by rw[t];exact w);rw[E]at g;cases g};rw[this];rfl}|true=>{rw[H_ rfl];have⟨x,e,f⟩:=a.all b q;have⟨F,G⟩:=FA (a.ne x e);have A:(AI x 0).1=b:=by{apply Classical.byContradiction;intro n;have B:(AI x 0).1<b:=by{rcases Nat.lt_or_ge b (AI x 0).1 with h | h;{rw[G b h]at f;cases f};omega};have hs:=a.same x e b _ f F;have:=DI.1 m _ B;rw[B9.2 hs]at this;cases this};have p:x∈BP (Cw sets) b:=yS.2 ⟨e,by rw[A];simp⟩;have⟨y,D⟩:=iK (l:=BP (Cw sets) b) (b:=b) ((K6 sets).filter _) (λz H=>(d z H).2.2) (eZ p);rw[D];have:=(d y (by rw[D];simp)).2.1;simp only[xY,List.map_nil,this]}};unfold BH Bg;rw[List.map_flatMap];have C:∀l:List Nat,(∀b∈l,b<256)->(l.flatMap λb=>(BP (Cw sets) b).map λc=>(AI c 0).1)=l.filter (CK sets):=by{intro l;induction l with|nil=>exact λ_=>rfl|cons b l I=>{intro h;rw[vG,j b (h b (yN ..)),I λx e=>h x (yD _ e)];cases m:CK sets b with|true=>rw[vF m];rfl|false=>rw[uG (by rw[m];decide)];rfl}};exact C _ λb q=>xO.1 q
section
variable{s t:List (BitVec 256)}
def UP(h:∀x,x∈s↔x∈t):CK s=CK t:=by funext g;rw[rY,DI,DI];have hs:∀a b,C7 s a b=C7 t a b:=λa b=>by{rw[rY,B9,B9];exact⟨λk c d=>k c ((h c).2 d),λk c d=>k c ((h c).1 d)⟩};constructor<;>intro k j e;{rw[<-hs];exact k j e};rw[hs];exact k j e
def XY(h:∀x,x∈s↔x∈t):BH s=(AJ t 256).1:=by rw[HF,K4,UP h]
end
section
attribute [local irreducible] Bh By AJ
section
variable{K:Type} [DecidableEq K]{most:Nat}{step:K->Nat->K}{start:K}{P:K->Prop}{x:K}
def Tw(s:Option (List K×List Nat))(b:Nat):(Cs most step x s b).map Prod.fst=(s.map Prod.fst).bind λf=>(M' most f (step x b)).map Prod.fst:=by cases s with|none=>rfl|some p=>simp only[Cs,xI,wB];cases M' most p.1 (step x b)<;>rfl
def aK{f:List K}{k:K}{i:Nat}(b:f.Nodup)(h:f[i]?=zY k):M' most f k=zY (f,i):=by unfold M';have:f.findIdx? (·=k)=zY i:=by{rw[uT];have⟨a,e⟩:=P_.1 h;refine⟨a,by simpa using e,λj c=>?_⟩;have:=(xT.1 b) j i zO a c;rw[e]at this;simpa using this};rw[this]
def K2{F F':List K}{k:K}{i:Nat}(h:M' most F k=zY (F',i)):∀y∈F',y∈F\/y=k:=by intro y a;unfold M' at h;split at h;{injection h with h;injection h with h1 h2;subst h1;exact .inl a};split at h;{injection h with h;injection h with h1 h2;subst h1;rcases n_.1 a with a | a;{exact .inl a};rw[Q_]at a;exact .inr a};cases h
def fN(hs:∀b,P (step x b)):∀(l:List Nat) (f a:List K) (r c:List Nat),l.foldl (Cs most step x) (zY (f,r))=zY (a,c)->(∀y∈f,P y)->∀y∈a,P y
 | [],f,a,r,c,h,hf=>by
   simp only[tW,AmN.injEq,Prod.mk.injEq]at h;obtain⟨rfl,-⟩:=h;exact hf
 | b::l,f,a,r,c,h,hf=>by
   rw[wO]at h;simp only[Cs,xI]at h;cases d:M' most f (step x b)with
   | none=>rw[d]at h;rw[kU,Fu]at h;cases h
   | some p=>
     rw[d]at h;refine fN hs l p.1 a _ c h λy e=>?_;rcases K2 (i:=p.2) d y e with g | rfl
     ·exact hf y g
     ·exact hs b
def KW:∀(l:List Nat) (f a:List K) (r c:List Nat),l.foldl (Cs most step x) (zY (f,r))=zY (a,c)->f.length<=most->f.Nodup->a.length<=most/\a.Nodup/\f <+: a/\∃d,c=r++d
 | [],f,a,r,c,h,h1,h2=>by
   simp only[tW,AmN.injEq,Prod.mk.injEq]at h;obtain⟨rfl,rfl⟩:=h;exact⟨h1,h2,sM _,[],zZ⟩
 | b::l,f,a,r,c,h,h1,h2=>by
   rw[wO]at h;simp only[Cs,xI]at h;cases e:M' most f (step x b)with
   | none=>rw[e]at h;rw[kU,Fu]at h;cases h
   | some p=>
     rw[e]at h;obtain⟨-,g1,g2,g⟩:=K3 (i:=p.2) e h1 h2;have⟨j,k,m,d,n⟩:=KW l p.1 a _ c h g1 g2;exact⟨j,k,g.trans m,p.2::d,by rw[n];simp⟩
def Dn(g:1<=most)(h0:P start)(hs:∀y b,P y->P (step y b))(bs:List Nat):∀(n:Nat) (f:List K) (rows:List (List Nat)),Bl most step bs start n=zY (f,rows)->f.length<=most/\f.Nodup/\f[0]?=zY start/\∀y∈f,P y
 | 0,f,rows,h=>by
   simp only[Bl,AmN.injEq,Prod.mk.injEq]at h;obtain⟨rfl,-⟩:=h;exact⟨g,zZ,rfl,λy j=>by rw[Q_]at j;subst j;exact h0⟩
 | n+1,f,rows,h=>by
   simp only[Bl]at h;cases c:Bl most step bs start n with
   | none=>rw[c]at h;cases h
   | some p=>
     have⟨g1,g2,k,d⟩:=Dn g h0 hs bs n p.1 p.2 c;rw[c]at h;simp only[xI]at h;cases e:p.1[n]? with
     | none=>
       rw[e]at h;simp only[AmN.injEq]at h;subst h;exact⟨g1,g2,k,d⟩
     | some x=>
       rw[e]at h;simp only at h;cases a:bs.foldl (Cs most step x) (zY (p.1,[]))with
       | none=>rw[a]at h;cases h
       | some r=>
         rw[a]at h;simp only[wB,AmN.injEq,Prod.mk.injEq]at h;obtain⟨rfl,-⟩:=h;obtain⟨l,m,q,-⟩:=KW bs p.1 r.1 [] r.2 a g1 g2;exact⟨l,m,EA q k,fN (λb=>hs x b (d x (Y_ e))) bs p.1 r.1 [] r.2 a d⟩
def Y0(P:K->Prop)(step:K->Nat->K)(p:Nat->Bool):Prop:=∀b,b<256->p b=zU->∃g,g<b/\p g=zW/\∀x,P x->step x g=step x b
def XZ{p:Nat->Bool}(e:Y0 P step p)(h:P x){f:List K}(j:f.length<=most)(n:f.Nodup):∀m,m<=256->((ApT m).foldl (Cs most step x) (zY (f,[]))).map Prod.fst=(((ApT m).filter p).foldl (Cs most step x) (zY (f,[]))).map Prod.fst:=by intro m;induction m with|zero=>intro _;rfl|succ m a=>{intro C;have a:=a zO;rw[wS,uH,wE,wE,wO,tW,Tw,a];cases b:p m with|true=>rw[vF b,kM,wO,tW,Tw]|false=>{rw[uG (by rw[b];decide),kM,tW];cases c:(ApT m).foldl (Cs most step x) (zY (f,[]))with|none=>rw[<-a,c];rfl|some q=>have⟨D,r⟩:=q;have⟨E,u,F,w,y⟩:=Mk j n c;have⟨g,z,A,hs⟩:=e m zO b;rw[List.length_range]at w;have⟨t,B⟩:=Ai (l:=r) (k:=g) zO;have d:=y g g t (List.getElem?_range z) B;rw[hs x h]at d;rw[<-a,c];simp only[wB,xI,aK u d]}}
def O7{p:Nat->Bool}(k:Y0 P step p)(l:1<=most)(h0:P start)(hs:∀y b,P y->P (step y b)):∀n,(Bl most step (ApT 256) start n).map Prod.fst=(Bl most step ((ApT 256).filter p) start n).map Prod.fst | 0=>rfl | n+1=>by have c:=O7 k l h0 hs n;simp only[Bl];cases h:Bl most step (ApT 256) start n with
   | none=>
     rw[h]at c;cases g:Bl most step ((ApT 256).filter p) start n with
     | none=>rfl
     | some q=>rw[g]at c;cases c
   | some q=>
     rw[h]at c;cases g:Bl most step ((ApT 256).filter p) start n with
     | none=>rw[g]at c;cases c
     | some m=>
       rw[g]at c;simp only[wB,AmN.injEq]at c;have⟨f,rows⟩:=q;have⟨w,j⟩:=m;simp only at c;subst c;have⟨g1,g2,z,t⟩:=Dn l h0 hs _ n f rows h;simp only[xI];cases u:f[n]? with
       | none=>rfl
       | some x=>
         have e:=XZ k (t x (Y_ u)) g1 g2 256 (I_ _);cases d:(ApT 256).foldl (Cs most step x) (zY (f,[]))with
         | none=>
           rw[d]at e;cases a:((ApT 256).filter p).foldl (Cs most step x) (zY (f,[]))with
           | none=>simp only[d,a];rfl
           | some r=>rw[a]at e;cases e
         | some r=>
           rw[d]at e;cases a:((ApT 256).filter p).foldl (Cs most step x) (zY (f,[]))with
           | none=>rw[a]at e;cases e
           | some A=>
             rw[a]at e;simp only[d,a];simpa using e
def DH(most:Nat)(step:K->Nat->K)(start:K):Option (List K):=(DZ most step (ApT 256) start).map Prod.fst
def VZ{p:Nat->Bool}(a:Y0 P step p)(c:1<=most)(h0:P start)(hs:∀y b,P y->P (step y b)):(DZ most step ((ApT 256).filter p) start).map Prod.fst=DH most step start:=(O7 a c h0 hs most).symm
def T6(e:1<=most){bs:List Nat}:∀(k n:Nat) (f:List K) (rows:List (List Nat)),Bl most step bs start (n+k)=zY (f,rows)->∃b a,Bl most step bs start n=zY (b,a)/\b <+: f | 0,n,f,rows,h=>⟨f,rows,h,sM _⟩ | k+1,n,f,rows,h=>by rw[<-rT]at h;simp only[Bl]at h;cases c:Bl most step bs start (n+k)with | none=>rw[c]at h;cases h | some p=> have⟨b,a,g,e2⟩:=T6 e k n p.1 p.2 c;obtain⟨g1,g2,-⟩:=Dn (P:=λ_=>True) e zA (λ_ _ _=>trivial) bs (n+k) p.1 p.2 c;rw[c]at h;simp only[xI]at h;cases j:p.1[n+k]? with
     | none=>
       rw[j]at h;simp only[AmN.injEq]at h;subst h;exact⟨b,a,g,e2⟩
     | some x=>
       rw[j]at h;simp only at h;cases d:bs.foldl (Cs most step x) (zY (p.1,[]))with
       | none=>rw[d]at h;cases h
       | some r=>
         rw[d]at h;simp only[wB,AmN.injEq,Prod.mk.injEq]at h;obtain⟨rfl,-⟩:=h;exact⟨b,a,g,e2.trans (KW bs p.1 r.1 [] r.2 d g1 g2).2.2.1⟩
def KA(b:1<=most){bs:List Nat}{F:List K}{rows:List (List Nat)}(h:DZ most step bs start=zY (F,rows)):Bl most step bs start F.length=zY (F,rows):=by obtain⟨g1,-⟩:=Dn (P:=λ_=>True) b zA (λ_ _ _=>trivial) bs most F rows h;obtain⟨f,a,c,e2⟩:=T6 b (most-F.length) F.length F rows (by rw[(zO:F.length+(most-F.length)=most)];exact h);have d:=Kp c e2.length_le most g1;have e:Bl most step bs start most=zY (F,rows):=h;rw[e]at d;rw[c];exact d.symm
def YE{b:Nat}{f a:List K}{k:K}{i:Nat}(h:M' most f k=zY (a,i))(d:a.length<=b):M' b f k=zY (a,i):=by unfold M' at h ⊢;cases c:f.findIdx? (·=k)with|some j=>rw[c]at h;exact h|none=>{rw[c]at h;simp only at h ⊢;split at h;{injection h with h;injection h with h1 h2;subst h1;simp only[M_,U_,i_]at d;rw[H_ zO,h2]};cases h}
def T5{e:Nat}:∀(l:List Nat) (f a:List K) (r c:List Nat),l.foldl (Cs most step x) (zY (f,r))=zY (a,c)->f.length<=most->f.Nodup->a.length<=e->l.foldl (Cs e step x) (zY (f,r))=zY (a,c)| [],f,a,r,c,h,_,_,_=>h | b::l,f,a,r,c,h,h1,h2,hl=>by rw[wO]at h ⊢;simp only[Cs,xI]at h ⊢;cases d:M' most f (step x b)with | none=>rw[d]at h;rw[kU,Fu]at h;cases h | some p=> rw[d]at h;obtain⟨-,g1,g2,j⟩:=K3 (i:=p.2) d h1 h2;have g:=(KW l p.1 a _ c h g1 g2).2.2.1;rw[YE (i:=p.2) d (V' g.length_le hl)];exact T5 l p.1 a _ c h g1 g2 hl
def LH{e:Nat}(d:1<=most){bs:List Nat}:∀(n:Nat) (f:List K) (rows:List (List Nat)),Bl most step bs start n=zY (f,rows)->f.length<=e->Bl e step bs start n=zY (f,rows)| 0,f,rows,h,_=>h | n+1,f,rows,h,hl=>by simp only[Bl]at h ⊢;cases a:Bl most step bs start n with | none=>rw[a]at h;cases h | some p=> obtain⟨g1,g2,-⟩:=Dn (P:=λ_=>True) d zA (λ_ _ _=>trivial) bs n p.1 p.2 a;rw[a]at h;simp only[xI]at h;cases b:p.1[n]? with
     | none=>
       rw[b]at h;simp only[AmN.injEq]at h;subst h;rw[LH d n f rows a hl];simp only[xI];rw[b]
     | some x=>
       rw[b]at h;simp only at h;cases c:bs.foldl (Cs most step x) (zY (p.1,[]))with
       | none=>rw[c]at h;cases h
       | some r=>
         rw[c]at h;simp only[wB,AmN.injEq,Prod.mk.injEq]at h;obtain⟨rfl,rfl⟩:=h;have g:=(KW bs p.1 r.1 [] r.2 c g1 g2).2.2.1;rw[LH d n p.1 p.2 a (V' g.length_le hl)];simp only[xI];rw[b];simp only;rw[T5 bs p.1 r.1 [] r.2 c g1 g2 hl];rfl
def Xu{a:Nat}(b:1<=most){bs:List Nat}{F:List K}{rows:List (List Nat)}(h:DZ most step bs start=zY (F,rows))(c:F.length<=a):DZ a step bs start=zY (F,rows):=Kp (LH b _ F rows (KA b h) c) (I_ _) a c
def L0{a:Nat}(b:1<=most){F:List K}(h:DH most step start=zY F)(c:F.length<=a):DH a step start=zY F:=by unfold DH at h ⊢;cases hd:DZ most step (ApT 256) start with|none=>rw[hd]at h;cases h|some p=>rw[hd]at h;simp only[wB,AmN.injEq]at h;subst h;rw[Xu b (rows:=p.2) hd c];rfl
def Iu(b:1<=most){F:List K}(h:DH most step start=zY F):1<=F.length/\F.length<=most/\F.Nodup/\F[0]?=zY start:=by unfold DH at h;cases hd:DZ most step (ApT 256) start with|none=>rw[hd]at h;cases h|some p=>rw[hd]at h;simp only[wB,AmN.injEq]at h;subst h;obtain⟨g1,g2,a,-⟩:=Dn (P:=λ_=>True) b zA (λ_ _ _=>trivial) (ApT 256) most p.1 p.2 hd;exact⟨(P_.1 a).1,g1,g2,a⟩
def Sy{b:Nat}(d:1<=most)(a:1<=b){F:List K}(h:DH most step start=zY F)(e:b<F.length):DH b step start=zV:=by cases c:DH b step start with|none=>rfl|some F'=>{have f:=(Iu d h).2.1;have g:=(Iu a c).2.1;rw[L0 a c zO]at h;injection h with h;subst h;omega}
end
def Gl.sym{x y:BitVec 256}(h:Gl x y):Gl y x:=λc a=>by
 cases b:x.getLsbD c with
 | false=>rfl
 | true=>rw[h c b]at a;cases a
def YB{l:List (BitVec 256)}(h:l.Pairwise Gl){x y:BitVec 256}(e:x∈l)(f:y∈l)(b:x≠y):Gl x y:=by obtain⟨i,c,rfl⟩:=eY e;obtain⟨j,d,rfl⟩:=eY f;rcases pH i j with a | rfl | a;{exact xT.1 h i j c d a};{exact absurd rfl b};exact(xT.1 h j i d c a).sym
def Ln{sets:List (BitVec 256)}{x:BitVec 256}:x∈Bg sets↔x∈Cw sets:=by unfold Bg;rw[uS];constructor;{rintro⟨b,-,a⟩;exact(yS.1 a).1};exact λh=>⟨(AI x 0).1,xO.2 (Ch x 0),yS.2 ⟨h,zZ⟩⟩
def Sg(sets:List (BitVec 256)):(Bg sets).Pairwise Gl:=by
 have a:=K6 sets;unfold Bg;rw[eX];refine⟨λb _=>a.filter _,List.pairwise_lt_range.imp fun{b c} d x f y g=>?_⟩;have⟨h,j⟩:=yS.1 f;have⟨k,l⟩:=yS.1 g;refine YB a h k λe=>?_;subst e;have m:(AI x 0).1=b:=by simpa using j
 have e2:(AI x 0).1=c:=by simpa using l
 omega
def Po(sets:List (BitVec 256))(c:b<256):cnt (Bg sets) b=1:=by unfold cnt;have⟨x,d,a⟩:=(HE sets).all b c;have⟨y,e⟩:=iK (l:=(Bg sets).filter λx=>x.getLsbD b) (b:=b) ((Sg sets).filter _) (λz f=>(yS.1 f).2) (eZ (yS.2 ⟨Ln.2 d,a⟩));rw[e];rfl
def Uc(a:O_)(l:List Int):Prop:=∀q∈l,a.has q=zW
def Y7(a:O_)(sets:List (BitVec 256)):Prop:=∀e∈a.edges,e.sil=zU->wU a e=zW->e.set∈sets
def WV(a:O_):Y7 a (CR a):=λe c hs b=>by
 unfold wU at b;rw[o_]at b;obtain⟨row,d,-,f⟩:=TU b.1;exact uS.2 ⟨row,Y_ d,yT.2 ⟨e,(f e).2 ⟨c,hs,rfl,b.2⟩,rfl⟩⟩
section
variable{a:O_}{sets:List (BitVec 256)}
def TP(n:Y7 a sets){g:Nat}(hs:C7 sets g b=zW){l:List Int}(p:Uc a l):B0 a l g=B0 a l b:=by have d:∀g b:Nat,C7 sets g b=zW->∀q,Ra a (·∈l) g q->Ra a (·∈l) b q:=λg b hs q ⟨e,h,j,r,k,m,t⟩=>⟨e,h,j,by rw[<-B9.1 hs e.set (n e h j (by unfold wU;rw[p _ k,m];rfl))];exact r,k,m,t⟩;have f:C7 sets b g=zW:=B9.2 λc u=>(B9.1 hs c u).symm;unfold B0 sV;have e:Ra a (·∈l) g=Ra a (·∈l) b:=funext λq=>propext ⟨d g b hs q,d b g f q⟩;rw[e]
def AdA(f:Y7 a sets):Y0 (Uc a) (B0 a) (CK sets):=λb m h=>by
 have⟨g,g1,g2,d⟩:=Ho (cells:=sets) (b:=b) b (Kq sets b);have j:g≠b:=λe=>by rw[e,h]at d;cases d
 exact⟨g,zO,d,λx k=>TP f (B9.2 λc l=>(B9.1 g2 c l).symm) k⟩
end
noncomputable abbrev K5(a:O_):List Int:=E1 (Lr a)
def Sk(a:O_):Uc a (K5 a):=λq b=>Ir a q ((EI (E9 (Ir a)) q).1 b)
def Qi{a:O_}(l:List Int)(b:Nat)(_:Uc a l):Uc a (B0 a l b):=LN
noncomputable def JX(a:O_)(most:Nat):Option (List (List Int)):=DH most (B0 a) (K5 a)
def detA(a:O_){most:Nat}(b:1<=most):(DZ most (B0 a) (BH (CR a)) (K5 a)).map Prod.fst=JX a most:=by rw[HF];exact VZ (AdA (WV a)) b (Sk a) Qi
structure AhK(a:O_)(F:List (List Int))(st:Int->Nat->Int)(fi:Int->Bool):Prop where
 st:∀(q b:Nat) (x:List Int),F[q]?=zY x->b<256->∃t:Nat,st (q:Int) b=(t:Int)/\F[t]?=zY (B0 a x b)
 fi:∀(q:Nat) (x:List Int),F[q]?=zY x->fi (q:Int)=zT (a.fin∈x)
section
variable{a:O_}{most:Nat}{bs:List Nat}{rows:List (List Nat)}
def U7(b:1<=most)(h:DZ most (B0 a) bs (K5 a)=zY (F,rows)):N2 most (B0 a) bs (K5 a) F.length F rows/\∀x∈F,Uc a x:=by obtain⟨-,-,-,c⟩:=Dn (P:=Uc a) b (Sk a) Qi bs most F rows h;exact⟨IE b F.length F rows (KA b h) λj d=>d,c⟩
def iS(e:N2 most (B0 a) bs (K5 a) F.length F rows){row:List Nat}(f:rows[q]?=zY row):row.length=bs.length/\∀t∈row,t<F.length:=by have g:=e.cols row (Y_ f);refine⟨g,λt h=>?_⟩;have⟨k,c⟩:=xB h;have j:=(P_.1 c).1;have⟨b,m⟩:=Ai (l:=bs) (k:=k) zO;have d:=(P_.1 f).1;rw[e.rl]at d;have⟨x,n⟩:=Ai (l:=F) (k:=q) d;exact(P_.1 (e.ok q k row b t x f m c n)).1
end
def AkU{a:O_}{most:Nat}{rows:List (List Nat)}(I:1<=most)(J:most<=65536)(h:DZ most (B0 a) (BH (CR a)) (K5 a)=zY (F,rows)):Bt (Bg (CR a)) (rows.map Bw) F.length=zW/\AhK a F (Ao (zY (BE (Bg (CR a)) (rows.map Bw) (F.map λl=>zT (a.fin∈l))))) (AL (zY (BE (Bg (CR a)) (rows.map Bw) (F.map λl=>zT (a.fin∈l)))))/\stN (zY (BE (Bg (CR a)) (rows.map Bw) (F.map λl=>zT (a.fin∈l))))=F.length:=by
 have⟨e,K⟩:=U7 I h;have Q:=(P_.1 e.zero).1;have D:=e.len;have n:(rows.map Bw).length=F.length:=by rw[d_,e.rl]
 have p:(BH (CR a)).length=(Bg (CR a)).length:=d_ _;have hs:Bt (Bg (CR a)) (rows.map Bw) F.length=zW:=by{rw[OF];refine⟨⟨zO,zO,n⟩,λb j=>Po _ j,λr L=>?_⟩;obtain⟨row,d,rfl⟩:=yT.1 L;have⟨q,M⟩:=xB d;have⟨E,G⟩:=iS e M;unfold GZ;rw[o_,beq_iff_eq,xJ];refine⟨by unfold Bw;rw[d_,E,p],λt m=>?_⟩;obtain⟨u,N,rfl⟩:=yT.1 m;have:=G u N;simp only[o_,yL];omega};have w:(F.map λl=>zT (a.fin∈l)).length=F.length:=d_ _;refine⟨hs,⟨λq b x f j=>?_,λq x f=>?_⟩,by simp only[stN,BE,d_];exact e.rl⟩;{have⟨row,d⟩:=Ai (l:=rows) (k:=q) (by rw[e.rl];exact(P_.1 f).1);have⟨E,G⟩:=iS e d;have⟨O,P⟩:=BI hs j;have⟨c,y⟩:=Ai O;have z:=P c y;have⟨t,m⟩:=Ai (l:=row) (k:=AW (Bg (CR a)) b) zO;have A:(BH (CR a))[AW (Bg (CR a)) b]?=zY (AI c 0).1:=by{unfold BH;rw[I',y];rfl};have B:=e.ok q _ row _ t x d A m f;have g:=Ln.1 (Y_ y);have H:=HE (CR a);have C:C7 (CR a) (AI c 0).1 b=zW:=B9.2 λs hs=>H.same c g _ _ (FA (H.ne c g)).1 z s hs;refine⟨t,?_,by rw[B,TP (WV a) C (K x (Y_ f))]⟩;rw[E3 (row:=Bw row) (by rw[w];exact hs) (by rw[I',d];rfl) j];unfold Bw;rw[yV,I',m];rfl};simp[AL,BE,f]
end
def AfO{α:Type}{P:List α->Prop}(h0:P [])(hs:∀(l:List α) (x:α),P l->P (l++[x]))(l:List α):P l:=by have a:∀m:List α,P m.reverse:=λm=>by{induction m with|nil=>exact h0|cons x m b=>rw[List.reverse_cons];exact hs _ x b};have:=a l.reverse;rwa [List.reverse_reverse]at this
section
variable{K:Type} [DecidableEq K]
def dd(l:List K):List K:=l.foldl (λf k=>if k∈f then f else f++[k]) []
end
structure PA where
 n:Nat
 st:Nat->Nat->Nat
 fi:Nat->Bool
structure PA.Ok(M:PA):Prop where
 pos:0<M.n
 cl:∀q b,q<M.n->b<256->M.st q b<M.n
def jH(M:PA)(by_:List Nat)(P:Nat->Nat)(q:Nat):List Nat:=P q::by_.map λb=>P (M.st q b)
def found(M:PA)(by_ l:List Nat)(P:Nat->Nat):List (List Nat):=dd (l.map (jH M by_ P))
def cls(l:List Nat)(P:Nat->Nat):Nat:=(dd (l.map P)).length
def AfT{K:Type} [DecidableEq K]{a b:List K}(f:a.Nodup)(h:∀x∈a,x∈b):a.length<=b.length:=by induction a generalizing b with|nil=>exact V_ _|cons x a g=>have⟨j,k⟩:=List.nodup_cons.1 f;have c:=h x zZ;have:=g (b:=b.erase x) k λy d=>(List.mem_erase_of_ne (λe=>j (by rw[<-e];exact d))).2 (h y (yD _ d));rw[List.length_erase_of_mem c]at this;have:=eW c;simp only[U_];omega
section
attribute [local irreducible] Bh By AJ
abbrev sS(cs:List (BitVec 256)):List Int:=(Bv cs).map fun(x:Nat)=>(x:Int)
def AfK{F:Option Addr}{G:Nat}(K:∀k,S k->k<H.size)(u:c_ Co S H F G cs)(L:cs.length<=256):Am prog 129 #[.slice F cs.length G] H λr H'=>A_ (F_ H) H H'/\∃ra rc,r= .slice ra cs.length rc/\h_ tU8 none_ H' H.size Hb (.slice ra cs.length rc) (sS cs):=by refine Am.of_vc func129 rfl (call129 _) (EV Ct rfl zO zO zO zO ?_);intro rb H1 w y f z;rw[zG]at f;rw[zG,show(0:Int).toNat=0 from rfl];have st1:=(St.nil H).newCap (T:=tU8) (cap:=cs.length) w y f z (by simp[Dc]) (by unfold maxLen;omega);(conv=>whnf);refine AD.mk [3,13] (λx:Nat×Option Addr×Nat=>match x with | (i,a,c)=>[.slice a i c,B_ i]) (λx H2=>match x with | (i,a,c)=>i<=cs.length/\St H H2 [pS tU8 Hb a i c (sS (cs.take i))]) (λx _=>cs.length-x.1) ?_ ?_;{(conv=>whnf);exact⟨(0,zY ⟨rb,0,zV⟩,cs.length),rfl,V_ _,st1⟩};rintro⟨i,a,c⟩ H2 A ⟨U,b⟩;refine Av.m2 (λM=>?_) (λM=>?_);{have⟨x,I⟩:=Ai (l:=cs) (k:=i) zO;have g:=Ch x 0;refine zP (i:=i) Cj (u.frame (b.old.mono K)) I rfl ?_;rintro V W N O B rfl;refine K_ (cs:=Ag x) B zA (BO b (AX 0) (Ag 0) rfl rfl λX H8 C=>(AB (cs:=Ag x) C 1 rfl rfl (I_ _) rfl λH9 e=>?_));rw[AA (show(Ag x).length=(Ag 0).length from rfl)]at e;refine K_ (cs:=Ag x) ((e.blk 1 rfl).cells λj v P=>by rw[N_];exact P) zA ?_;refine Af (Kk x 0 zQ H9) λH10 h=>?_;have m:=e.call h;refine Az Ct [.int .u8 ((AI x 0).1:Int)] rfl rfl zQ zQ ?_;intro Q H11 n J p q;have t:(sS (cs.take i)).length=i:=by{simp only[sS,Bv,d_,vL];omega};refine Ip (x:=((AI x 0).1:Int)) (m.skip n q) 0 Ct rfl p ⟨rfl,I1 g⟩ rfl zO zQ λD E H12 d _=>?_;have R:sS (cs.take i)++[((AI x 0).1:Int)]=sS (cs.take (i+1)):=by{rw[Aj I];simp[sS,Bv]};rw[R,t]at d;rw[t];(conv=>whnf);rw[S_ i zO];exact⟨rfl,(i+1,D,E),zZ,⟨zO,d.pick [0] zQ⟩,by simp only;omega⟩};obtain rfl:i=cs.length:=zO;rw[yH]at b;(conv=>whnf);exact⟨b.old,a,c,rfl,St.own b 0 rfl⟩
def pZ(x:Nat):List Nat:=D6 (x:Int)
def kN(k:List Nat):List Nat:=match k with
 | []=>[]
 | x::xs=>pZ x++xs.flatMap λy=>32::pZ y
def kB(k:List Nat):ByteArray:=⟨((kN k).map UInt8.ofNat).toArray⟩
def Aj1{s d:x_}{a:Option Addr}{n:Nat}{k:List Nat}(u:St H0 H [pS tU8 Hb a n c (k.map fun(y:Nat)=>(y:Int))])(t:k≠[])(hs:P.underlying s=zY (.slice Hb))(w:P.underlying Hb=zY (.int .u8))(hd:P.underlying d=zY .string)(h:K (.string ⟨(k.map UInt8.ofNat).toArray⟩) H):Bu P (convert s d (.slice a n c)) H K:=by have g:=u.len 0 rfl;rw[d_]at g;obtain⟨B,⟨-,m⟩,p⟩:=u.at_ 0 rfl |>.1;obtain⟨rfl,-⟩:=Nm p;rcases m with⟨l,q⟩ | ⟨b,C,D,l,-,z,-,-,-,r⟩;{rw[d_]at q;exact absurd (wL q) t};injection l with l q h3;subst l;refine VE k (e:=Hb) hs w hd (λj x A=>?_) g h;have f:((k.map fun(y:Nat)=>(y:Int)).map (Value.int .u8))[j]?=zY (.int .u8 (x:Int)):=by{rw[I',I',A];rfl};rw[<-r,tP]at f;split at f;{rw[N_,z.cell];exact f};cases f
def Mn(O:List Nat):List Int:=O.map fun(x:Nat)=>(x:Int)
end
section
attribute [local irreducible] Bh By AJ
end
section
attribute [local irreducible] Bh AJ
end
variable{D:DM}
section
attribute [local irreducible] Bh By AJ
def AhH.stepOk{o:Option AM}(h:AhH o D):BM o:=⟨by rw[h.n];exact h.ok.n1,by rw[h.n];exact h.ok.n2,λq b a c=>by
  have:=TL h.ok a.1 (by have:=a.2;rw[h.n]at this;exact this) c;unfold inA;rw[h.step q b c,h.n];exact this⟩
end
section
open Go.Shelf Go.Proofs
def SB:Go.Shelf.Ren:=⟨fun | 137=>65 | 217=>104 | 266=>131 | n=>n,fun | 9=>9 | 5=>5 | 3=>3 | n=>n,fun | n=>n⟩
def Ww:Go.Proofs.Lays.n137 prog SB:={
 mixed:=zX
 f137:=func65.trans (congrArg zY zX)
 f217:=func104.trans (congrArg zY zX)
 f266:=func131.trans (congrArg zY zX)
 t3:=underlying3
 a3:=isAgg3
 z3:=sizeOf3
 v3:=zeroValue3
 t5:=underlying5
 a5:=isAgg5
 z5:=sizeOf5
 v5:=zeroValue5
 t9:=underlying9
 a9:=isAgg9
 z9:=sizeOf9
 v9:=zeroValue9}
open Go.RowKit in
theorem strings_IndexByte(s:ByteArray)(c:Int)(w:y_):
  Calls prog 65 #[.string s,.int .u8 c] w λe a=>e= .returned (.int .i64 (Lib.indexByte s.data.toList c.toNat.toUInt8))/\a=w:=Any.strings_IndexByte Ww s c w
open Go.Lib in
theorem Jh(s:ByteArray)(c:Nat)(H:Aa):AT prog 65 #[.string s,.int .u8 (c:Int)] H (.int .i64 (indexByte s.data.toList (UInt8.ofNat c))):=by intro w a;refine⟨call65 _ w,?_⟩;refine(strings_IndexByte s (c:Int) w).mono ?_;rintro _ _ ⟨rfl,rfl⟩;exact⟨_,rfl,Z_.refl _,rfl,by subst a;exact A_.refl _ _⟩
end
open Go.Lib
def NM(n:Nat):Nat:=if n<10 then 48+n else 87+n
def HI(c:Nat)(sp:Bool):List Nat:=if c=10 then [92,110]else if c=13 then [92,114]else if c=9 then [92,116]else if c<32\/126<c then [92,120,NM (c / 16),NM (c % 16)]else if sp then [92,c]else [c]
def xQ(s:ByteArray)(c:Nat):Bool:=zT (0<=indexByte s.data.toList (UInt8.ofNat c))
def UC:List v_:=[.int .u8 110,.int .u8 10,.int .u8 114,.int .u8 13,.int .u8 116,.int .u8 9]
def DY(H:Aa):Prop:=AO H 0 0 UC/\0<H.size
def DY.agr{H':Aa}(h:DY H)(a:A_ (F_ H) H H'):DY H':=⟨h.1.eq (a 0 h.2),Ak a (show F_ H 0 from h.2)⟩
def gT:(prog.info? 165).bind (·.zero)=zY (.agg #[.int .u8 0,.int .u8 0]):=zX
def Na{i:Nat}(a:i<16):(⟨#[48,49,50,51,52,53,54,55,56,57,97,98,99,100,101,102]⟩:ByteArray).extract i (i+1)=bA [NM i]:=by have:∀i:Fin 16,(⟨#[48,49,50,51,52,53,54,55,56,57,97,98,99,100,101,102]⟩:ByteArray).extract i.1 (i.1+1)=bA [NM i.1]:=zQ;exact this ⟨i,a⟩
def EQ(u v:List Nat):bA u++bA v=bA (u++v):=by apply ByteArray.ext;rw[ByteArray.data_append];unfold bA;simp
def WR{s:ByteArray}:(zT (indexByte s.data.toList (UInt8.ofNat c)>=0))=xQ s c:=rfl
def Ic(i:Nat):Nat×Nat:=match i with
 | 0=>(110,10)
 | 1=>(114,13)
 | _=>(116,9)
def FI{s:ByteArray}(Q:DY H)(Z:c<256):AT prog 33 #[.int .u8 (c:Int),.string s] H (.string (bA (HI c (xQ s c)))):=by
 refine Am.of_vc func33 rfl (call33 _) (K_ (cs:=UC) Q.1 zA ?_);(conv=>whnf);refine AD.mk [8] (λi:Nat=>[B_ i]) (λi H1=>i<=3/\(∀j,j<i->(Ic j).2≠c)/\St H H1 []) (λi _=>3-i) ?_ ?_;{(conv=>whnf);exact⟨0,rfl,zO,λj C=>zO,St.nil H⟩};rintro i H1 D ⟨hi,h,st1⟩;refine Av.m2 (λR=>?_) (λR=>?_);{
 have E:UC.toArray.extract (i*2) (i*2+2)= #[.int .u8 ((Ic i).1:Int),.int .u8 ((Ic i).2:Int)]:=by{have:i=0\/i=1\/i=2:=zO;rcases this with rfl | rfl | rfl<;>rfl};have F:(Ic i).2=c->HI c (xQ s c)=[92,(Ic i).1]:=λe=>by{have:i=0\/i=1\/i=2:=zO;rcases this with rfl | rfl | rfl<;>(subst e;rfl)};have S:(Ic i).1<256/\(Ic i).2<256:=by{have:i=0\/i=1\/i=2:=zO;rcases this with rfl | rfl | rfl<;>decide};refine lG gM zO zO ?_;rw[zG,E];generalize (Ic i).1=l at*;generalize T:(Ic i).2=v at*;refine Aq (.agg #[.int .u8 0,.int .u8 0]) [.int .u8 0,.int .u8 0] gT rfl ?_;intro p2 H2 I J K y;have k:=st1.box I J K y;refine AB (cs:=[.int .u8 (l:Int),.int .u8 (v:Int)]) k 0 rfl rfl (I_ _) rfl λH3 a=>?_;rw[AA (by rfl)]at a;refine E_ ?_;refine lT ((a.blk 0 rfl).cellE rfl) ?_;by_cases L:v=c;{
 have m:((v:Int)==(c:Int))=zW:=by rw[L];exact beq_self_eq_true _
 (conv=>whnf);rw[m];refine E_ ?_;refine C_ ((a.blk 0 rfl).cellE rfl) zA (Az Ct [.int .u8 (l:Int)] rfl rfl zQ zQ ?_);intro N H4 d z f g;refine VE [l] rfl rfl rfl (λj x A=>by{
 cases j with
 | zero=>cases A;rw[f.cell];rfl
 | succ j=>simp at A}) rfl ?_;refine JD (by rw[show(⟨([l].map UInt8.ofNat).toArray⟩:ByteArray).size=1 from rfl];decide) ?_;(conv=>whnf);rw[F L];exact⟨rfl,(a.skip d g).old⟩};have m:((v:Int)==(c:Int))=zU:=beq_eq_false_iff_ne.2 zO;(conv=>whnf);rw[m];(conv=>whnf);rw[S_ i zO];refine⟨rfl,i+1,zZ,⟨zO,λj C=>?_,a.pick [] zQ⟩,zO⟩;rcases tT (Nat.le_of_lt_succ C)with C | rfl;{exact h j C};rw[T];exact L};obtain rfl:i=3:=zO;have U:(10:Nat)≠c:=h 0 zO;have V:(13:Nat)≠c:=h 1 zO;have W:(9:Nat)≠c:=h 2 zO;have B:HI c (xQ s c)=if c<32\/126<c then [92,120,NM (c / 16),NM (c % 16)]else if xQ s c then [92,c]else [c]:=by{unfold HI;rw[G_ (Ne.symm U),G_ (Ne.symm V),G_ (Ne.symm W)]};by_cases n:c<32\/126<c;{
 rw[B,H_ n];have O:c / 2^4=c / 16:=rfl;have p:c &&& 15=c % 16:=by rw[show(15:Nat)=2^4-1 by decide,Nat.and_two_pow_sub_one_eq_mod]
 have r:c / 16<16:=zO;have u:c % 16<16:=zO;have P:(((⟨#[92,120]⟩:ByteArray)++bA [NM (c / 16)])++bA [NM (c % 16)])=bA [92,120,NM (c / 16),NM (c % 16)]:=by{rw[show(⟨#[92,120]⟩:ByteArray)=bA [92,120]from rfl];exact(congrArg (·++bA [NM (c % 16)]) (EQ _ _)).trans (EQ _ _)};by_cases X:c<32;have m:zT ((c:Int)<32)=zW:=Y';(conv=>whnf);rw[m];rotate_left
 have m:zT ((c:Int)<32)=zU:=j_;have M:zT ((c:Int)>126)=zW:=Y';(conv=>whnf);rw[m];(conv=>whnf);rw[M];all_goals refine Ap.lex rfl zX (Lm (b:=4) zQ (Lm (b:=4) zQ ?_));(conv=>whnf);rw[w8 (x:=((c / 2^4:Nat):Int)+1) zO zO];refine M6 underlying9 zO zO (show((c / 2^4:Nat):Int)+1<=((16:Nat):Int) by omega) ?_;rw[show((c / 2^4:Nat):Int).toNat=c / 16 by omega,show(((c / 2^4:Nat):Int)+1).toNat=c / 16+1 by omega,Na r];refine JD (zQ:2+1<=maxLen) ?_;refine Ik (b:=15) ⟨by simp[IntKind.min,IntKind.signed],by simp[IntKind.max,IntKind.signed,IntKind.bits];omega⟩ ⟨zQ,zQ⟩ ?_;refine Ik (b:=15) ⟨by simp[IntKind.min,IntKind.signed],by simp[IntKind.max,IntKind.signed,IntKind.bits];omega⟩ ⟨zQ,zQ⟩ ?_;rw[p];(conv=>whnf);rw[w8 (x:=((c % 16:Nat):Int)+1) zO zO];refine M6 underlying9 zO zO (show((c % 16:Nat):Int)+1<=((16:Nat):Int) by omega) ?_;rw[show((c % 16:Nat):Int).toNat=c % 16 by omega,show(((c % 16:Nat):Int)+1).toNat=c % 16+1 by omega,Na u];refine JD (zQ:3+1<=maxLen) ?_;(conv=>whnf);rw[<-P];exact⟨rfl,st1.old⟩};rw[B,G_ n];have m:zT ((c:Int)<32)=zU:=j_;have M:zT ((c:Int)>126)=zU:=j_;(conv=>whnf);rw[m];(conv=>whnf);rw[M];refine Af (Jh s c H1) λH2 y=>?_;have k:=st1.call y;(conv=>whnf);rw[WR];have w:∀{G:Aa} {q t:Nat},L_ G q t [.int .u8 (c:Int)]->∀(j x:Nat),[c][j]?=zY x->YtjbnocjgdmnkoaaGreatDoor.cell G q (0+j)=zY (.int .u8 (x:Int)):=fun{G q t} Y j x A=>by{cases j with|zero=>cases A;rw[Y.cell];rfl|succ j=>simp at A};cases xQ s c with|true=>refine Az Ct [.int .u8 (c:Int)] rfl rfl zQ zQ ?_;intro N H4 d z f g;refine VE [c] rfl rfl rfl (w f) rfl (JD (zQ:1+1<=maxLen) ?_);(conv=>whnf);exact⟨rfl,(k.skip d g).old⟩|false=>refine Az Ct [.int .u8 (c:Int)] rfl rfl zQ zQ ?_;intro N H4 d z f g;refine VE [c] rfl rfl rfl (w f) rfl ?_;(conv=>whnf);exact⟨rfl,(k.skip d g).old⟩
def Qf:ByteArray:=⟨#[40,41,91,93,123,125,124,38,45,42,43,63,46,92,47,94]⟩
def ER:ByteArray:=⟨#[92,93,91,45,94,47]⟩
abbrev oZ(k:Nat):List Nat:=HI k (xQ ER k)
def HJ(c:Nat)(sp:Bool):(HI c sp).length<=4:=by
 unfold HI
 repeat' split
 all_goals simp
def jE(t:Nat->Bool)(i:Nat):Nat:=i+((List.range' (i+1) (255-i)).takeWhile t).length
def JL{t:Nat->Bool}:∀(m a k:Nat),k<=m->(∀q,q<k->t (a+q)=zW)->(k=m\/t (a+k)=zU)->((List.range' a m).takeWhile t).length=k
 | 0,a,k,hk,_,_=>by
   obtain rfl:k=0:=zO
   rfl
 | m+1,a,0,hk,_,b=>by
   rcases b with b | b
   ·omega
   ·rw[dC,List.takeWhile_cons_of_neg (by rw[Nat.add_zero]at b;rw[b];decide)];rfl
 | m+1,a,k+1,hk,h,b=>by
   rw[dC,List.takeWhile_cons_of_pos (by have:=h 0 zO;simpa using this),U_];rw[JL m (a+1) k zO (λq c=>by have:=h (q+1) zO;rw[(zO:a+1+q=a+(q+1))];exact this) (by
    rcases b with b | b
    ·exact .inl zO
    ·exact .inr (by rw[(zO:a+1+k=a+(k+1))];exact b))]
def AlA{t:Nat->Bool}{i j:Nat}(b:i<=j)(c:j<=255)(h:∀k,i<k->k<=j->t k=zW)(a:j=255\/t (j+1)=zU):jE t i=j:=by
 unfold jE;rw[JL (255-i) (i+1) (j-i) zO (λq d=>h _ zO zO) (by
  rcases a with a | a
  ·exact .inl zO
  ·exact .inr (by rw[(zO:i+1+(j-i)=j+1)];exact a))]
 omega
def Pj(i j:Nat):List Nat:=oZ i++(if i+1<j then [45]else [])++(if i<j then oZ j else [])
def Tc(t:Nat->Bool)(i:Nat):List Nat:=if t i&& !(zT (0<i)&&t (i-1))then Pj i (jE t i)else []
def Ib(t:Nat->Bool)(n:Nat):List Nat:=(ApT n).flatMap (Tc t)
def AfL(i j:Nat):(Pj i j).length<=9:=by unfold Pj;have a:(oZ i).length<=4:=HJ i (xQ ER i);have b:(oZ j).length<=4:=HJ j (xQ ER j);simp only[M_];split<;>split<;>simp only[U_,i_]<;>omega
def Af5(t:Nat->Bool)(i:Nat):(Tc t i).length<=9:=by unfold Tc;split;{exact AfL _ _};exact V_ _
def K7(t:Nat->Bool)(n:Nat):Ib t (n+1)=Ib t n++Tc t n:=by unfold Ib;rw[wS,tF];simp
def QB(t:Nat->Bool):∀n,(Ib t n).length<=9*n | 0=>I_ _ | n+1=>by rw[K7,M_];have:=QB t n;have:=Af5 t n;omega
def aO{t:Nat->Bool}{i:Nat}(h:t i=zU):Ib t (i+1)=Ib t i:=by rw[K7];unfold Tc;rw[h];simp
def AjA{t:Nat->Bool}(h0:0<k)(h:t (k-1)=zW):Tc t k=[]:=by unfold Tc;rw[h,a_ h0];simp
def YK{t:Nat->Bool}{i:Nat}:∀d,(∀k,i<=k->k<i+d->t k=zW)->Ib t (i+1+d)=Ib t (i+1)| 0,_=>rfl | d+1,h=>by rw[show i+1+(d+1)=(i+1+d)+1 by omega,K7,AjA (by omega) (h _ (by omega) (by omega)),xZ];exact YK d λk a b=>h k a (by omega)
def VO{t:Nat->Bool}{i j:Nat}(c:t i=zW)(a:i=0\/t (i-1)=zU)(d:i<=j)(f:j<=255)(h:∀k,i<k->k<=j->t k=zW)(g:j=255\/t (j+1)=zU):Ib t (j+1)=Ib t i++Pj i j:=by have:=YK (t:=t) (i:=i) (j-i) λk b l=>by{rcases tT b with m | rfl;{exact h k m zO};exact c};rw[(zO:j+1=i+1+(j-i)),this,K7];congr 1;unfold Tc;have e:(zT (0<i)&&t (i-1))=zU:=by{rcases a with rfl | a;{rfl};rw[a];simp};rw[c,e,AlA d f h g];rfl
def M0(s:BitVec 256):List Nat:=if BB s=1 then HI (AI s 0).1 (xQ Qf (AI s 0).1)else(if 128<BB s then [91,94]else [91])++Ib (λk=>(if 128<BB s then ~~~s else s).getLsbD k) 256++[93]
def TG(s:BitVec 256):(M0 s).length<=2400:=by
 unfold M0;split;{exact V' (HJ _ _) zQ};have:=QB (λk=>(if 128<BB s then ~~~s else s).getLsbD k) 256;generalize Ib (λk=>(if 128<BB s then ~~~s else s).getLsbD k) 256=l at*;have a:(if 128<BB s then [91,94]else [91]:List Nat).length<=2:=by split<;>decide
 simp only[M_,g_];omega
def nZ(w:List Nat):(bA w).size=w.length:=by unfold bA;simp[ByteArray.size]
def Hi{u v:List Nat}(a:u.length<=4096)(b:v.length<=4096):(bA u).size+(bA v).size<=maxLen:=by rw[nZ,nZ];unfold maxLen;omega
def AjP{s:BitVec 256}(E:DY H):AT prog 17 #[AX s] H (.string (bA (M0 s))):=by
 refine Am.of_vc func17 rfl (call17 _) ?_;have w:∀{G:Aa} {p:Nat} {x:BitVec 256},L_ G p 65 (Ag x)->AO G p 0 (Ag x):=λh=>h.cells λj v hv=>by rw[N_];exact hv
 refine Ec (St.nil H) (Ag s) rfl λp H1 st1=>(K_ (cs:=Ag s) (w (st1.blk 0 rfl)) zA (Af (Ad9 s H1) λH2 W=>?_));have q:=st1.call W;by_cases N:BB s=1;{have X:((BB s:Int)==1)=zW:=by{rw[N];rfl};have D:M0 s=HI (AI s 0).1 (xQ Qf (AI s 0).1):=H_ N;(conv=>whnf);rw[X];refine K_ (cs:=Ag s) (w (q.blk 0 rfl)) zA (Af (Kk s 0 zQ H2) λH3 F=>?_);have y:=q.call F;refine Af (FI (s:=Qf) (E.agr y.old) (Ch s 0)) λH4 Y=>?_;(conv=>whnf);rw[D];exact⟨rfl,(y.call Y).old⟩};have X:((BB s:Int)==1)=zU:=beq_eq_false_iff_ne.2 zO;(conv=>whnf);rw[X];obtain⟨u,V⟩:∃u,u=(if 128<BB s then ~~~s else s):=⟨_,rfl⟩;obtain⟨c,O⟩:∃l:List Nat,l=(if 128<BB s then [91,94]else [91]):=⟨_,rfl⟩;have D:M0 s=c++Ib (λk=>u.getLsbD k) 256++[93]:=by rw[V,O];exact G_ N
 have ai:c.length<=2:=by rw[O];split<;>decide
 (conv=>whnf);refine AC.cut [6] (λ_:Unit=>[.string (bA c)]) (λ_ H3=>St H H3 [pB 65 p (Ag u)]) ?_ ?_;{by_cases m:128<BB s;{have Z:zT ((BB s:Int)>128)=zW:=Y';(conv=>whnf);rw[Z];refine K_ (cs:=Ag s) (w (q.blk 0 rfl)) zA (Af (SZ s H2) λH3 F=>(AB (cs:=Ag (~~~s)) (q.call F) 0 rfl rfl (I_ _) rfl λH4 d=>?_));rw[AA (show(Ag (~~~s)).length=(Ag s).length from rfl)]at d;(conv=>whnf);exact⟨rfl,(),by rw[O,H_ m]<;>rfl,by rw[V,H_ m];exact d⟩};have Z:zT ((BB s:Int)>128)=zU:=j_;(conv=>whnf);rw[Z];(conv=>whnf);exact⟨rfl,(),by rw[O,G_ m]<;>rfl,by rw[V,G_ m];exact q⟩};rintro⟨⟩ H3 a0 y;rw[D];clear D O V st1 q;obtain⟨t,ht⟩:∃t:Nat->Bool,t=λk=>u.getLsbD k:=⟨_,rfl⟩;have P:∀k,u.getLsbD k=t k:=λk=>by rw[ht]
 rw[<-ht];have I:∀n,n<=256->(c++Ib t n).length<=2306:=λn hn=>by{have:=QB t n;rw[M_];omega};(conv=>whnf);refine AD.mk [6,7] (λi:Nat=>[.string (bA (c++Ib t i)),B_ i]) (λi H4=>i<=256/\(i=0\/i=256\/t (i-1)=zU\/t i=zU)/\St H H4 [pB 65 p (Ag u)]) (λi _=>256-i) ?_ ?_;{(conv=>whnf);exact⟨0,by rw[show Ib t 0=[]from rfl,xZ];rfl,V_ _,.inl rfl,y⟩};clear y;rintro i H4 a8 ⟨hi,Q,d⟩;refine Av.m2 (λhz=>?_) (λhz=>?_);{
 have J:i<256:=zO;refine AC.run (K_ (cs:=Ag u) (w (d.blk 0 rfl)) zA ?_);(conv=>whnf);rw[w8 (x:=(i:Int)) zO zO];refine Af (P6 u i J H4) λH5 R=>?_;have K:=d.call R;rw[P];cases z:t i with|false=>(conv=>whnf);rw[S_ i zO];exact⟨rfl,i+1,by rw[aO z];simp,⟨zO,.inr (.inr (.inl z)),K⟩,zO⟩|true=>{
 have S:i=0\/t (i-1)=zU:=by{rcases Q with h | h | h | h;{exact .inl h};{omega};{exact .inr h};rw[z]at h;cases h};(conv=>whnf);refine AD.mk [8] (λj:Nat=>[B_ j]) (λj H6=>i<=j/\j<=255/\(∀k,i<k->k<=j->t k=zW)/\St H H6 [pB 65 p (Ag u)]) (λj _=>255-j) ?_ ?_;{(conv=>whnf);exact⟨i,rfl,I_ _,zO,λk N h2=>zO,K⟩};clear K d R;rintro j H6 a9 ⟨T,hj,A,L⟩;by_cases aj:j<255;{
 have d3:zT ((j:Int)<255)=zW:=Y';(conv=>whnf);rw[d3];refine lN (cs:=Ag u) (w (L.blk 0 rfl)) ?_;(conv=>whnf);rw[S_ j zO];(conv=>whnf);rw[w8 (x:=(j:Int)+1) zO zO];rw[show(j:Int)+1=((j+1:Nat):Int) by omega];refine Af (P6 u (j+1) zO H6) λH7 ab=>?_;have r:=L.call ab;rw[P];cases U:t (j+1)with|true=>{(conv=>whnf);rw[S_ j zO];refine⟨rfl,j+1,zZ,⟨zO,zO,λk N h2=>?_,r⟩,zO⟩;rcases tT h2 with h2 | rfl;{exact A k N zO};exact U}|false=>{
 have a:j=255\/t (j+1)=zU:=.inr U;have e:=VO z S T hj A a;have ad:(HI i (xQ ER i)).length<=4:=HJ _ _;have ae:(HI j (xQ ER j)).length<=4:=HJ _ _;have ah:c.length+(Ib t i).length<=2306:=by rw[<-M_];exact I i zO
 (conv=>whnf);rw[w8 (x:=(i:Int)) zO zO];refine Af (FI (s:=ER) (E.agr r.old) J) λH8 M=>?_;have b:=r.call M;refine JD (Hi (by rw[M_];omega) (show(HI i (xQ ER i)).length<=4096 by omega)) ?_;rw[EQ];refine AC.run ?_;(conv=>whnf);rw[S_ i zO];rcases(zO:j=i\/j=i+1\/i+1<j)with B | B | B;have C:zT ((j:Int)>(i:Int)+1)=zU:=j_;have e2:zT ((j:Int)>(i:Int))=zU:=j_;(conv=>whnf);rw[C];refine AC.run ?_;(conv=>whnf);rw[e2];(conv=>whnf);rw[S_ j zO];refine⟨rfl,j+1,?_,⟨zO,?_,b⟩,zO⟩;{rw[e];unfold Pj;rw[G_ zO,G_ zO];simp};rotate_left
 have C:zT ((j:Int)>(i:Int)+1)=zU:=j_;have e2:zT ((j:Int)>(i:Int))=zW:=Y';(conv=>whnf);rw[C];refine AC.run ?_;(conv=>whnf);rw[e2];(conv=>whnf);rw[w8 (x:=(j:Int)) zO zO];refine Af (FI (s:=ER) (E.agr b.old) (zO:j<256)) λH9 f=>?_;have g:=b.call f;refine JD (Hi (by simp only[M_];omega) (show(HI j (xQ ER j)).length<=4096 by omega)) ?_;rw[EQ];(conv=>whnf);rw[S_ j zO];refine⟨rfl,j+1,?_,⟨zO,?_,g⟩,zO⟩;{rw[e];unfold Pj;rw[G_ zO,H_ zO];simp};rotate_left
 have C:zT ((j:Int)>(i:Int)+1)=zW:=Y';have e2:zT ((j:Int)>(i:Int))=zW:=Y';(conv=>whnf);rw[C];refine JD (Hi (v:=[45]) (by simp only[M_];omega) zQ) ?_;rw[show(⟨#[45]⟩:ByteArray)=bA [45]from rfl,EQ];refine AC.run ?_;(conv=>whnf);rw[e2];(conv=>whnf);rw[w8 (x:=(j:Int)) zO zO];refine Af (FI (s:=ER) (E.agr b.old) (zO:j<256)) λH9 f=>?_;have g:=b.call f;refine JD (Hi (by simp only[M_,g_];omega) (show(HI j (xQ ER j)).length<=4096 by omega)) ?_;rw[EQ];(conv=>whnf);rw[S_ j zO];refine⟨rfl,j+1,?_,⟨zO,?_,g⟩,zO⟩;{rw[e];unfold Pj;rw[H_ zO,H_ zO];simp};all_goals rcases a with a | a;{exact .inr (.inl zO)};exact .inr (.inr (.inr a))}};have d3:zT ((j:Int)<255)=zU:=j_;have a:j=255\/t (j+1)=zU:=.inl zO;have r:=L;have H7:=H6;(conv=>whnf);rw[d3];have e:=VO z S T hj A a;have ad:(HI i (xQ ER i)).length<=4:=HJ _ _;have ae:(HI j (xQ ER j)).length<=4:=HJ _ _;have ah:c.length+(Ib t i).length<=2306:=by rw[<-M_];exact I i zO
 (conv=>whnf);rw[w8 (x:=(i:Int)) zO zO];refine Af (FI (s:=ER) (E.agr r.old) J) λH8 M=>?_;have b:=r.call M;refine JD (Hi (by rw[M_];omega) (show(HI i (xQ ER i)).length<=4096 by omega)) ?_;rw[EQ];refine AC.run ?_;(conv=>whnf);rw[S_ i zO];rcases(zO:j=i\/j=i+1\/i+1<j)with B | B | B;have C:zT ((j:Int)>(i:Int)+1)=zU:=j_;have e2:zT ((j:Int)>(i:Int))=zU:=j_;(conv=>whnf);rw[C];refine AC.run ?_;(conv=>whnf);rw[e2];(conv=>whnf);rw[S_ j zO];refine⟨rfl,j+1,?_,⟨zO,?_,b⟩,zO⟩;{rw[e];unfold Pj;rw[G_ zO,G_ zO];simp};rotate_left
 have C:zT ((j:Int)>(i:Int)+1)=zU:=j_;have e2:zT ((j:Int)>(i:Int))=zW:=Y';(conv=>whnf);rw[C];refine AC.run ?_;(conv=>whnf);rw[e2];(conv=>whnf);rw[w8 (x:=(j:Int)) zO zO];refine Af (FI (s:=ER) (E.agr b.old) (zO:j<256)) λH9 f=>?_;have g:=b.call f;refine JD (Hi (by simp only[M_];omega) (show(HI j (xQ ER j)).length<=4096 by omega)) ?_;rw[EQ];(conv=>whnf);rw[S_ j zO];refine⟨rfl,j+1,?_,⟨zO,?_,g⟩,zO⟩;{rw[e];unfold Pj;rw[G_ zO,H_ zO];simp};rotate_left
 have C:zT ((j:Int)>(i:Int)+1)=zW:=Y';have e2:zT ((j:Int)>(i:Int))=zW:=Y';(conv=>whnf);rw[C];refine JD (Hi (v:=[45]) (by simp only[M_];omega) zQ) ?_;rw[show(⟨#[45]⟩:ByteArray)=bA [45]from rfl,EQ];refine AC.run ?_;(conv=>whnf);rw[e2];(conv=>whnf);rw[w8 (x:=(j:Int)) zO zO];refine Af (FI (s:=ER) (E.agr b.old) (zO:j<256)) λH9 f=>?_;have g:=b.call f;refine JD (Hi (by simp only[M_,g_];omega) (show(HI j (xQ ER j)).length<=4096 by omega)) ?_;rw[EQ];(conv=>whnf);rw[S_ j zO];refine⟨rfl,j+1,?_,⟨zO,?_,g⟩,zO⟩;{rw[e];unfold Pj;rw[H_ zO,H_ zO];simp};all_goals rcases a with a | a;{exact .inr (.inl zO)};exact .inr (.inr (.inr a))}};obtain rfl:i=256:=zO;refine JD (Hi (v:=[93]) (V' (I 256 (I_ _)) zQ) zQ) ?_;rw[show(⟨#[93]⟩:ByteArray)=bA [93]from rfl,EQ];(conv=>whnf);exact⟨rfl,d.old⟩
end Go.Proofs.YtjbnocjgdmnkoaaGreatDoor
