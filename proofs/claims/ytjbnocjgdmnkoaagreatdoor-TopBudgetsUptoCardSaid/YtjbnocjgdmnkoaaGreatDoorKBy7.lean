import Derived.Test.YtjbnocjgdmnkoaaGreatDoorKBy6
import Derived.LaidEqlPtr
set_option maxHeartbeats 100000000
open Array renaming replicate -> AlY
open List renaming replicate -> ApU, cons -> ApZ
open Option renaming some -> AkN, getD -> Am6
set_option maxRecDepth 100000
open Go.Proofs.Tryz
open Go renaming Operand -> z_, Value -> v_, TypeId -> x_, Program -> w_, World -> y_
open Option renaming some -> zY, none -> zV
open Bool renaming true -> zW, false -> zU
open Decidable renaming decide -> zT
set_option linter.unusedVariables false
set_option linter.unusedSimpArgs false
set_option linter.defProp false
namespace Go.Proofs.YtjbnocjgdmnkoaaGreatDoor
variable{H G G':Aa}{b p mb g gt e:Nat}{B T:Nat->Prop}{w ws:ByteArray}{K:Aa->Prop}{l:List v_}{ps:List Pc}{P:w_}{vA vC vQ a1 a2 a3 a4:v_}{Q Q':QuM}{n:Option ReM}{S:y_->Prop}{Z:List Nat}{w0:y_}{a:Act}{N:Act->y_->Prop}{kt et:x_}{m:Nat->Option v_}{op:LO}{A C:LnM}{ds:List Deferred}{E:Fr->v_->Aa->Prop}{o':CO}
open Go.Lib
def Zq{c c':Nat}{p p':Int}(d:c<9223372036854775808)(e:zC .i64 p)(a:c'<9223372036854775808)(b:zC .i64 p'){x y:z_}{S:Nat->Prop}{K:v_->Prop}(k:K (.bool (!zT (c=c'/\p=p')))):A8 prog (do eqGuard .neq 24 x y (.agg (wY c p).toArray) (.agg (wY c' p').toArray);binOp .neq 24 (.agg (wY c p).toArray) (.agg (wY c' p').toArray)) S H K:=qS (m:=3) (la:=Kc c p) (lb:=Kc c' p') zX zQ (eqGuardType24) rfl rfl (Wg d e) (Wg a b) UF k
def Lf(s:ByteArray):(AH (zI s)).nodes=GH s:=by have:=TV (zI s);rw[MR]at this;unfold GH;omega
def W7:∀t:Tm,DJ t.node<=t.sz | .txt p s=>by show(AH (zI s)).nodes<=GH s;rw[Lf];exact I_ _ | .rx _ _=>I_ _ | .ca .. | .le .. | .nil=>V_ _
def Tm.sol:Tm->Bool | .rx .. | .ca .. | .le .. =>zW | _=>zU
variable{t x:Tm}
def LD{n:ReM}(h:t.node=zY n):n.nodes<=t.sz:=by have:=W7 t;rw[h]at this;exact this
theorem Ak6{p:Nat}{s:ByteArray}{t u:Tm}(h:wJ p s t= .inr u):u.sol=zW/\u.sz<=2*t.sz+3:=by
 unfold wJ at h;cases a:t.node with
 | some n=>
   have:=LD a;rw[a]at h;simp only at h;cases h;refine⟨rfl,?_⟩;show(if _ then _ else _:ReM).nodes<=_
   repeat' split
   all_goals (simp only[ReM.nodes];omega)
 | none=>
   rw[a]at h;simp only at h;cases t with
   | txt=>cases a
   | rx=>cases a
   | nil=>cases h
   | ca=>
     simp only at h;split at h
     ·cases h;exact⟨rfl,by simp only[Tm.sz,DJ];omega⟩
     ·cases h
   | le=>
     simp only at h;cases h
     repeat' split
     all_goals exact⟨rfl,by simp only[Tm.sz,DJ,ReM.nodes];omega⟩
section
variable{s:ByteArray}
theorem AeC{o:LO}(a:SH s=zY o):o.isI=zU:=by
 unfold SH at a
 repeat' split at a
 all_goals first | (cases a;rfl) | cases a
theorem Ad8{o:CO}(a:Su s=zY o):o.isN=zU:=by
 unfold Su at a
 repeat' split at a
 all_goals first | (cases a;rfl) | cases a
def AhW{a b u:Tm}(h:vI p s a b= .inr u):u.sol=zW/\u.sz<=a.sz+b.sz+3:=by
 unfold vI at h;have tl:∀{a b:Tm},Ld p s a b= .inr u->u.sol=zW/\u.sz<=a.sz+b.sz+3:=fun{a b} h=>by{unfold Ld at h;split at h;{split at h;{rename_i o c;cases h;refine⟨rfl,?_⟩;rw[Mp,AeC c,G_ nofun];simp only[DJ];have:Tm.nil.sz=0:=rfl;omega};cases h};{split at h;{rename_i o c;cases h;refine⟨rfl,?_⟩;rw[Me,Ad8 c,G_ nofun];simp only[DJ];omega};cases h};cases h};split at h;{
 rename_i x y e f;have g:=LD e;have j:=LD f;unfold Tv at h;repeat' split at h
 all_goals first
  | (rename_i r d
     cases h
     repeat' split at d
     all_goals first
      | (cases d;exact⟨rfl,by simp only[Tm.sz,ReM.nodes];omega⟩)
      | cases d)
  | cases h};exact tl h
end
theorem Ai6{p:Nat}{w:ByteArray}{l:Ex}{ts:List Tm}{u:Tm}(d:0<zL w)(hs:∀t∈ts,t.sz<=10000)(h:xE p w l ts= .inr u):u.sol=zW/\u.sz<=50000:=by
 have a:∀i,(ts.getD i .nil).sz<=10000:=λi=>by
  rw[List.getD_eq_getElem?_getD];cases b:ts[i]? with
  | none=>exact V_ _
  | some t=>exact hs t (Y_ b)
 have e:∀i,DJ (ts.getD i .nil).node<=10000:=λi=>V' (W7 _) (a i);have c:∀i,GH (Kv (ts.getD i .nil))<=10000:=λi=>by
  have:=a i;cases b:ts.getD i .nil<;>first | (rw[b]at this;exact this) | exact V' (show GH nx<=1 from by decide) (by decide)
 have g:=a 0;have g1:=a 1;have j:=e 0;have k:=c 0;have m:=c 1;have n:=c 2;rcases Kz d with rfl | rfl | rfl | rfl | rfl | rfl | rfl | rfl | rfl | rfl
 all_goals
  first
   | rw[YZ]at h | rw[QK]at h | rw[QM]at h | rw[Uw]at h | rw[Ux]at h | rw[QJ]at h | rw[Uy]at h | rw[QL]at h | rw[NC]at h | rw[It]at h
  unfold yE at h;split at h
  ·cases h
  ·cases h;refine⟨rfl,?_⟩;have q:Tm.nil.sz=0:=rfl;have r:GH nx=1:=rfl
   first | rw[Me] | rw[Mp]
   simp only[CO.isN,LO.isI,uE,if_true,if_false];have f:DJ zV=0:=rfl;omega
def s_.comp(a:H.size<=G.size)(b:G.size<=G'.size){k:Nat}(h:s_ (s_ B H G) G G' k):s_ B H G' k:=by rcases h with(h | h) | h;{exact .inl h};{exact .inr ⟨h.1,zO⟩};exact .inr ⟨zO,h.2⟩
def TmI.fr2{v:v_}(a:∀k,B k->k<H.size)(b:A_ (F_ H) H G)(c:A_ (F_ G) G G')(h:TmI (s_ B H G) G t v):TmI (s_ B H G') G' t v:=by have⟨w,h,e⟩:=h;exact⟨w,h.fr2 a b c,e⟩
def Ak2{x:v_}(d:∀k,B k->k<H.size)(h:TmI B H t x)(hs:t.sol=zW)(a:t.sz<=1000000000):AT prog 51 #[x] H (.int .i64 (t.sz:Int)):=by have b:AT prog 85 #[x] H (.int .i64 (t.sz:Int)):=by{obtain⟨v,h,rfl⟩:=h;cases t with|txt=>cases hs|nil=>cases hs|ca=>exact(Ku _ a d h).1 rfl|le=>exact(Ku _ a d h).2 rfl|rx p r=>{show AT prog 85 #[.iface 137 (.agg #[B_ p,Al r])] H (.int .i64 (r.nodes:Int));rw[Dk];refine Am.of_vc func85 rfl (call85 _) ?_;(repeat ((conv=>whnf);first | refine AC.run ?_ | refine TT ?_ | refine oP ?_));refine BO (St.nil H) iB [B_ 0,.nilIface] zX rfl λq H1 e=>(AB (cs:=[B_ p,.iface (Og r) (Fa r)]) e 0 rfl rfl (I_ _) rfl λH2 c=>(E_ ?_));refine C_ ((c.blk 0 rfl).cellE rfl) zA (Fb.mk (KX r) #[Fa r] (Kr r) (RF r a H2) ?_);rintro _ H3 ⟨rfl,a3⟩;(conv=>whnf);exact⟨rfl,c.old.trans (a3.mono λk f=>c.up f)⟩}};refine Am.of_vc func51 rfl (call51 _) (Af b λH1 a1=>?_);(conv=>whnf);exact⟨rfl,a1⟩
def ZP:Xh prog 88 9 42 .string .nilIface:=⟨rfl,rfl,rfl⟩
def MkO(B:Nat->Prop)(H:Aa)(env:ByteArray->Option Tm)(e:Ex)(v:v_)(G:Aa):Prop:=∃t,p_ env e=Hj e.place (.inr t)/\A_ (F_ H) H G/\TmI (s_ B H G) G t v/\t.sz<=100000/\t.sol=zW
variable{X:FT ⊕ Tm}
section
variable{env:ByteArray->Option Tm}{e:Ex}
def MkO.of{v:v_}(d:p_ env e=Hj p X)(f:e.place=p)(m:∀k,B k->k<H.size)(a:A_ (F_ H) H G)(h:rR (s_ B H G) G X v G')(hs:∀t,X= .inr t->t.sz<=100000/\t.sol=zW):MkO B H env e v G':=by have⟨t,c,a2,g⟩:=h;have j:=Ay a;have l:=Ay a2;exact⟨t,by rw[d,c,f],a.trans (a2.mono λk b=>Ak a b),g.up (λk b=>s_.comp j l b) (A_.refl _ _),hs t c⟩
def MkE.of{y:v_}(b:p_ env e=Hj p X)(a:A_ (F_ H) H G)(h:MkE G X y G'):MkE H (p_ env e) y G':=by have⟨c,q,d,f,a2⟩:=h;exact⟨c,q,by rw[b,d];rfl,f,a.trans (a2.mono λk g=>Ak a g)⟩
end
def mB:zC .i64 0:=CF (x:=0) zQ
def Y1(env:ByteArray->Option Tm):Prop:=∀s t,env s=zY t->t.good
def MkS.env_ok{env:ByteArray->Option Tm}(h:MkS B H mb env):Y1 env:=λs t hs=>by
 obtain⟨b,c,-,-,-,-,a⟩:=h;have:=a s;rw[hs]at this;exact this.choose_spec.2.2
def MV{x:FT ⊕ Tm}{ts:List Tm}(h:Hj p x= .inr ts):∃t,ts=[t]/\x= .inr t/\t.sz<=2000:=by cases x with|inl e=>cases h|inr t=>unfold Hj at h;simp only at h;split at h;{cases h};cases h;exact⟨t,rfl,rfl,zO⟩
def Va{env:ByteArray->Option Tm}(g:Y1 env):∀{e:Ex} {ts:List Tm},xC 4096 e->p_ env e= .inr ts->∀t∈ts,t.sz<=10000
 | .nm p s,ts,_,h=>by
   unfold p_ at h;cases hs:env s with
   | none=>rw[hs]at h;cases h
   | some u=>rw[hs]at h;cases h;intro t c;cases Q_.1 c;exact(g s u hs).2
 | .tx p s,ts,hb,h=>by
   cases h;intro t c;cases Q_.1 c;have:=hb.2;show GH s<=10000;unfold GH;omega
 | .re p s,ts,_,h=>by
   unfold p_ at h;have f:=LE s;cases hs:GD s with
   | inl e=>rw[hs]at h;cases h
   | inr r=>
     rw[hs]at h f;cases h;intro t c;cases Q_.1 c;have:r.nodes<=2000:=f;show r.nodes<=10000;omega
 | .kd p a,ts,_,h=>by
   unfold p_ at h
   repeat' split at h
   all_goals first
    | cases h
    | (obtain⟨t,rfl,-,j⟩:=MV h;intro u d;cases Q_.1 d;omega)
 | .un p s a,ts,_,h=>by
   unfold p_ at h
   repeat' split at h
   all_goals first
    | cases h
    | (obtain⟨t,rfl,-,j⟩:=MV h;intro u d;cases Q_.1 d;omega)
 | .bi p s a b,ts,_,h=>by
   unfold p_ at h
   repeat' split at h
   all_goals first
    | cases h
    | (obtain⟨t,rfl,-,j⟩:=MV h;intro u d;cases Q_.1 d;omega)
 | .cl p s l,ts,_,h=>by
   unfold p_ at h
   repeat' split at h
   all_goals first
    | cases h
    | (obtain⟨t,rfl,-,j⟩:=MV h;intro u d;cases Q_.1 d;omega)
 | .nil,ts,_,h=>by cases h;exact nofun
 | .cons a l,ts,hb,h=>by
   unfold p_ at h;cases k:p_ env a with
   | inl e=>rw[k]at h;cases h
   | inr n=>
     rw[k]at h;simp only at h;cases m:p_ env l with
     | inl e=>rw[m]at h;cases h
     | inr vs=>
       rw[m]at h;cases h;intro t c;rcases J'.1 c with rfl | c
       ·have:=Va g hb.1 k;cases n with
        | nil=>exact V_ _
        | cons u n=>exact this u (List.mem_cons_self ..)
       ·exact Va g hb.2 m t c
def aS{env:ByteArray->Option Tm}{l:Ex}(b:Y1 env)(c:xC 4096 l)(d:0<zL w)(h:QG env p w l= .inr t):t.sol=zW/\t.sz<=50000:=by unfold QG at h;cases a:p_ env l with|inl e=>rw[a]at h;cases h|inr ts=>rw[a]at h;exact Ai6 d (Va b c a) h
def Yf(h:t.sol=zW):t.short:=by cases t<;>first | trivial | cases h
def Ex.isE:Ex->Bool | .nil | .cons .. =>zU | _=>zW
def exZ(A:x_):v_:=if A=139 then .agg #[B_ 0,.nilIface]else if A=141 then .agg #[B_ 0,.string ⟨#[]⟩,.nilIface]else if A=144 then .agg #[B_ 0,.string ⟨#[]⟩,.nilIface,.nilIface]else if A=148 then .agg #[B_ 0,.string ⟨#[]⟩,.slice zV 0 0]else .agg #[B_ 0,.string ⟨#[]⟩]
def UD{T A t:x_}{v:v_}{S:Nat->Prop}{K:v_->Prop}(b:A=129\/A=131\/A=133\/A=139\/A=141\/A=144\/A=148)(k:K (.tuple #[if T=A then v else exZ A,.bool (T==A)])):A8 prog (Instr.typeAssert (.iface T v) t A zW) S H K:=by by_cases e:T=A;{subst e;rw[H_ rfl,beq_self_eq_true]at k;rcases b with rfl | rfl | rfl | rfl | rfl | rfl | rfl;{exact Bz underlying129 (by intro a h;cases h) k};{exact Bz underlying131 (by intro a h;cases h) k};{exact Bz underlying133 (by intro a h;cases h) k};{exact Bz underlying139 (by intro a h;cases h) k};{exact Bz underlying141 (by intro a h;cases h) k};{exact Bz underlying144 (by intro a h;cases h) k};exact Bz underlying148 (by intro a h;cases h) k};rw[G_ e,beq_false_of_ne e]at k;rcases b with rfl | rfl | rfl | rfl | rfl | rfl | rfl;{exact Bp underlying129 (by intro a h;cases h) zX e k};{exact Bp underlying131 (by intro a h;cases h) zX e k};{exact Bp underlying133 (by intro a h;cases h) zX e k};{exact Bp underlying139 (by intro a h;cases h) zX e k};{exact Bp underlying141 (by intro a h;cases h) zX e k};{exact Bp underlying144 (by intro a h;cases h) zX e k};exact Bp underlying148 (by intro a h;cases h) zX e k
def FB{env:ByteArray->Option Tm}{e:Ex}(he:xC 4096 e)(ab:∀a,(match e with | .kd _ x | .un _ _ x=>a=x | .bi _ _ x y=>a=x\/a=y | _=>False)->sY env a)(b8:∀i a,(match e with | .cl _ _ l=>KP l i=zY a | _=>False)->sY env a)(hl:e.isE=zW):sY env e:=by
 intro B H mb v C hE hm L;obtain⟨T0,x0,rfl⟩:=L.ifc;refine Aw.of_vc func25 rfl (call25 _) ?_;cases e;case nil=>cases hl
 case cons a l=>cases hl
 (case nm p s=>cases L;(repeat ((conv=>whnf);first | refine Ah.run ?_ | refine UD zQ ?_));refine Aq (.agg #[B_ 0,.string ⟨#[]⟩]) [B_ 0,.string ⟨#[]⟩] zX rfl ?_;intro q H1 hq F G I;have S:=(St.nil H).box hq F G I;refine AB (cs:=[B_ p,.string s]) S 0 rfl rfl (I_ _) rfl λH2 A=>?_;have m:L_ H2 q 129 [B_ p,.string s]:=A.blk 0 rfl;have a2:=A.old;have D:=hm.up (λk d=>d) (a2.mono C);have J:=hE.agr a2;have K:∀k,B k->k<H2.size:=λk d=>A.up (C k d);have br:=D;have⟨bm,mv,g1,g2,g3,g4,g5⟩:=D;refine A7.of (Ap.lex rfl zX ?_);(repeat ((conv=>whnf);first | refine E_ ?_ | refine C_ (g3.cellE rfl) zA ?_ | refine C_ (m.cellE rfl) zA ?_ | refine W1 (a:=s) ZP tX g4 zA ?_));have Y:=g5 s;cases ad:env s with|none=>{rw[ad]at Y;simp only at Y;(conv=>whnf);rw[Y];(repeat ((conv=>whnf);first | refine Ah.run ?_ | refine E_ ?_ | refine C_ (m.cellE rfl) zA ?_));refine Ab.mk (GG (c:=70) (q:=p)) (λ_ _ h=>h.elim) ?_;rintro y _ ⟨rfl,rfl⟩;exact⟨70,p,by simp only[p_,ad],rfl,a2⟩}|some t=>rw[ad]at Y;have⟨x,Y,h6,h7⟩:=Y;(conv=>whnf);rw[Y];(repeat (refine Ah.run ?_));(conv=>whnf);exact⟨t,by simp only[p_,ad],h7,a2,h6.up (λk d=>.inl d) (A_.refl _ _)⟩);(case tx p s=>cases L;(repeat ((conv=>whnf);first | refine Ah.run ?_ | refine UD zQ ?_));refine Aq (.agg #[B_ 0,.string ⟨#[]⟩]) [B_ 0,.string ⟨#[]⟩] zX rfl ?_;intro q H1 hq F G I;have S:=(St.nil H).box hq F G I;refine AB (cs:=[B_ p,.string s]) S 0 rfl rfl (I_ _) rfl λH2 A=>?_;have m:L_ H2 q 131 [B_ p,.string s]:=A.blk 0 rfl;have a2:=A.old;have D:=hm.up (λk d=>d) (a2.mono C);have J:=hE.agr a2;have K:∀k,B k->k<H2.size:=λk d=>A.up (C k d);(repeat ((conv=>whnf);first | refine E_ ?_ | refine C_ (m.cellE rfl) zA ?_));refine Ad underlying132 rfl _ rfl [B_ p,.string s] zX ?_;(conv=>whnf);have hs:s.size<=4096:=he.2;exact⟨.txt p s,rfl,⟨by show s.size<=1048576;omega,by show GH s<=10000;unfold GH;omega⟩,a2,_,rfl,rfl⟩);(case re p s=>cases L;(repeat ((conv=>whnf);first | refine Ah.run ?_ | refine UD zQ ?_));refine Aq (.agg #[B_ 0,.string ⟨#[]⟩]) [B_ 0,.string ⟨#[]⟩] zX rfl ?_;intro q H1 hq F G I;have S:=(St.nil H).box hq F G I;refine AB (cs:=[B_ p,.string s]) S 0 rfl rfl (I_ _) rfl λH2 A=>?_;have m:L_ H2 q 133 [B_ p,.string s]:=A.blk 0 rfl;have a2:=A.old;have D:=hm.up (λk d=>d) (a2.mono C);have J:=hE.agr a2;have K:∀k,B k->k<H2.size:=λk d=>A.up (C k d);have b9:p<=4096:=he.1;have a0:s.size<=4096:=he.2;(repeat ((conv=>whnf);first | refine E_ ?_ | refine C_ (m.cellE rfl) zA ?_));refine Ab.of (An.mk (Af2 J) ?_);rintro v H3 ⟨a3,M⟩;have ae:=LE s;unfold Nx at M;cases ah:GD s with|inl er=>{have⟨c,z⟩:=er;rw[ah]at M ae;obtain rfl:v= .tuple #[.nilIface,.agg (wY c z).toArray]:=M;obtain⟨c1,c2,c3,c4⟩:mU s c z:=ae;refine Aq (Bb 0 0) (Ae 0 0) BY rfl ?_;intro f H4 T a0 U V;have s4:=(A.call a3).box T a0 U V;refine AB (cs:=wY c z) s4 1 rfl rfl (I_ _) rfl λH5 s5=>?_;have ai:L_ H5 f 24 (wY c z):=s5.blk 1 rfl;have am:=s5.blk 0 rfl;(repeat ((conv=>whnf);first | refine Ah.run ?_ | refine K_ (cs:=wY c z) (ai.cells λj v L=>by rw[N_];exact L) zA ?_ | refine Ad underlying24 rfl _ rfl (wY 0 0) rfl ?_));refine Zq (c:=c) (p:=z) (c':=0) (p':=0) zO ⟨by show(-9223372036854775808:Int)<=z;omega,by show z<=(9223372036854775807:Int);omega⟩ zQ mB ?_;rw[j_];(repeat ((conv=>whnf);first | refine E_ ?_ | refine C_ (ai.cellE rfl) zA ?_ | refine C_ (am.cellE rfl) zA ?_ | rw[S_ p zO] | rw[m_ (x:=(p:Int)+1+z) zO]));obtain⟨Z,hZ⟩:∃Z:Nat,(p:Int)+1+z=(Z:Int):=⟨((p:Int)+1+z).toNat,zO⟩;rw[hZ];refine Ab.mk (GG (c:=c) (q:=Z)) (λ_ _ h=>h.elim) ?_;rintro y _ ⟨rfl,rfl⟩;exact⟨c,Z,by simp only[p_,ah];rw[hZ];rfl,rfl,s5.old⟩}|inr r=>{rw[ah]at M ae;have⟨T1,x1,e1⟩:=AN r;have M:v= .tuple #[Al r,.agg (wY 0 0).toArray]:=M;rw[e1]at M;subst M;refine Aq (Bb 0 0) (Ae 0 0) BY rfl ?_;intro f H4 T a0 U V;have s4:=(A.call a3).box T a0 U V;refine AB (cs:=wY 0 0) s4 1 rfl rfl (I_ _) rfl λH5 s5=>?_;have ai:L_ H5 f 24 (wY 0 0):=s5.blk 1 rfl;have am:=s5.blk 0 rfl;(repeat ((conv=>whnf);first | refine Ah.run ?_ | refine K_ (cs:=wY 0 0) (ai.cells λj v L=>by rw[N_];exact L) zA ?_ | refine Ad underlying24 rfl _ rfl (wY 0 0) rfl ?_));refine Zq (c:=0) (p:=0) (c':=0) (p':=0) zQ mB zQ mB ?_;(repeat ((conv=>whnf);first | refine E_ ?_ | refine C_ (am.cellE rfl) zA ?_));refine Ad underlying137 rfl _ rfl [B_ p,.iface T1 x1] zX ?_;(conv=>whnf);have hr:r.nodes<=2000:=ae;exact⟨.rx p r,by simp only[p_,ah],⟨trivial,by show r.nodes<=10000;omega⟩,s5.old,_,rfl,by show _=Value.iface 137 (.agg #[B_ p,Al r]);rw[e1]⟩})
 case' kd p a=>
  have⟨va,N,e⟩:=id L;cases e;obtain⟨T1,x1,rfl⟩:=N.ifc
  repeat ((conv=>whnf);first | refine Ah.run ?_ | refine UD zQ ?_)
  refine Aq (.agg #[B_ 0,.nilIface]) [B_ 0,.nilIface] zX rfl ?_;intro q H1 hq F G I;have S:=(St.nil H).box hq F G I;refine AB (cs:=[B_ p,.iface T1 x1]) S 0 rfl rfl (I_ _) rfl λH2 A=>?_;have m:L_ H2 q 139 [B_ p,.iface T1 x1]:=A.blk 0 rfl;have a2:=A.old;have D:=hm.up (λk d=>d) (a2.mono C);have J:=hE.agr a2;have K:∀k,B k->k<H2.size:=λk d=>A.up (C k d);have O:=N.up (B':=B) (λ_ h=>h) (a2.mono C)
  repeat ((conv=>whnf);first | refine E_ ?_ | refine C_ (m.cellE rfl) zA ?_)
  refine Ab.mk (ab a rfl K J D O) ?_ ?_
  rotate_left
  ·rintro y H3 ⟨c,z,W,rfl,a3⟩;exact⟨c,z,by simp only[p_,W],rfl,a2.trans (a3.mono λk d=>A.up d)⟩
  rintro v H3 ⟨t,W,ht,a3,w,X,rfl⟩;have s3:=A.call a3;have P:=s3.blk 0 rfl;have E:=s3.old;have zz:=Ay a2;have z3:=Ay a3;have Q:Z' (s_ B H H3) H3 t w:=X.up (λk d=>d.imp_right λh=>⟨zO,h.2⟩) (A_.refl _ _);cases a8:t.isLe
  ·have bd:p_ env (.kd p a)= .inl (72,p):=by
    simp only[p_,W,wC,nU];cases t<;>first | rfl | cases a8
   cases t<;>first | exact ht.1.elim | (cases a8;done) | skip
   all_goals
    repeat ((conv=>whnf);first | refine Ah.run ?_ | refine nE ?_ | refine E_ ?_ | refine C_ (P.cellE rfl) zA ?_)
    refine Ab.mk (GG (c:=72) (q:=p)) (λ_ _ h=>h.elim) ?_;rintro y _ ⟨rfl,rfl⟩;exact⟨72,p,bd,rfl,E⟩
  have good:p_ env (.kd p a)=Hj p (.inr (.le p .keyed zV nx .nil t .nil)):=by
   simp only[p_,W,wC,nU];cases t<;>first | rfl | cases a8
  have ap:t.isL=zW:=by cases t<;>first | rfl | cases a8
  obtain⟨pw,rfl⟩:=X.ptr;have ev:uO t (.pointer pw)= .iface 33 (.pointer pw):=by cases t<;>first | rfl | cases a8
  rw[ev]
  repeat ((conv=>whnf);first | refine Ah.run ?_ | refine TS ?_ | refine E_ ?_ | refine C_ (P.cellE rfl) zA ?_)
  refine Ad underlying105 rfl _ rfl (wZ p .keyed zV nx (.pointer zV) (.pointer pw) (.pointer zV)) zX (BF (wZ p .keyed zV nx (.pointer zV) (.pointer pw) (.pointer zV)) rfl ?_);intro g H4 T a0 U V;have s4:=s3.skip T V;have a4:=V.new T;have hz:=ht.2;have bu:Tm.nil.sz=0:=rfl;have hO:MkO B H env (.kd p a) (.iface 33 (J_ g)) H4:=⟨.le p .keyed zV nx .nil t .nil,good,s4.old,⟨_,⟨g,_,_,_,rfl,.inr ⟨zO,U.lt⟩,U,rfl,ap,rfl,rfl,Q.fr2 C E a4,rfl⟩,rfl⟩,by rw[Mp];simp only[DJ,LO.isI,uE,if_false];omega,rfl⟩
 case' un p s a=>
  have⟨va,N,e⟩:=id L;cases e;obtain⟨T1,x1,rfl⟩:=N.ifc
  repeat ((conv=>whnf);first | refine Ah.run ?_ | refine UD zQ ?_)
  refine Aq (.agg #[B_ 0,.string ⟨#[]⟩,.nilIface]) [B_ 0,.string ⟨#[]⟩,.nilIface] zX rfl ?_;intro q H1 hq F G I;have S:=(St.nil H).box hq F G I;refine AB (cs:=[B_ p,.string s,.iface T1 x1]) S 0 rfl rfl (I_ _) rfl λH2 A=>?_;have m:L_ H2 q 141 [B_ p,.string s,.iface T1 x1]:=A.blk 0 rfl;have a2:=A.old;have D:=hm.up (λk d=>d) (a2.mono C);have J:=hE.agr a2;have K:∀k,B k->k<H2.size:=λk d=>A.up (C k d);have O:=N.up (B':=B) (λ_ h=>h) (a2.mono C);refine A7.held (λk=>k=q) [] (sq [0,1,2,3] (.f 4 (.f 5 (sq [6] .e)))) (AG _ _) rfl zX ?_
  repeat ((conv=>whnf);first | refine E_ ?_ | refine C_ (m.cellE rfl) rfl ?_ | refine K_ (cs:=[B_ p,.string s,.iface T1 x1]) (m.cells λj v L=>by rw[N_];exact L) rfl ?_)
  refine Ab.mk (ab a rfl K J D O) ?_ ?_
  rotate_left
  ·rintro y H3 ⟨c,z,W,rfl,a3⟩;exact⟨c,z,by simp only[p_,W],rfl,a2.trans (a3.mono λk d=>A.up d)⟩
  rintro v H3 ⟨t,W,ht,a3,w,X,rfl⟩;have E:=a2.trans (a3.mono λk d=>A.up d);have zz:=Ay a2;have z3:=Ay a3;have Q:Z' (s_ B H H3) H3 t w:=X.up (λk d=>d.imp_right λh=>⟨zO,h.2⟩) (A_.refl _ _);refine⟨a3.mono λk d=>by rw[d];exact m.lt,?_⟩;have good:p_ env (.un p s a)=Hj p (wJ p s t):=by simp only[p_,W,wC,nU]
  refine Ab.mk (Ag7 (B:=s_ B H H3) (λk d=>s_.old C E d) ht.1 Q rfl) ?_ ?_
  rotate_left
  ·rintro y H4 h4;exact MkE.of good E h4
  rintro v4 H4 h4;have be:=h4;have⟨t4,R,a4,a9⟩:=be;refine⟨(a3.mono λk d=>by rw[d];exact m.lt).trans (a4.mono λk d=>by rw[d];exact Ak a3 m.lt),?_⟩;have hO:=MkO.of good rfl C E h4 λu hu=>by
   have h1:=Ak6 hu;have:=ht.2;exact⟨zO,h1.1⟩
 case' bi p s a b=>
  have⟨va,vb,N,aq,e⟩:=id L;cases e;obtain⟨T1,x1,rfl⟩:=N.ifc;obtain⟨T2,x2,rfl⟩:=aq.ifc
  repeat ((conv=>whnf);first | refine Ah.run ?_ | refine UD zQ ?_)
  refine Aq (.agg #[B_ 0,.string ⟨#[]⟩,.nilIface,.nilIface]) [B_ 0,.string ⟨#[]⟩,.nilIface,.nilIface] zX rfl ?_;intro q H1 hq F G I;have S:=(St.nil H).box hq F G I;refine AB (cs:=[B_ p,.string s,.iface T1 x1,.iface T2 x2]) S 0 rfl rfl (I_ _) rfl λH2 A=>?_;have m:L_ H2 q 144 [B_ p,.string s,.iface T1 x1,.iface T2 x2]:=A.blk 0 rfl;have a2:=A.old;have D:=hm.up (λk d=>d) (a2.mono C);have J:=hE.agr a2;have K:∀k,B k->k<H2.size:=λk d=>A.up (C k d);have O:=N.up (B':=B) (λ_ h=>h) (a2.mono C)
  repeat ((conv=>whnf);first | refine E_ ?_ | refine C_ (m.cellE rfl) zA ?_)
  refine Ab.mk (ab a (.inl rfl) K J D O) ?_ ?_
  rotate_left
  ·rintro y H3 ⟨c,z,W,rfl,a3⟩;exact⟨c,z,by simp only[p_,W],rfl,a2.trans (a3.mono λk d=>A.up d)⟩
  rintro v H3 ⟨t,W,ht,a3,w,X,rfl⟩;have s3:=A.call a3;have P:=s3.blk 0 rfl;have E:=s3.old;have zz:=Ay a2;have z3:=Ay a3;have Q:Z' (s_ B H H3) H3 t w:=X.up (λk d=>d.imp_right λh=>⟨zO,h.2⟩) (A_.refl _ _);have au:=aq.up (B':=B) (λ_ h=>h) (E.mono C);refine A7.held (λk=>k=q) [] (sq [0,1,2,3,4] (.f 5 (.f 6 (sq [7] .e)))) (AG _ _) rfl zX ?_
  repeat ((conv=>whnf);first | refine E_ ?_ | refine C_ (P.cellE rfl) rfl ?_ | refine K_ (cs:=[B_ p,.string s,.iface T1 x1,.iface T2 x2]) (P.cells λj v L=>by rw[N_];exact L) rfl ?_)
  refine Ab.mk (ab b (.inr rfl) (λk d=>s3.up (C k d)) (hE.agr E) (hm.up (λk d=>d) (E.mono C)) au) ?_ ?_
  rotate_left
  ·rintro y H4 ⟨c,z,R,rfl,a4⟩;exact⟨c,z,by simp only[p_,W,R],rfl,E.trans (a4.mono λk d=>s3.up d)⟩
  rintro v4 H4 ⟨t4,R,a9,a4,w4,aw,rfl⟩;have ao:=E.trans (a4.mono λk d=>s3.up d);have z4:=Ay a4;have k1:Z' (s_ B H H4) H4 t w:=Q.fr2 C E a4;have k2:Z' (s_ B H H4) H4 t4 w4:=aw.up (λk d=>d.imp_right λh=>⟨zO,h.2⟩) (A_.refl _ _);refine⟨a4.mono λk d=>by rw[d];exact P.lt,?_⟩;have good:p_ env (.bi p s a b)=Hj p (vI p s t t4):=by simp only[p_,W,R,wC,nU]
  refine Ab.mk (YJ (B:=s_ B H H4) (λk d=>s_.old C ao d) ht.1 a9.1 k1 k2) ?_ ?_
  rotate_left
  ·rintro y H5 Y;exact MkE.of good ao Y
  rintro v5 H5 Y;have bf:=Y;have⟨t5,bv,a5,bw⟩:=bf;refine⟨(a4.mono λk d=>by rw[d];exact P.lt).trans (a5.mono λk d=>by rw[d];exact Ak a4 P.lt),?_⟩;have hO:=MkO.of good rfl C ao Y λu hu=>by
   have h1:=AhW hu;have:=ht.2;have:=a9.2;exact⟨zO,h1.1⟩
 case' cl p s l=>
  have⟨vs,b,n,r,bh,bj,hb,bn,h1,h2,e⟩:=id L;cases e
  repeat ((conv=>whnf);first | refine Ah.run ?_ | refine UD zQ ?_)
  refine Aq (.agg #[B_ 0,.string ⟨#[]⟩,.slice zV 0 0]) [B_ 0,.string ⟨#[]⟩,.slice zV 0 0] zX rfl ?_;intro q H1 ay az b0 b4;have S:=(St.nil H).box ay az b0 b4;refine AB (cs:=(qI p s b vs.length n)) S 0 rfl rfl (I_ _) rfl λH2 A=>?_;have m:L_ H2 q 148 (qI p s b vs.length n):=A.blk 0 rfl;have a2:=A.old;have D:=hm.up (λk d=>d) (a2.mono C);have J:=hE.agr a2;have K:∀k,B k->k<H2.size:=λk d=>A.up (C k d)
  repeat ((conv=>whnf);first | refine K_ (cs:=qI p s b vs.length n) (m.cells λj v L=>by rw[N_];exact L) zA ?_)
  have good:p_ env (.cl p s l)=Hj p (QG env p s l):=by
   simp only[p_,QG];cases p_ env l<;>rfl
  have⟨b9,bo,b5,bp⟩:=he;refine Ab.mk (AhY K J D bh (bj.up (B':=B) (λ_ h=>h) (a2.mono C)) hb (bn.agr (a2.mono C) hb) h1 h2 b5 bp λi a ha=>b8 i a ha) ?_ ?_
  rotate_left
  ·rintro y H4 h4;exact MkE.of good a2 h4
  rintro v4 H4 ⟨t4,R,a4,a9⟩;have b6:=aS D.env_ok bo b5 R;have zz:=Ay a2;have z4:=Ay a4;have hO:MkO B H env (.cl p s l) v4 H4:=⟨t4,by rw[good,R];rfl,a2.trans (a4.mono λk d=>A.up d),a9.up (λk d=>d.imp_right λh=>⟨zO,h.2⟩) (A_.refl _ _),by have:=b6.2;omega,b6.1⟩
 (all_goals have⟨t,hX,ag,b7,hz,ak⟩:=hO;have bq:∀k,s_ B H _ k->_:=λk d=>s_.old C ag d;(repeat (refine Ah.run ?_));refine Ab.of (Af (Ak2 bq b7 ak zO) λG1 a1=>?_);have aj:=ag.trans (a1.mono λk d=>Ak ag d);by_cases h2:2000<t.sz;{have d1:zT ((2000:Int)<(t.sz:Int))=zW:=Y';(conv=>whnf);rw[d1];refine R2 (L.up (B':=B) (λ_ h=>h) (aj.mono C)) λG2 a2=>(Ab.mk (GG (c:=24) (q:=_)) (λ_ _ h=>h.elim) ?_);rintro y _ ⟨rfl,rfl⟩;exact⟨24,_,by rw[hX];exact H_ h2,rfl,aj.trans (a2.mono λk d=>Ak aj d)⟩};have d1:zT ((2000:Int)<(t.sz:Int))=zU:=j_;(conv=>whnf);rw[d1];(conv=>whnf);exact⟨t,by rw[hX];exact G_ h2,⟨Yf ak,zO⟩,aj,b7.fr2 C ag a1⟩)
def AdN:∀{l:Ex},ExC B H l []->l= .nil | .nil,_=>rfl | .cons a l,⟨_,_,_,_,h⟩=>by cases h | .nm ..,h | .tx ..,h | .re ..,h=>by cases h | .kd ..,⟨_,_,h⟩ | .un ..,⟨_,_,h⟩=>by cases h | .bi ..,⟨_,_,_,_,h⟩=>by cases h | .cl ..,⟨_,_,_,_,_,_,_,_,_,_,h⟩=>by cases h
theorem Hy{env:ByteArray->Option Tm}:∀(e:Ex),xC 4096 e->sY env e/\∀i a,KP e i=zY a->sY env a
 | .nil,_=>⟨fun{_ _ _ _} _ _ _ f=>(by cases f),nofun⟩
 | .cons a l,hb=>by
   have g:sY env a:=(Hy (env:=env) a hb.1).1;have j:=(Hy (env:=env) l hb.2).2;refine⟨?_,λi x d=>?_⟩
   ·intro B H mb v k m n f;have⟨w,vs,u,z,A⟩:=f;cases A;obtain rfl:=AdN z;refine(g k m n u).mono ?_ ?_
    ·rintro x G ⟨t,d,r⟩;exact⟨t,by simp only[p_,d];rfl,r⟩
    ·rintro y G ⟨c,q,d,r⟩;exact⟨c,q,by simp only[p_,d],r⟩
   ·cases i with
    | zero=>cases d;exact g
    | succ i=>exact j i x d
 | .nm p s,hb=>⟨FB hb nofun nofun rfl,nofun⟩
 | .tx p s,hb=>⟨FB hb nofun nofun rfl,nofun⟩
 | .re p s,hb=>⟨FB hb nofun nofun rfl,nofun⟩
 | .kd p a,hb=>⟨FB hb (λx (d:x=a)=>d ▸ (Hy (env:=env) a hb.2).1) nofun rfl,nofun⟩
 | .un p s a,hb=>⟨FB hb (λx (d:x=a)=>d ▸ (Hy (env:=env) a hb.2).1) nofun rfl,nofun⟩
 | .bi p s a b,hb=>⟨FB hb (λx (d:x=a\/x=b)=>d.elim (λd=>d ▸ (Hy (env:=env) a hb.2.1).1) λd=>d ▸ (Hy (env:=env) b hb.2.2).1) nofun rfl,nofun⟩
 | .cl p s l,hb=>⟨FB hb nofun (λi a (h:KP l i=zY a)=>(Hy (env:=env) l hb.2.1).2 i a h) rfl,nofun⟩
abbrev KE(q2 q3:Nat)(v:v_)(l:List v_):List Pc:=[pB 42 q2 [v],pB 24 q3 l]
def AdG{a:Nat}(k:K H):BX prog 23 #[J_ a,J_ b] .returning .returning H K:=by refine BX.mk (R:=λH'=>H'=H) (Ce (R:=λH'=>H'=H) func23 rfl ⟨⟨_,rfl⟩,rfl,rfl,rfl,rfl,rfl⟩ .ret rfl ?_) (λH' h=>by rw[h];exact k);(conv=>whnf);refine⟨rfl,?_⟩;refine L9 underlying20 ?_;(conv=>whnf)
def AdF{H0:Aa}{a c:Nat}{v:v_}(g:l.length=3)(j:D_ B H0 H (KE a b v l++ps))(k:∀H',D_ B H0 H' (KE a b .nilIface (Ae c e)++ps)->K H'):BX prog 23 #[J_ a,J_ b] (.panicking (pe (Bx c e))) (.panicking [{v:=Bx c e,recovered:=zW}]) H K:=by refine BX.mk (R:=λH'=>D_ B H0 H' (KE a b .nilIface (Ae c e)++ps)) (Ce (R:=λH'=>D_ B H0 H' (KE a b .nilIface (Ae c e)++ps)) func23 rfl ⟨⟨_,rfl⟩,rfl,rfl,rfl,rfl,rfl⟩ (.pan _) rfl ?_) k;(conv=>whnf);refine⟨rfl,?_⟩;refine Mm underlying20 (Ap.held (λ_=>False) 3 (sq [0,1] (.f 2 (.f 3 .e))) rfl zX (He underlying24 (λp h=>by cases h) (Bc j 0 rfl zZ rfl λH1 st1=>(⟨λk m=>m.elim,?_⟩))));refine AB (cs:=Ae c e) st1 1 rfl rfl (by rw[g];exact I_ _) rfl λH3 d=>?_;(conv=>whnf);have n:As l 0 (Ae c e)=Ae c e:=BC g.symm;rw[n]at d;exact d
section
variable{B':Nat->Prop}{H':Aa}
def Z'.upT(a:∀k c l,c=191\/c=105->B k->L_ H k c l->B' k)(b:A_ B' H H'):∀{t:Tm} {v:v_},Z' B H t v->Z' B' H' t v | .txt _ _,_,h=>h | .rx _ _,_,h=>h | .nil,_,h=>h | .ca ..,_,⟨g,va,vb,e,hg,hb,h1,h2,h3,h4⟩=>⟨g,va,vb,e,a _ _ _ (.inl rfl) hg hb,hb.agr b (a _ _ _ (.inl rfl) hg hb),h1,h2,h3.upT a b,h4.upT a b⟩ | .le ..,_,⟨g,vq,va,vb,e,hg,hb,h1,h2,h3,h4,h5,h6⟩=>⟨g,vq,va,vb,e,a _ _ _ (.inr rfl) hg hb,hb.agr b (a _ _ _ (.inr rfl) hg hb),h1,h2,h3,h4.upT a b,h5.upT a b,h6.upT a b⟩
def TmI.upT(b:∀k a l,a=191\/a=105->B k->L_ H k a l->B' k)(c:A_ B' H H'){x:v_}(h:TmI B H t x):TmI B' H' t x:=by have⟨v,h,e⟩:=h;exact⟨v,h.upT b c,e⟩
end
def VH(v:v_)(H:Aa):FT ⊕ Tm->Prop | .inl e=>v= .tuple #[.nilIface,Bb e.1 e.2]| .inr t=>t.good/\∃x,v= .tuple #[x,Bb 0 0]/\TmI (λk=>k<H.size) H t x
def UB(env:ByteArray->Option Tm)(s:ByteArray)(t:Tm):ByteArray->Option Tm:=λs'=>if s'=s then zY t else env s'
def Ia.get:∀{ds:List Df} {vs:List tN} {k:Nat} {d:Df},Ia B H ds vs->ds[k]?=zY d->∃v,vs[k]?=zY (d.p,d.s,v)/\ExC B H d.a [v]| _::_,_,0,_,⟨v,ws,e,h,h2⟩,hd=>by cases hd;exact⟨v,by rw[e];rfl,h⟩ | _::_,_,k+1,_,⟨v,ws,e,h,h2⟩,hd=>by have⟨u,b,c⟩:=Ia.get h2 hd;exact⟨u,by rw[e];exact b,c⟩
def Ia.len:∀{ds:List Df} {vs:List tN},Ia B H ds vs->vs.length=ds.length | [],_,h=>by cases h;rfl | _::_,_,⟨v,ws,e,h,h2⟩=>by subst e;exact congrArg (·+1) h2.len
def Zk{α:Type}{l:List α}{k:Nat}{x:α}{r:List α}(h:l.drop k=x::r):l[k]?=zY x/\l.drop (k+1)=r:=by
 have a:(l.drop k)[0]?=zY x:=by rw[h];rfl
 have b:(l.drop k).tail=r:=by rw[h];rfl
 rw[List.getElem?_drop,Nat.add_zero]at a;rw[List.tail_drop]at b;exact⟨a,b⟩
def AcF(T:Nat->Prop)(G:Aa)(env:ByteArray->Option Tm)(mv:ByteArray->Option v_):Prop:=∀s,match env s with
 | none=>mv s=zV
 | some t=>∃x,mv s=zY x/\TmI T G t x/\t.good
def AcF.up{B':Nat->Prop}{H':Aa}{env:ByteArray->Option Tm}{a:ByteArray->Option v_}(h:AcF B H env a)(c:∀k,B k->B' k)(d:A_ B H H'):AcF B' H' env a:=λs=>by
 have:=h s;cases b:env s with
 | none=>rw[b]at this;exact this
 | some t=>rw[b]at this;have⟨x,e,e2,f⟩:=this;exact⟨x,e,e2.up c d,f⟩
def s_.lt{H':Aa}(a:∀k,B k->k<H.size)(b:A_ (F_ H) H H'){k:Nat}(h:s_ B H H' k):k<H'.size:=s_.old a b h
def D_.base(b:D_ B G G' ps)(c:∀k,F_ H k->B k)(a:A_ (F_ H) H G):D_ (F_ H) H G' ps:=⟨a.trans (b.old.mono c),λ_ h=>h,V' (Ay a) b.size,b.oks,λp d k e=>⟨λh=>(b.rng p d k e).1 (c k h),(b.rng p d k e).2⟩,b.dis⟩
theorem AiC{H:Aa}{pv:v_}{ds:List Df}{e:Ex}(hE:DY H)(hp:PgV (λk=>k<H.size) H pv ds e)(hd:mA 4096 ds)(he:xC 4096 e):
  Am prog 13 #[pv] H λv H'=>A_ (F_ H) H H'/\VH v H' (uV (λ_=>zV) ds e):=by
 obtain⟨g,a,n,vs,w,rfl,hg,ab,ad,b5,hds,ae⟩:=hp;obtain⟨X,A⟩:∃X,uV (λ_=>zV) ds e=X:=⟨_,rfl⟩;rw[A];obtain⟨a',bz,ea,b6,-⟩:=ad.view (S':=F_ H) (λb M=>b5 b M) (λb M=>M.elim);injection ea with ea1 ea2 ea3
 subst ea1;subst ea3;have c4:=hds.len;have b7:=ad.len;unfold maxLen at b7;refine Am.of_rest func13 rfl (call13 _) (Bn.seq (BO (St.nil H) .nilIface [.nilIface] rfl rfl λV H1 st1=>(Aq (Bb 0 0) (Ae 0 0) BY rfl ?_)));intro W H2 b8 b9 bd be;have bf:D_ (F_ H) H H2 (KE V W .nilIface (Ae 0 0)):=st1.box b8 b9 bd be;refine Bn.seq (Oo underlying49 (Bn.defer_ ⟨rfl,rfl,rfl,⟨_,rfl⟩,rfl,rfl⟩ (λvs w=>call23 _ w) (⟨rfl,?_⟩)));refine SU (enc:=Value.string) ?_;intro D H3 bh bj bn bo;have bp:=bf.mapNew bh bj bn bo;refine Ad underlying90 rfl _ rfl [.map (zY D)] (by kernel_rfl) (Ec bp [.map (zY D)] rfl λmb H4 Y=>?_);have ah:=ab.agr Y.old hg
 repeat ((conv=>whnf);first | refine Ah.run ?_ | refine E_ ?_ | refine C_ (ah.cellE rfl) zA ?_)
 have ai:D_ (λj=>F_ H j\/False) H4 H4 (KE V W .nilIface (Ae 0 0)++[pM Value.string D λ_=>zV,pB 90 mb [.map (zY D)]]):=Y.rebase.low λk I=>I.elim id False.elim;refine CU.mk [21] (λx:Nat×(ByteArray->Option Tm)=>match x with | (k,_)=>[B_ k]) (λx G=>match x with | (k,env)=>∃T Z,k<=ds.length/\X=uV env (ds.drop k) e/\D_ (λj=>F_ H j\/T j) G G (KE V W .nilIface (Ae 0 0)++[pM Value.string D Z,pB 90 mb [.map (zY D)]])/\A_ (F_ H) H G/\AcF T G env Z) (λx _=>match x with | (k,_)=>ds.length-k) ⟨(0,λ_=>zV),rfl,λ_=>False,λ_=>zV,V_ _,A.symm,ai,Y.old,λs=>rfl⟩ ?_;rintro⟨k,env⟩ G c3 ⟨T,Z,I,A,st,ag,hV⟩;have aj:=st.blk 3 rfl;have ak:=st.map 2 rfl;have bq:∀{G':Aa},A_ (λj=>(F_ H j\/T j\/j=mb\/j=D)) G G'->MkS (λj=>(F_ H j\/T j\/j=mb\/j=D)) G' mb env:=λh=>⟨D,Z,.inr (.inr (.inl rfl)),.inr (.inr (.inr rfl)),aj.agr h (.inr (.inr (.inl rfl))),ak.agr h (.inr (.inr (.inr rfl))),hV.up (λk I=>.inr (.inl I)) (h.mono λk I=>.inr (.inl I))⟩;have am:∀j,(F_ H j\/T j\/j=mb\/j=D)->j<G.size:=λj m=>by
  rcases m with h | h | rfl | rfl
  ·exact st.up (.inl h)
  ·exact st.up (.inr h)
  ·exact aj.lt
  ·exact ak.lt
 have a0:∀{y:v_} {G':Aa} {ps:List Pc} {c z:Nat} {K:Aa->Prop},X= .inl (c,z)->y=Bx c z->D_ (λj=>F_ H j\/T j) G G' (KE V W .nilIface (Ae 0 0)++ps)->
   (∀H',D_ (F_ H) H H' (KE V W .nilIface (Ae c z)++ps)->K H')->BX prog 23 #[J_ V,J_ W] (.panicking (pe y)) (.panicking [{v:=y,recovered:=zW}]) G' K:=by
  rintro y G' ps c z K S rfl br kk;exact AdF rfl (br.base (λk I=>.inl I) ag) kk
 by_cases c5:k<ds.length
 ·have d1:zT ((k:Int)<(vs.length:Int))=zW:=Y';obtain⟨d,r,N⟩:∃d r,ds.drop k=d::r:=by
   cases h:ds.drop k with
   | nil=>have:=List.length_drop (i:=k) (l:=ds);rw[h]at this;simp at this;omega
   | cons d r=>exact⟨d,r,rfl⟩
  have⟨ao,ap⟩:=Zk N;have⟨c6,bu⟩:=hd d (Y_ ao);have⟨v,bv,aq⟩:=hds.get ao;obtain⟨T0,x0,rfl⟩:=aq.ifc;(conv=>whnf);rw[d1];refine zP lK (b6.frame ag) bv rfl (λb2 o2 c2 hS hc hr=>?_);obtain⟨rfl,-⟩:=hr;refine K_ (cs:=sT (d.p,d.s,.iface T0 x0)) hc zA (BO st (.agg #[B_ 0,.string ⟨#[]⟩,.nilIface]) [B_ 0,.string ⟨#[]⟩,.nilIface] (by kernel_rfl) rfl λq G1 s5=>(AB (cs:=sT (d.p,d.s,.iface T0 x0)) s5 4 rfl rfl (I_ _) rfl λG2 F=>?_));have J:L_ G2 q 97 (sT (d.p,d.s,.iface T0 x0)):=F.blk 4 rfl;have B:=F.blk 3 rfl;have E:=F.map 2 rfl;have a8:MkS (λj=>F_ H j\/T j\/j=mb\/j=D) G2 mb env:=⟨D,Z,.inr (.inr (.inl rfl)),.inr (.inr (.inr rfl)),B,E,hV.up (λk I=>.inr (.inl I)) (F.old.mono λk I=>.inr I)⟩;have bw:∀j,(F_ H j\/T j\/j=mb\/j=D)->j<G2.size:=λj m=>by
   rcases m with h | h | rfl | rfl
   ·exact F.up (.inl h)
   ·exact F.up (.inr h)
   ·exact B.lt
   ·exact E.lt
  have a9:A_ (F_ H) H G2:=ag.trans (F.old.mono λj m=>.inl m);have au:ExC (λj=>F_ H j\/T j\/j=mb\/j=D) G2 d.a [.iface T0 x0]:=aq.up (λj m=>.inl m) a9;rw[N]at A;unfold uV at A
  repeat (refine Ah.run ?_)
  refine A7.held (F_ G2) [] (sq [0,1,2,3,4,5,6,7,8,9,10,11] .e) (JQ (R:=λv H'=>A_ (F_ H) H H'/\VH v H' X) (by kernel_rfl)) rfl (by kernel_rfl) ?_
  repeat ((conv=>whnf);first | refine E_ ?_ | refine C_ (B.cellE rfl) B.lt ?_ | refine C_ (J.cellE rfl) J.lt ?_ | refine W1 (a:=d.s) ZP tX E E.lt ?_)
  have L:=hV d.s;cases aw:env d.s with
  | some t=>
    rw[aw]at L A;have⟨x,h5,h6,h7⟩:=L;(conv=>whnf);rw[h5]
    repeat ((conv=>whnf);first | refine Ah.run ?_ | refine E_ ?_ | refine C_ (J.cellE rfl) zA ?_)
    refine Ab.mk (GG (c:=71) (q:=d.p)) (λ_ _ h=>h.elim) ?_;rintro y _ ⟨rfl,rfl⟩;(conv=>whnf);refine a0 A rfl F λH7 C=>(C_ ((C.blk 0 rfl).cellE rfl) zA (K_ (cs:=Ae 71 d.p) (AY (C.blk 1 rfl)) zA ?_));exact⟨C.old,by rw[A];rfl⟩
  | none=>
    rw[aw]at L A;simp only at L;(conv=>whnf);rw[L]
    repeat (refine Ah.run ?_)
    refine A7.held (F_ G2) [10] (sq [0,1,2,3,4,5,6,7,8] (.f 9 (.f 10 .e))) (JQ (R:=λv H'=>A_ (F_ H) H H'/\VH v H' X) (by kernel_rfl)) rfl (by kernel_rfl) ?_
    repeat ((conv=>whnf);first | refine E_ ?_ | refine C_ (B.cellE rfl) B.lt ?_ | refine C_ (J.cellE rfl) J.lt ?_)
    refine Ab.mk ((Hy d.a bu).1 bw (hE.agr a9) a8 au) ?_ ?_
    rotate_left
    ·rintro y G3 ⟨c,z,S,rfl,a3⟩;rw[S]at A;(conv=>whnf);refine a0 A rfl (F.call a3) λH7 C=>(C_ ((C.blk 0 rfl).cellE rfl) zA (K_ (cs:=Ae c z) (AY (C.blk 1 rfl)) zA ?_));exact⟨C.old,by rw[A];rfl⟩
    rintro x G3 ⟨t,S,ht,a3,O⟩;rw[S]at A;refine⟨a3,?_⟩;have C:D_ (λj=>F_ H j\/(F_ H j\/T j\/(G2.size<=j/\j<G3.size))) G3 G3 _:=(F.rebase.widen a3 (λj=>G2.size<=j/\j<G3.size) λj m=>m).low λj m=>m.elim (λh=>.inl (.inl h)) λh=>h.elim (λh=>.inl (.inl h)) λh=>h.elim (λh=>.inl (.inr h)) .inr;have ay:=C.blk 3 rfl;have az:=C.map 2 rfl;have b0:TmI (λj=>F_ H j\/T j\/(G2.size<=j/\j<G3.size)) G3 t x:=O.upT (λj ty l P m M=>by
     rcases m with(h | h | rfl | rfl) | h
     ·exact .inl h
     ·exact .inr (.inl h)
     ·have:=AkN.inj (ay.symm.trans M);injection this with _ this
      rcases P with rfl | rfl<;>cases this
     ·obtain⟨es,cl,h1,-⟩:=az;have:=h1.symm.trans M;cases this
     ·exact .inr (.inr h)) (A_.refl _ _)
    refine SW (a:=d.s) (m':=put Z d.s (zY x)) C 2 ZP tX rfl (λa'=>rfl) λG4 U=>?_;(conv=>whnf);rw[S_ k (by omega)];refine⟨rfl,(k+1,UB env d.s t),rfl,⟨λj=>F_ H j\/T j\/(G2.size<=j/\j<G3.size),put Z d.s (zY x),by omega,?_,?_,?_,?_⟩,by show ds.length-(k+1)<ds.length-k;omega⟩
    ·rw[ap,A];rfl
    ·exact(U.rebase.sub (.cons_cons _ (.cons_cons _ (.cons_cons _ (.cons_cons _ (.cons _ .slnil)))))).low λk h=>h
    ·exact a9.trans ((a3.mono λj m=>F.up (.inl m)).trans (U.old.mono λj m=>.inl m))
    ·intro s';have h0:=hV s';unfold UB put;by_cases Q:s'=d.s
     ·rw[H_ Q,H_ Q];exact⟨x,rfl,b0.up (λj m=>m) (U.old.mono λj m=>.inr m),ht⟩
     ·rw[G_ Q,G_ Q];cases he:env s' with
      | none=>rw[he]at h0;exact h0
      | some u=>
        rw[he]at h0;have⟨y,e1,e2,e3⟩:=h0;exact⟨y,e1,(e2.up (B':=λj=>F_ H j\/T j\/(G2.size<=j/\j<G3.size)) (λj m=>.inr (.inl m)) ((F.old.mono λj m=>.inr m).trans (a3.mono λj m=>F.up (.inr m)))).up (λj m=>m) (U.old.mono λj m=>.inr m),e3⟩
 ·have d1:zT ((k:Int)<(vs.length:Int))=zU:=j_;have N:ds.drop k=[]:=List.drop_eq_nil_of_le (by omega);rw[N]at A;unfold uV at A;have b4:=ab.agr ag hg;have a8:MkS (λj=>F_ H j\/T j\/j=mb\/j=D) G mb env:=bq (A_.refl _ _);obtain⟨T0,x0,rfl⟩:=ae.ifc;(conv=>whnf);rw[d1]
  repeat ((conv=>whnf);first | refine Ah.run ?_ | refine E_ ?_ | refine C_ (b4.cellE rfl) zA ?_)
  refine Ab.mk ((Hy e he).1 am (hE.agr ag) a8 (ae.up (λj m=>.inl m) ag)) ?_ ?_
  rotate_left
  ·rintro y G3 ⟨c,z,S,rfl,a3⟩;rw[S]at A;(conv=>whnf);refine a0 A rfl (st.call a3) λH7 C=>(C_ ((C.blk 0 rfl).cellE rfl) zA (K_ (cs:=Ae c z) (AY (C.blk 1 rfl)) zA ?_));exact⟨C.old,by rw[A];rfl⟩
  rintro x G3 ⟨t,S,ht,a3,O⟩;rw[S]at A;have s3:=st.call a3;have b2:=s3.blk 0 rfl;have b3:=s3.blk 1 rfl;have bx:=O.ifc ht.1;obtain⟨T1,x1,rfl⟩:=bx;refine Ad underlying24 rfl _ rfl (Ae 0 0) rfl (M1 s3 0 rfl (by simp) rfl λH7 C j7 n7=>(Bd (cs:=Ae 0 0) C 1 rfl rfl (I_ _) rfl λH8 U j8 n8=>(AdG (C_ ((U.blk 0 rfl).cellE rfl) zA (K_ (cs:=Ae 0 0) (AY (U.blk 1 rfl)) zA (⟨ag.trans (U.old.mono λj m=>.inl m),?_⟩))))));rw[A];refine⟨ht,_,rfl,(O.upT (B':=λj=>j<G3.size/\j≠V/\j≠W) (λj ty l P m M=>⟨?_,?_,?_⟩) (A_.trans (j7.mono λj m=>m.2.1) (j8.mono λj m=>m.2.2))).up (λj m=>by omega) (A_.refl _ _)⟩
  ·exact s_.lt am a3 m
  ·rintro rfl;have:=AkN.inj (b2.symm.trans M);injection this with _ this
   rcases P with rfl | rfl<;>cases this
  ·rintro rfl;have:=AkN.inj (b3.symm.trans M);injection this with _ this
   rcases P with rfl | rfl<;>cases this
def AjH{t:ByteArray}(M:Mb H)(N:DY H):Am prog 8 #[.string t] H λv H'=>A_ (F_ H) H H'/\VH v H' (HY t):=by refine Am.of_vc func8 rfl (call8 _) (BO (St.nil H) (Bb 0 0) (Ae 0 0) BY rfl λO H1 G=>(An.mk (Yj (M.agr G.old)) ?_));rintro v H2 ⟨a2,d⟩;have B:=G.call a2;have b:=PL t;unfold HY;cases I:I9 t with|inl er=>{have⟨c,z⟩:=er;rw[I]at d b;have⟨P,Q,R⟩:=b;simp only at P Q R;obtain rfl:v= .tuple #[.pointer zV,Bb c z]:=d;refine Aq (Bb 0 0) (Ae 0 0) BY rfl ?_;intro J H3 m n p h;have C:=B.box m n p h;refine AB (cs:=Ae c z) C 1 rfl rfl (I_ _) rfl λH4 q=>?_;(repeat ((conv=>whnf);first | refine AC.run ?_ | refine K_ (cs:=Ae c z) (AY (q.blk 1 rfl)) zA ?_ | refine Ad underlying24 rfl _ rfl (Ae 0 0) rfl ?_));refine Ht (c:=c) (e:=z) (c':=0) (e':=0) zO zO zQ zQ ?_;rw[j_];refine Ap.heldZ (λk=>k=J) [2] (sq [0,1] (.f 2 .e)) rfl zX (K_ (cs:=Ae c z) (AY (q.blk 1 rfl)) rfl (AB (cs:=Ae c z) q 0 rfl rfl (I_ _) rfl λH5 u=>(K_ (cs:=Ae c z) (AY (u.blk 0 rfl)) zA ?_)));exact⟨u.old,rfl⟩}|inr x=>{have⟨ds,e⟩:=x;rw[I]at d b;obtain⟨pv,rfl,r⟩:=d;obtain⟨g,S,T,D,U,rfl,w⟩:=r.ex;have r:PgV (λk=>k<H2.size) H2 (J_ g) ds e:=⟨g,S,T,D,U,rfl,w⟩;refine Aq (Bb 0 0) (Ae 0 0) BY rfl ?_;intro J H3 m n p h;have C:=B.box m n p h;have b1:=B.blk 0 rfl;refine Bd (cs:=Ae 0 0) C 1 rfl rfl (I_ _) rfl λH4 q V n4=>?_;(repeat ((conv=>whnf);first | refine AC.run ?_ | refine K_ (cs:=Ae 0 0) (AY (q.blk 1 rfl)) zA ?_ | refine Ad underlying24 rfl _ rfl (Ae 0 0) rfl ?_));refine Ht (c:=0) (e:=0) (c':=0) (e':=0) zQ zQ zQ zQ ?_;have y:A_ (F_ H2) H2 H4:=(h.mono λk a=>by unfold F_ at a;omega).trans (V.mono λk a=>by unfold F_ at a;omega);(repeat (refine AC.run ?_));refine An.mk (AiC (N.agr q.old) ((r.upT (B':=λk=>k<H2.size) (λk K l _ a _=>a) y).upT (B':=λk=>k<H4.size) (λk K l _ a _=>yQ a (Ay y)) (A_.refl _ _)) b.1 b.2) ?_;rintro v H5 ⟨W,j⟩;have u:=q.call W;have X:=u.blk 0 rfl;simp only;cases L:uV (λ_=>zV) ds e with|inl er=>have⟨c,z⟩:=er;rw[L]at j;obtain rfl:v= .tuple #[.nilIface,Bb c z]:=j;refine AB (cs:=Ae c z) u 0 rfl rfl (I_ _) rfl λH6 A=>(K_ (cs:=Ae c z) (AY (A.blk 0 rfl)) zA ?_);exact⟨A.old,rfl⟩|inr tm=>{rw[L]at j;obtain⟨Y,x,rfl,E⟩:=j;refine Bd (cs:=Ae 0 0) u 0 rfl rfl (I_ _) rfl λH6 A Z n6=>(K_ (cs:=Ae 0 0) (AY (A.blk 0 rfl)) zA (⟨A.old,Y,x,rfl,(E.upT (B':=λk=>k<H5.size/\k≠O) (λk K l F a hb=>⟨a,?_⟩) (Z.mono λk a=>a.2)).up (λk a=>zO) (A_.refl _ _)⟩));rintro rfl;have:=AkN.inj (X.symm.trans hb);injection this with _ this;rcases F with rfl | rfl<;>cases this}}
def ML(s:BitVec 256)(k:Nat):BitVec 256:=(List.range k).foldl (λo k=>if s.getLsbD (97+k)then o ||| AR (65+k) (65+k)else o) (s &&& ~~~ AR 65 90)
def Vu{q:Nat}{s:BitVec 256}{e:x_}(h:L_ H q e (Ag s)):AO H q 0 (Ag s):=h.cells λj v a=>by rw[N_];exact a
def Yt(s:BitVec 256)(k:Nat):ML s (k+1)=if s.getLsbD (97+k)then ML s k ||| AR (65+k) (65+k)else ML s k:=by unfold ML;rw[List.range_succ,List.foldl_append];rfl
def PZ{q:Nat}{s:BitVec 256}(h:L_ H q 65 (Ag s)):AO H q 0 (Ag s):=h.cells λj v a=>by rw[N_];exact a
def Ak9(s:BitVec 256)(H:Aa):AT prog 179 #[AX s] H (AX (lO s)):=by
 refine Am.of_vc func179 rfl (call179 _) (Ec (St.nil H) (Ag s) rfl λq H1 r=>(BO r (AX 0) (Ag 0) rfl rfl λt H2 u=>(Af (GF 65 90 zQ zQ _) λH3 a3=>?_)));have w:=u.call a3;refine BO w (AX 0) (Ag 0) rfl rfl λy H4 z=>(AB (cs:=Ag (AR 65 90)) z 2 rfl rfl (I_ _) rfl λH5 d=>?_);repeat ((conv=>whnf);first | refine K_ (cs:=Ag s) (PZ (d.blk 0 rfl)) zA ?_ | refine K_ (cs:=Ag (AR 65 90)) (PZ (d.blk 2 rfl)) zA ?_)
 refine Af (W0 s (AR 65 90) _) λH6 A=>?_;have B:=d.call A;refine BO B (AX 0) (Ag 0) rfl rfl λm H7 C=>(AB (cs:=Ag (ML s 0)) C 3 rfl rfl (I_ _) rfl λH8 D=>?_);repeat (refine AC.run ?_)
 refine AD.mk [5] (λk:Nat=>[.int .u8 ((97+k:Nat):Int)]) (λk G=>k<=26/\St H G [pB 65 q (Ag s),pB 65 t (Ag 0),pB 65 y (Ag (AR 65 90)),pB 65 m (Ag (ML s k))]) (λk _=>26-k) ⟨0,rfl,V_ _,D⟩ ?_;rintro k G n ⟨p,c⟩;by_cases E:k<26;{
 have F:zT (((97+k:Nat):Int)<=122)=zW:=Y';(conv=>whnf);rw[F];repeat ((conv=>whnf);first | refine AC.run ?_ | refine K_ (cs:=Ag s) (PZ (c.blk 0 rfl)) zA ?_)
 refine Af (P6 s (97+k) zO G) λG1 a1=>?_;have st1:=c.call a1;have g:=Yt s k;cases I:s.getLsbD (97+k);all_goals rw[I]at g
 {(repeat ((conv=>whnf);first | refine AC.run ?_ | rw[w8 (x:=((97+k:Nat):Int)+1) zO zO]));exact⟨rfl,k+1,by show [Value.int .u8 _]=[Value.int .u8 _];congr 2,⟨zO,by rw[g];exact st1⟩,zO⟩};have J:((97+k:Nat):Int)-32=((65+k:Nat):Int):=zO;repeat (refine AC.run ?_)
 refine Ap.heldZ (λk=>k=m) [7] (sq [0,1,2,3,4] (.f 5 (.f 6 (.f 7 .e)))) rfl zX ?_;have h:=st1.blk 3 rfl;repeat ((conv=>whnf);first | refine K_ (cs:=Ag (ML s k)) (PZ h) rfl ?_ | rw[w8 (x:=((97+k:Nat):Int)-32) zO zO,J])
 refine Af (GF (65+k) (65+k) zO zO _) λG2 a2=>?_;refine⟨a2.mono λk p=>by rw[p];exact h.lt,?_⟩;have a:=st1.call a2;refine Af (Jv (ML s k) (AR (65+k) (65+k)) _) λG3 j=>?_;have b:=a.call j;refine⟨FV h (b.blk 3 rfl),?_⟩;refine AB (cs:=Ag (ML s k ||| AR (65+k) (65+k))) b 3 rfl rfl (I_ _) rfl λG4 l=>?_;repeat ((conv=>whnf);first | refine AC.run ?_ | rw[w8 (x:=((97+k:Nat):Int)+1) zO zO])
 exact⟨rfl,k+1,by show [Value.int .u8 _]=[Value.int .u8 _];congr 2,⟨zO,by rw[g];exact l⟩,zO⟩};obtain rfl:k=26:=zO;(conv=>whnf);repeat ((conv=>whnf);first | refine AC.run ?_ | refine K_ (cs:=Ag (ML s 26)) (PZ (c.blk 3 rfl)) zA ?_)
 refine AB (cs:=Ag (ML s 26)) c 1 rfl rfl (I_ _) rfl λG2 a=>(K_ (cs:=Ag (ML s 26)) (PZ (a.blk 1 rfl)) zA ?_);exact⟨rfl,a.old⟩
def Ak7:∀(r:ReM) (H:Aa),AT prog 153 #[Al r] H (Al (FQ r)):=by
 intro r;induction r;(all_goals intro H;refine Am.of_vc func153 rfl (call153 _) ?_;repeat ((conv=>whnf);first | refine AC.run ?_ | refine iH zQ ?_));case eps=>exact⟨rfl,A_.refl _ _⟩
 (case cls s=>refine Aq (AX 0) (Ag 0) rfl rfl ?_;intro q H1 t f g h;have j:=(St.nil H).box t f g h;refine AB (cs:=Ag s) j 0 rfl rfl (I_ _) rfl λH2 d=>(E_ ?_);refine K_ (cs:=Ag s) (Vu (d.blk 0 rfl)) zA (Af (Ak9 s _) λH3 a3=>(Ad underlying67 rfl _ rfl (Ag (lO s)) zX ?_));(conv=>whnf);exact⟨rfl,(d.call a3).old⟩);(case cat a b iha ihb | alt a b iha ihb | and_ a b iha ihb | minus a b iha ihb=>
 have⟨T1,e,l⟩:=AN (FQ a);have⟨T2,m,e2⟩:=AN (FQ b);have⟨T3,n,p⟩:=AN a;have⟨T4,w,x⟩:=AN b;refine Aq (.agg #[.nilIface,.nilIface]) [.nilIface,.nilIface] zX rfl ?_;intro q H1 t f g h;have j:=(St.nil H).box t f g h;rw[p,x];refine AB (cs:=[.iface T3 n,.iface T4 w]) j 0 rfl rfl (I_ _) rfl λH2 d=>?_;have c:L_ H2 q _ [.iface T3 n,.iface T4 w]:=d.blk 0 rfl;refine Ap.quiet (F_ H2) rfl zX ?_;rw[<-p,<-x]at c;repeat ((conv=>whnf);first | refine E_ ?_ | refine C_ (c.cellE rfl) c.lt ?_ | refine Ei (v:=.iface T1 e) (λH' y=>l ▸ iha H') ?_ | refine Ei (v:=.iface T2 m) (λH' y=>e2 ▸ ihb H') ?_)
 first | refine Ad underlying73 rfl _ rfl [.iface T1 e,.iface T2 m] zX ?_ | refine Ad underlying70 rfl _ rfl [.iface T1 e,.iface T2 m] zX ?_ | refine Ad underlying71 rfl _ rfl [.iface T1 e,.iface T2 m] zX ?_ | refine Ad underlying72 rfl _ rfl [.iface T1 e,.iface T2 m] zX ?_
 (conv=>whnf);intro H3 a3;(conv=>whnf);exact⟨by show _=Value.iface _ (.agg #[Al (FQ a),Al (FQ b)]);rw[l,e2],d.old.trans (a3.mono λk u=>d.up u)⟩);(case star a iha=>have⟨T1,e,l⟩:=AN (FQ a);have⟨T3,n,p⟩:=AN a;refine BO (St.nil H) (.agg #[.nilIface]) [.nilIface] zX rfl λq H1 j=>?_;rw[p];refine AB (cs:=[.iface T3 n]) j 0 rfl rfl (I_ _) rfl λH2 d=>?_;have c:L_ H2 q 75 [.iface T3 n]:=d.blk 0 rfl;rw[<-p]at c;refine E_ ?_;refine C_ (c.cellE rfl) zA (Af (v:=.iface T1 e) (l ▸ iha H2) λH3 a3=>(Ad underlying75 rfl _ rfl [.iface T1 e] zX ?_));(conv=>whnf);exact⟨by show _=Value.iface 75 (.agg #[Al (FQ a)]);rw[l],d.old.trans (a3.mono λk u=>d.up u)⟩)
def Mj:∀F:List Bool,0<F.count zU->∃i:Nat,F[i]?=zY zU/\∀j:Nat,j<i->F[j]?=zY zW | [],h=>by simp at h | false::F,_=>⟨0,rfl,λj a=>absurd a (dO _)⟩ | true::F,h=>by have⟨i,b,c⟩:=Mj F (by simpa using h);refine⟨i+1,b,λj a=>?_⟩;cases j with
   | zero=>rfl
   | succ j=>exact c j zO
def dZ:∀(F:List Bool) (i:Nat),F[i]?=zY zU->F.count zU=(F.set i zW).count zU+1 | [],i,h=>by simp at h | b::F,0,h=>by cases h;simp | b::F,i+1,h=>by have:=dZ F i h;simp only[List.set_cons_succ,List.count_cons];omega
def Sb:∀F:List Bool,F.count zU=0->F=ApU F.length zW | [],_=>rfl | false::F,h=>by simp at h | true::F,h=>by have:=Sb F (by simpa using h);rw[List.length_cons,List.replicate_succ,<-this]
def Ap.inv{l:List Oper}{fr:Fr}{K:Fr->Aa->Prop}(J:List Bool->Fr->Aa->Prop)(T:P.follows .mixedOrders=zW)(U:(l.zipIdx.all λp=>p.1.guard.isNone&&p.1.after.toList.all λe=>zT (e.on<p.2))=zW)(h0:J (ApU l.length zU) fr H) (t:∀b H',J (ApU l.length zW) b H'->K b H')(k:∀F b H' i o,J F b H'->F.length=l.length->F[i]?=zY zU->l[i]?=zY o->(∀e∈o.after.toList,Region.binds .any e=zW->F[e.on]?=zY zW)->wH P zU (λ_=>True) o b H' λv H''=>Cf o.dst b v λu=>J (F.set i zW) u H''):Ap P l fr H K:=by refine⟨?_⟩;intro id Q a w G V hp W;subst V;have m:∀(i:Nat) (o:Oper),l[i]?=zY o->o.guard=zV/\∀e∈o.after.toList,e.on<i:=λi o D=>by{have f:=xJ.1 U (o,i) (List.mem_zipIdx_iff_getElem?.2 D);simp only[o_,xJ,yL,Option.isNone_iff_eq_none]at f;exact f};have I:∀(c:Nat) (F:List Bool) (b:Fr) (a':Act) (n:y_),At b a'->Z_ w n->J F b n.heap->F.length=l.length->F.count zU=c->wpAny P .any l.toArray Q c F.toArray a' n:=by{intro c;induction c with|zero=>intro F b a' n d L E x O;have M:=Sb F O;refine⟨?_,?_⟩;{apply List.eq_nil_iff_forall_not_mem.2;intro j X;obtain⟨f,-⟩:=mem_ready.1 X;rw[M]at f;by_cases y:j<F.length;{simp[y]at f};simp[Array.getD,y]at f};rw[x]at M;rw[M]at E;exact W b a' n d L (t _ _ E)|succ c Y=>intro F b a' n d L E x O;refine⟨λh0=>?_,λi Z=>?_⟩;{exfalso;have⟨i,f,N⟩:=Mj F zO;have q:i<l.length:=by{rw[<-x];exact(P_.1 f).1};have:i∈Region.ready .any l.toArray F.toArray:=mem_ready.2 ⟨by simp[f],l[i],by simp[q],λe g _=>by{have:=(m i l[i] (zH q)).2 e (by simpa using g);have:=N e.on this;simp[this]}⟩;rw[h0]at this;cases this};have⟨f,o,D,N⟩:=mem_ready.1 Z;have h:l[i]?=zY o:=by{simpa using D};have q:=(P_.1 h).1;have z:F[i]?=zY zU:=by{have:i<F.length:=zO;simp[this]at f;rw[zH this,f]};have A:∀e∈o.after.toList,Region.binds .any e=zW->F[e.on]?=zY zW:=λe g hb=>by{have R:=N e (by simpa using g) hb;have:=(m i o h).2 e g;have B:e.on<F.length:=zO;simp[B]at R;rw[zH B,R]};have hs:=k F b n.heap i o E x z h A;unfold wpOp;rw[D];dsimp only;have r:Region.wanted o (yielded l.toArray a'.tmps)=zW:=by{simp[Region.wanted,(m i o h).1]};rw[H_ r];refine .inl (Oper.wp_mono ?_ (Cn d hs _));rintro a2 w2 ⟨v,rfl,C,S⟩;rw[Bk]at S;have:=Y (F.set i zW) _ _ w2 (d.put o.dst v) (L.trans C) S (by rw[List.length_set];exact x) (by have:=dZ F i z;omega);rw[List.setIfInBounds_toArray]at*;exact this};refine wp_region_any T ?_;have:=I l.length (ApU l.length zU) fr a {w with drawn:=w.drawn+1} G ⟨rfl,rfl,rfl⟩ h0 zZ zZ;simpa using this
def cB:Pc:=⟨λ_=>False,λ_=>True,λ_ h=>h⟩
def pIf(f:Bool)(p:Pc):Pc:=match f with
 | true=>p
 | false=>cB
def vIf(f:Bool)(v:v_):v_:=match f with
 | true=>v
 | false=>undef
def D_.fill_{H0 H':Aa}(c:D_ B H0 H ps)(i:Nat)(d:ps[i]?=zY cB){e:x_}(f:b=H.size)(hs:H'.size=b+1)(a:L_ H' b e l)(g:A_ (λk=>k<b) H H'):D_ B H0 H' (ps.set i (pB e b l)):=by subst f;exact c.upd i d (g.mono λk a=>a.1) _ a (λk a=>.inr (by have:k=H.size:=a;omega)) (λk a=>by have:k=H.size:=a;omega) zO
def c_.ofB{α:Type}{T:Ty α}{S:Nat->Prop}{n:Nat}{e:x_}{xs:List α}(a:L_ H b e l)(c:S b)(d:T.reps S H l xs)(f:n=xs.length)(g:n<=maxLen):c_ T S H (k_ b) n xs:=by subst f;exact c_.intro c (I_ _) g (a.cells λj v h=>by rw[N_];exact h) d
abbrev spC:BitVec 256:=AR 65 90
abbrev caF(va u1 v2 v3 vq v5 v6 v7 v8 v9 v10 v11 v12 v13 v14 v15:v_)(r:List v_):Fr:=[va,u1,v2,v3,vq,v5,v6,v7,v8,v9,v10,v11,v12,v13,v14,v15]++r
structure CaJ(G0:Aa)(va u1 v2 v3 v6:v_)(r:List v_)(q:Nat)(F:List Bool)(fr:Fr)(G:Aa):Prop where
 ex:∃f0 f1 f2 f3 f4 f5 f6 f7 f8 f9 a3 a4 a5 a6 a7 vN,F=[f0,f1,f2,f3,f4,f5,f6,f7,f8,f9]/\
  fr=caF va u1 v2 v3 (J_ q) (vIf f9 vN) v6 (vIf f0 (AX spC)) (vIf f1 (AX (~~~ spC))) (vIf f2 (AX spC)) (vIf f3 (.slice (k_ a3) 2 2)) (vIf f4 (.slice (k_ a4) 2 2)) (vIf f5 (.slice (k_ a5) 2 2)) (vIf f6 (.slice (k_ a6) 2 2)) (vIf f7 (.slice (k_ a7) 2 2)) (vIf f8 vN) r/\
  D_ (F_ G0) G0 G [pIf f3 (pB 65 a3 (Ag (~~~ spC)++Ag spC)),pIf f4 (pB 3 a4 [B_ 0,B_ 1]),pIf f5 (pB 3 a5 [B_ 1,B_ 1]),pIf f6 (pB 181 a6 [.slice (k_ a4) 2 2,.slice (k_ a5) 2 2]),pIf f7 (pB 4 a7 [.bool zU,.bool zW])]/\
  (f8=zW->AS (λk=>k<G.size) G vN YT)/\(f6=zW->f4=zW/\f5=zW)/\(f9=zW->f8=zW)
def Xr{S:Nat->Prop}{va:v_}{i:ReM}{A:AM}(hS:∀k,S k->k<H.size)(W:AS S H va (zY A))(hA:Jy i A):Am prog 156 #[va] H λv H'=>A_ (F_ H) H H'/\∃w ok,v= .tuple #[.string (bA w),.bool ok]/\mW i=M8 w ok/\w.length<=1099511627776:=by
 refine Am.of_vc func156 rfl (call156 _) (Af (GF 65 90 zQ zQ _) λH1 a1=>(BO (((St.nil H).call a1)) (AX 0) (Ag 0) rfl rfl λq H2 s2=>(AB (cs:=Ag (AR 65 90)) s2 0 rfl rfl (I_ _) rfl λH3 X=>?_)));have Q:L_ H3 q 65 (Ag spC):=X.blk 0 rfl;repeat (refine AC.run ?_)
 refine Ap.inv (CaJ H3 va undef (.string nx) (.bool zU) (AX spC) [undef,undef,undef,undef,undef] q) rfl zX ?_ ?_ ?_;{refine⟨zU,zU,zU,zU,zU,zU,zU,zU,zU,zU,0,0,0,0,0,undef,rfl,rfl,?_,nofun,nofun,nofun⟩;exact⟨A_.refl _ _,λ_ h=>h,I_ _,λp R=>by simp[pIf]at R;subst R;trivial,λp R k c=>by simp[pIf]at R;subst R;exact c.elim,by simp[pIf];intro k c;exact c.elim⟩};{rintro fr G ⟨t,u,y,z,D,E,g,B,m,n,a3,a4,C,I,J,K,Y,rfl,f,P,-,-⟩;have Y:[zW,zW,zW,zW,zW,zW,zW,zW,zW,zW]=[t,u,y,z,D,E,g,B,m,n]:=Y;cases Y;have P:=P rfl;have N:A_ (F_ H) H G:=X.old.trans (f.old.mono λk c=>X.up c);have Z:AS (λk=>k<G.size) G va (zY A):=(W.frame (N.mono hS)).mono λk c=>Ak N (hS k c);have T:Cc YT:=⟨_,_,_,rfl⟩;refine An.mk (Nc (S:=λk=>k<G.size) (λk c=>c) Z P hA.made.ok T.ok) ?_;rintro _ G1 ⟨a2,w,ok,rfl,hc,a0⟩;(conv=>whnf);exact⟨N.trans (a2.mono λk c=>Ak N c),w,ok,rfl,(Ev.o (hA.aut.meet (GI.refl YT)) hc).1,a0⟩};rintro F fr G i o ⟨t,u,y,z,D,E,g,B,m,n,a3,a4,C,I,J,K,rfl,rfl,f,P,L,O⟩ hl d M hd;have hi:i<10:=(P_.1 d).1;have U:L_ G q 65 (Ag spC):=Q.agr f.old Q.lt;have r:∀{G1:Aa},A_ (F_ G) G G1->m=zW->AS (λk=>k<G1.size) G1 K YT:=λa h=>((P h).frame a).mono λk c=>Ak a c;have V:∀{b:Nat} {G1:Aa},b=G.size->A_ (λk=>k<b) G G1->A_ (F_ G) G G1:=λh a=>a.mono λk c=>by unfold F_ at c;omega
 have a8:i=0\/i=1\/i=2\/i=3\/i=4\/i=5\/i=6\/i=7\/i=8\/i=9:=zO;rcases a8 with rfl | rfl | rfl | rfl | rfl | rfl | rfl | rfl | rfl | rfl;{have e:t=zU:=AkN.inj d;subst e;obtain rfl:=AkN.inj M;refine lN (cs:=Ag spC) (Vu U) ?_;(conv=>whnf);exact⟨zW,u,y,z,D,E,g,B,m,n,a3,a4,C,I,J,K,rfl,rfl,f,P,L,O⟩};{have e:u=zU:=AkN.inj d;subst e;obtain rfl:=AkN.inj M;have e0:t=zW:=AkN.inj (hd ⟨0,.data⟩ zZ rfl);subst e0;refine Af (SZ spC G) λG1 a1=>?_;(conv=>whnf);exact⟨zW,zW,y,z,D,E,g,B,m,n,a3,a4,C,I,J,K,rfl,rfl,f.call a1,r a1,L,O⟩};{have e:y=zU:=AkN.inj d;subst e;obtain rfl:=AkN.inj M;refine lN (cs:=Ag spC) (Vu U) ?_;(conv=>whnf);exact⟨t,u,zW,z,D,E,g,B,m,n,a3,a4,C,I,J,K,rfl,rfl,f,P,L,O⟩};{have e:z=zU:=AkN.inj d;subst e;obtain rfl:=AkN.inj M;have e1:u=zW:=AkN.inj (hd ⟨1,.data⟩ zZ rfl);subst e1;have e2:y=zW:=AkN.inj (hd ⟨2,.data⟩ zZ rfl);subst e2;refine HP Cj (Ag (~~~ spC)) (Ag spC) rfl rfl rfl rfl zQ zQ ?_;intro b G1 j hs c l;(conv=>whnf);exact⟨t,zW,zW,zW,D,E,g,B,m,n,b,a4,C,I,J,K,rfl,rfl,D_.fill_ f 0 rfl j hs c l,r (V j l),L,O⟩};{have e:D=zU:=AkN.inj d;subst e;obtain rfl:=AkN.inj M;obtain rfl:g=zU:=by{cases g<;>first | rfl | (have:=(L rfl).1;cases this)};refine HP AQ [B_ 0] [B_ 1] rfl rfl rfl rfl zQ zQ ?_;intro b G1 j hs c l;(conv=>whnf);exact⟨t,u,y,z,zW,E,zU,B,m,n,a3,b,C,I,J,K,rfl,rfl,D_.fill_ f 1 rfl j hs c l,r (V j l),λh=>⟨rfl,(L h).2⟩,O⟩};{have e:E=zU:=AkN.inj d;subst e;obtain rfl:=AkN.inj M;obtain rfl:g=zU:=by{cases g<;>first | rfl | (have:=(L rfl).2;cases this)};refine HP AQ [B_ 1] [B_ 1] rfl rfl rfl rfl zQ zQ ?_;intro b G1 j hs c l;(conv=>whnf);exact⟨t,u,y,z,D,zW,zU,B,m,n,a3,a4,b,I,J,K,rfl,rfl,D_.fill_ f 2 rfl j hs c l,r (V j l),λh=>⟨(L h).1,rfl⟩,O⟩};{have e:g=zU:=AkN.inj d;subst e;obtain rfl:=AkN.inj M;have e4:D=zW:=AkN.inj (hd ⟨4,.data⟩ zZ rfl);subst e4;have e5:E=zW:=AkN.inj (hd ⟨5,.data⟩ zZ rfl);subst e5;refine HP CS [.slice (k_ a4) 2 2] [.slice (k_ C) 2 2] rfl rfl rfl rfl zQ zQ ?_;intro b G1 j hs c l;(conv=>whnf);exact⟨t,u,y,z,zW,zW,zW,B,m,n,a3,a4,C,b,J,K,rfl,rfl,D_.fill_ f 3 rfl j hs c l,r (V j l),λ_=>⟨rfl,rfl⟩,O⟩};{have e:B=zU:=AkN.inj d;subst e;obtain rfl:=AkN.inj M;refine HP DT [.bool zU] [.bool zW] rfl rfl rfl rfl zQ zQ ?_;intro b G1 j hs c l;(conv=>whnf);exact⟨t,u,y,z,D,E,g,zW,m,n,a3,a4,C,I,b,K,rfl,rfl,D_.fill_ f 4 rfl j hs c l,r (V j l),L,O⟩};{have e:m=zU:=AkN.inj d;subst e;obtain rfl:=AkN.inj M;obtain rfl:n=zU:=by{cases n<;>first | rfl | (have:=O rfl;cases this)};have e3:z=zW:=AkN.inj (hd ⟨3,.data⟩ zZ rfl);subst e3;have e6:g=zW:=AkN.inj (hd ⟨6,.data⟩ zZ rfl);subst e6;have e7:B=zW:=AkN.inj (hd ⟨7,.data⟩ zZ rfl);subst e7;obtain⟨rfl,rfl⟩:=L rfl;have k3:=f.blk 0 rfl;have k4:=f.blk 1 rfl;have k5:=f.blk 2 rfl;have k6:=f.blk 3 rfl;have k7:=f.blk 4 rfl;have i0:zC .i64 0:=mB;have i1:zC .i64 1:=CF (x:=1) zQ;have r4:c_ tI (λk=>k<G.size) G (k_ a4) 2 [0,1]:=c_.ofB k4 k4.lt ⟨[_],[_],rfl,⟨rfl,i0⟩,Ty.reps_one ⟨rfl,i1⟩⟩ rfl zQ;have r5:c_ tI (λk=>k<G.size) G (k_ C) 2 [1,1]:=c_.ofB k5 k5.lt ⟨[_],[_],rfl,⟨rfl,i1⟩,Ty.reps_one ⟨rfl,i1⟩⟩ rfl zQ;refine An.mk (ZX (k_ a3) (k_ I) (k_ J) 2 2 2 [~~~ spC,spC] [[0,1],[1,1]] [zU,zW] (λk=>k<G.size) G (λk c=>c) (c_.ofB k3 k3.lt ⟨_,_,rfl,rfl,Ty.reps_one rfl⟩ rfl zQ) (c_.ofB k6 k6.lt ⟨[_],[_],rfl,⟨_,_,rfl,r4⟩,Ty.reps_one ⟨_,_,rfl,r5⟩⟩ rfl zQ) (c_.ofB k7 k7.lt ⟨[_],[_],rfl,rfl,Ty.reps_one rfl⟩ rfl zQ)) ?_;rintro v G1 ⟨a1,a9,hv⟩;(conv=>whnf);exact⟨t,u,y,zW,zW,zW,zW,zW,zW,zU,a3,a4,C,I,J,v,rfl,rfl,f.call a1,λ_=>hv.mono λk c=>c.2,λ_=>⟨rfl,rfl⟩,λ_=>rfl⟩};have e:n=zU:=AkN.inj d;subst e;obtain rfl:=AkN.inj M;have e8:m=zW:=AkN.inj (hd ⟨8,.data⟩ zZ rfl);subst e8;(conv=>whnf);exact⟨t,u,y,z,D,E,g,B,zW,zW,a3,a4,C,I,J,K,rfl,rfl,f,P,L,λ_=>rfl⟩
section
variable{B B':Nat->Prop}{H H':Aa}{c p m:Nat}{b:Nat}{r:ReM}{w:ByteArray}{v:v_}
def Mv:Aw prog 154 #[B_ c,B_ p,.string w] H (λ_ _=>False) (λy H'=>y=uW c p w/\H'=H):=by refine Aw.of_vc func154 rfl (call154 _) (Ad underlying24 rfl _ rfl (t_ c p w) rfl ?_);(conv=>whnf);exact⟨rfl,rfl⟩
def AuV(B:Nat->Prop)(H:Aa)(v:v_)(r:ReM):Prop:=∃A,AS B H v (zY A)/\Jy r A
def AuV.up(h:AuV B H v r)(a:∀k,B k->B' k)(b:A_ B H H'):AuV B' H' v r:=by have⟨A,c,d⟩:=h;exact⟨A,(c.frame b).mono a,d⟩
def AuV.ptr{v:v_}(h:AuV B H v r):∃a,v= J_ a:=by obtain⟨A,⟨pb,b,-⟩,-⟩:=h;exact⟨pb,b⟩
def fQ(H:Aa)(b:Nat)(r:ReM)(p:Nat)(v:v_)(H':Aa):Prop:=bld b r p= .inr ()/\A_ (F_ H) H H'/\AuV (λk=>H.size<=k/\k<H'.size) H' v r
structure FtW(c p:Nat)(w:List Nat):Prop where
 c0:0<c
 c1:c<=100
 p1:p<=1048576
 w1:w.length<=1099511627776
def QuE(H:Aa){α:Type}(x:F3 ⊕ α)(y:v_)(H':Aa):Prop:=∃c p w,x= .inl (c,p,w)/\y=uW c p (bA w)/\A_ (F_ H) H H'/\FtW c p w
def ZC(a:Eo prog H)(q:1<=b)(t:b<=4096)(l:r.nodes<=2000):Am prog 124 #[Al r,B_ b] H λR H'=>A_ (F_ H) H H'/\((bld b r p= .inl (40,p,[])/\R= .tuple #[.pointer zV,B_ 40])\/(bld b r p= .inr ()/\∃v,R= .tuple #[v,B_ 0]/\AuV (λk=>H.size<=k/\k<H'.size) H' v r)):=by refine(X7 r zO a).mono ?_;rintro R H1 ⟨a1,c⟩;refine⟨a1,?_⟩;by_cases g:Br r<=b;{have⟨d,e,f⟩:=AeT (b:=(b:Int)) zO zO (by omega:(Br r:Int)<=b);rw[f]at c;obtain⟨v,A,rfl,j,m,n⟩:=c;refine .inr ⟨H_ g,v,rfl,A,j,⟨?_,m,d,_,e,n⟩⟩;obtain⟨pb,rfl,h⟩:=j;exact h.ok};rw[AeS (b:=(b:Int)) zO zO l zO]at c;exact .inl ⟨G_ g,c⟩
def iO(a:Eo prog H)(e:1<=b)(f:b<=4096)(g:r.nodes<=2000)(j:p<=1048576)(k:L_ H m 240 [B_ b]):Aw prog 155 #[J_ m,Al r,B_ p] H (fQ H b r p) (QuE H (bld b r p)):=by
 refine Aw.of_vc func155 rfl (call155 _) (E_ ?_);refine C_ (k.cellE rfl) zA (Ab.of (An.mk (ZC (p:=p) a e f g) ?_));rintro R H1 ⟨a1,⟨d,rfl⟩ | ⟨d,v,rfl,l⟩⟩;{(repeat (refine Ah.run ?_));refine Ab.mk (Mv (c:=40) (p:=p) (w:=nx)) (λ_ _ h=>h.elim) ?_;rintro y _ ⟨rfl,rfl⟩;exact⟨40,p,[],d,rfl,a1,zQ,zQ,j,V_ _⟩};repeat (refine Ah.run ?_)
 (conv=>whnf);exact⟨d,a1,l⟩
end
def QuV(B:Nat->Prop)(H:Aa):QuM->v_->Prop | .nil,v=>v= .pointer zV | .mk t o i x y,v=>∃g vt vo vi vx vy,v= J_ g/\B g/\L_ H g 115 [vt,Al o,Al i,vo,vi,vx,vy]/\Z' B H t vt/\t.isCa=zW/\AuV B H vo o/\AuV B H vi i/\QuV B H x vx/\QuV B H y vy
def QuV.up{B':Nat->Prop}{H':Aa}(a:∀k,B k->B' k)(b:A_ B H H'):∀{Q:QuM} {v:v_},QuV B H Q v->QuV B' H' Q v | .nil,_,h=>h | .mk ..,_,⟨g,vt,vo,vi,vx,vy,e,h1,h2,h3,h4,h5,h6,h7,h8⟩=>⟨g,vt,vo,vi,vx,vy,e,a g h1,h2.agr b h1,h3.up a b,h4,h5.up a b,h6.up a b,h7.up a b,h8.up a b⟩
def QuV.ptr:∀{Q:QuM} {v:v_},QuV B H Q v->∃a,v= .pointer a | .nil,_,h=>⟨_,h⟩ | .mk ..,_,⟨g,vt,vo,vi,vx,vy,e,_⟩=>⟨_,e⟩
structure X'(B:Nat->Prop)(H:Aa)(q:Nat)(l:List v_)(T:Nat->Prop)(G:Aa)(A C:QuM)(vA vC:v_):Prop where
 st:D_ (λk=>F_ H k\/T k) G G [pB 115 q l]
 ag:A_ (F_ H) H G
 tn:∀k,T k->H.size<=k
 qn:H.size<=q
 qa:QuV (λk=>B k\/T k) G A vA
 qc:QuV (λk=>B k\/T k) G C vC
def X'.blk{q:Nat}{A C:QuM}(h:X' B H q l T G A C vA vC):L_ G q 115 l:=h.st.blk 0 rfl
def X'.bt(a:∀k,B k->k<H.size){k:Nat}(h:B k\/T k):F_ H k\/T k:=h.imp_left (a k)
section
variable{q:Nat}{A C:QuM}
def X'.grow(d:∀k,B k->k<H.size)(h:X' B H q l T G A C vA vC)(a:A_ (F_ G) G G'):X' B H q l (λk=>T k\/(G.size<=k/\k<G'.size)) G' A C vA vC:=by have c:A_ (λk=>B k\/T k) G G':=a.mono λk b=>h.st.up (X'.bt d b);refine⟨(h.st.widen a _ λk b=>b).low λk b=>?_,h.ag.trans (a.mono λk b=>h.st.up (.inl b)),λk b=>?_,h.qn,h.qa.up (λk b=>b.imp_right .inl) c,h.qc.up (λk b=>b.imp_right .inl) c⟩;{rcases b with b | b | b;{exact .inl (.inl b)};{exact .inl (.inr b)};exact .inr b};rcases b with b | b;{exact h.tn k b};exact V' (Ay h.ag) b.1
def X'.call(d:∀k,B k->k<H.size)(h:X' B H q l T G A C vA vC)(a:A_ (F_ G) G G'):X' B H q l T G' A C vA vC:=by have c:A_ (λk=>B k\/T k) G G':=a.mono λk b=>h.st.up (X'.bt d b);exact⟨(h.st.call a).rebase,h.ag.trans (a.mono λk b=>h.st.up (.inl b)),h.tn,h.qn,h.qa.up (λ_ h=>h) c,h.qc.up (λ_ h=>h) c⟩
def X'.set(d:∀k,B k->k<H.size){t o:Nat}{v:v_}(h:X' B H q l T G A C vA vC) [ht:CellT prog t](e:o<l.length)(f:v.oneCell'=zW)(k:∀G',X' B H q (l.set o v) T G' A C vA vC->A_ (λk=>F_ H k\/T k) G G'->K G'):BK prog (Instr.storeAt t (.pointer (zY ⟨q,o,zV⟩)) v) G K:=by refine Bc h.st 0 rfl e f λG' a=>?_;have c:A_ (λk=>B k\/T k) G G':=a.old.mono λk b=>X'.bt d b;exact k G' ⟨a.rebase,h.ag.trans (a.old.mono λk b=>.inl b),h.tn,h.qn,h.qa.up (λ_ h=>h) c,h.qc.up (λ_ h=>h) c⟩ a.old
def X'.withA{u:v_}(h:X' B H q l T G A C vA vC)(a:QuV (λk=>B k\/T k) G Q u):X' B H q l T G Q C u vC:=⟨h.st,h.ag,h.tn,h.qn,a,h.qc⟩
def X'.withC{u:v_}(h:X' B H q l T G A C vA vC)(a:QuV (λk=>B k\/T k) G Q u):X' B H q l T G A Q vA u:=⟨h.st,h.ag,h.tn,h.qn,h.qa,a⟩
def X'.keep(e:∀k,B k->k<H.size)(h:X' B H q l T G A C vA vC)(a:A_ (λk=>(F_ H k\/T k)\/k=q) G G')(hs:G.size<=G'.size):X' B H q l T G' A C vA vC:=by have d:A_ (λk=>B k\/T k) G G':=a.mono λk b=>.inl (X'.bt e b);refine⟨⟨A_.refl _ _,λk b=>yQ (h.st.up b) hs,I_ _,λp c=>?_,λp c k b=>?_,h.st.dis⟩,h.ag.trans (a.mono λk b=>.inl (.inl b)),h.tn,h.qn,h.qa.up (λ_ h=>h) d,h.qc.up (λ_ h=>h) d⟩;{cases Q_.1 c;exact h.blk.agr a (.inr rfl)};have:=h.st.rng p c k b;exact⟨this.1,yQ this.2 hs⟩
def X'.fr(h:X' B H q l T G A C vA vC){k:Nat}(a:B k\/T k):s_ B H G k:=a.imp_right λa=>⟨h.tn k a,h.st.up (.inr a)⟩
end
def iP{op:CO}{to back:ByteArray}{y:Tm}{A C:QuM}{r:ReM×ReM}(a:(match op with | .id | .fold | .norm=>n.isSome | .star=>x.isCa | _=>x.isCa&&y.isCa)=zW) (c:x.isCa=zW->A.o.nodes<=x.sz/\A.i.nodes<=x.sz) (d:y.isCa=zW->C.o.nodes<=y.sz/\C.i.nodes<=y.sz) (b:oL p op n to A C= .inr r):r.1.nodes<=(Tm.ca p op n to back x y).sz/\r.2.nodes<=(Tm.ca p op n to back x y).sz:=by
 rw[Me];cases op;all_goals simp only[oL]at b
 (case id | fold=>cases b;cases n with|none=>cases a|some r=>{first | exact⟨by simp only[DJ,nO,Am6];omega,by simp only[DJ,nO,Am6];omega⟩ | exact⟨by rw[HO];simp only[DJ,nO,Am6];omega,by simp only[DJ,nO,Am6];omega⟩});(case norm=>cases b;cases n with|none=>cases a|some r=>rw[Lf];exact⟨by simp only[DJ,nO,Am6];omega,by simp only[CO.isN,if_true];omega⟩);(case cat=>simp at a;have c:=c a.1;have d:=d a.2;obtain⟨_,-,b⟩:=Ax b;obtain⟨_,-,b⟩:=Ax b;cases b;exact⟨by simp only[ReM.nodes];omega,by simp only[ReM.nodes];omega⟩);(case alt=>simp at a;have c:=c a.1;have d:=d a.2;obtain⟨_,-,b⟩:=Ax b;cases b;exact⟨by simp only[ReM.nodes];omega,by simp only[ReM.nodes];omega⟩);(case star=>have c:=c a;obtain⟨_,-,b⟩:=Ax b;obtain⟨_,-,b⟩:=Ax b;cases b;exact⟨by simp only[ReM.nodes];omega,by simp only[ReM.nodes];omega⟩)
def FW:∀{t:Tm} {b:Nat} {Q:QuM},t.wf=zW->t.isCa=zW->D5 b t= .inr Q->Q.o.nodes<=t.sz/\Q.i.nodes<=t.sz | .txt ..,b,Q,_,h,_ | .rx ..,b,Q,_,h,_ | .le ..,b,Q,_,h,_ | .nil,b,Q,_,h,_=>by cases h | .ca p op n to back x y,b,Q,hw,_,h=>by simp only[D5]at h;have⟨A,f,h⟩:=Ax h;have⟨C,g,h⟩:=Ax h;have⟨r,j,h⟩:=Ax h;obtain⟨_,-,h⟩:=Ax h;obtain⟨_,-,h⟩:=Ax h;obtain⟨_,-,h⟩:=Ax h;cases h;unfold Tm.wf at hw;simp only[o_]at hw;obtain⟨⟨a,c⟩,d⟩:=hw;exact iP a (λe=>FW c e f) (λe=>FW d e g) j
def Tm.maxT:Tm->Prop | .ca p _ _ to back a b=>p<=1048576/\(to.size<=1048576/\back.size<=1048576)/\a.maxT/\b.maxT | .le p _ _ s q a b=>p<=1048576/\s.size<=1048576/\q.maxT/\a.maxT/\b.maxT | _=>True
def oX:CO->Nat | .id=>0 | .norm=>1 | .fold=>2 | .cat=>3 | .alt=>4 | .star=>5
abbrev tC(w:ByteArray)(op:CO)(l:List UInt8)(i:Nat):Prop:=(w.toList==(⟨l.toArray⟩:ByteArray).toList)=zT (oX op=i)
def AkZ{op:CO}(a:w=op.s):tC w op [105,100] 0/\tC w op [110,111,114,109] 1/\tC w op [102,111,108,100] 2/\tC w op [99,97,116] 3/\tC w op [97,108,116] 4/\tC w op [115,116,97,114] 5:=by subst a;unfold tC;simp only[CP];cases op<;>decide
def Kw(P:w_)(ops:Array Oper)(Q:Exit->Act->y_->Prop)(S:y_->Prop)(Z M:List Nat):Nat->Array Bool->Act->y_->Prop | 0,listed,a,w=>Region.ready .any ops listed=[]/\Q .normal a w | fuel+1,listed,a,w=>(Region.ready .any ops listed=[]->Q .normal a w)/\ ∀i∈Region.ready .any ops listed,wpOp P ops Q i (λa' w'=>((Z.contains i=zU\/(M.contains i=zW/\S w))->S w')/\Kw P ops Q S Z M fuel (listed.setIfInBounds i zW) a' w') a w
def OW{P:w_}{d:Array Oper}{Q:Exit->Act->y_->Prop}{S:y_->Prop}{Z M:List Nat}:∀(b:Nat) (c:Array Bool) (a:Act) (w:y_),Kw P d Q S Z M b c a w->wpAny P .any d Q b c a w | 0,_,_,_,h=>h | b+1,_,_,_,h=>⟨h.1,λi e=>wpOp_mono (λa' f g=>OW b _ a' f g.2) (h.2 i e)⟩
def RT{g:Array Oper}{Q:Exit->Act->y_->Prop}{M:List Nat}{i f:Nat}{u:Oper}{v:v_}(N:g[i]?=zY u)(r:∀(j:Nat) (o:Oper) C b,g[j]?=zY o->o.op≠ .select C b)(W:∀c a w,Q (.panic c) (a.put u.dst v) w->Q (.panic c) a w) (X:Z.contains i=zU) (Y:∀j,Z.contains j=zW->M.contains j=zU->GC g f j i=zW):∀(l:Nat) (d:Array Bool) (a:Act) (w:y_),Zad g d->(∀j x,g[j]?=zY x->j≠i->d.getD j zW=zU->(∀e∈x.after,Region.binds .any e=zW->e.on≠i)->u.apart g x=zW)->i∈Region.ready .any g d->YieldsIf P g S u v a->S w->Kw P g Q S Z M l (d.setIfInBounds i zW) (a.put u.dst v) w->Kw P g Q S Z M (l+1) d a w:=by
 intro l;induction l with|zero=>intro d a w _ _ y J A H;refine⟨λh=>(by rw[h]at y;cases y),λj B=>?_⟩;by_cases m:j=i;{subst m;exact J.wpOp N A ⟨λ_=>A,H⟩};have:=ready_mono B m;rw[H.1]at this;cases this|succ l ih=>{
 intro d a w D n y J A H;refine⟨λh=>(by rw[h]at y;cases y),λj B=>?_⟩;by_cases m:j=i;{subst m;exact J.wpOp N A ⟨λ_=>A,H⟩};have K:=H.2 j (ready_mono B m);have⟨t,x,z,E⟩:=mem_ready.1 B;have p:d.getD i zU=zU:=by{have O:=(mem_ready.1 y).1;rcases Nat.lt_or_ge i d.size with R | R;{simp[R]at O ⊢;exact O};simp[rB R]at O};have F:∀e∈x.after,Region.binds .any e=zW->e.on≠i:=λe he hb T=>by{have K:=E e he hb;rw[T,p]at K;cases K};have G:Z.contains j=zU\/(M.contains j=zW/\S w):=by{cases hc:Z.contains j with|false=>exact .inl rfl|true=>{cases hm:M.contains j with|true=>exact .inr ⟨rfl,A⟩|false=>exact absurd B (D.not_ready (Y j hc hm) p)}};have h2:=wpOp_putIf z (n j x z m t F) (λC b=>r i u C b N) (λC b=>r j x C b z) W J K
 have q:∀k ok,g[k]?=zY ok->k≠i->(d.setIfInBounds j zW).getD k zW=zU->
   (∀e∈ok.after,Region.binds .any e=zW->e.on≠i)->u.apart g ok=zW:=λk ok hk U p V=>by
  refine n k ok hk U ?_ V;by_cases I:j=k
  ·subst I;exact t
  ·rw[getD_set_ne zW I]at p;exact p
 refine wpOp_mono (λa' w' L=>⟨λ_=>L.2.1 G,ih (d.setIfInBounds j zW) a' w' (D.put B) q (ready_mono y (Ne.symm m)) L.1 (L.2.1 G) ?_⟩) h2;rw[nK _ _ m];exact L.2.2}
def Ub{f:Array Oper}{Q:Exit->Act->y_->Prop}{M:List Nat}{i:Nat}{t:Oper}{v:v_}(I:f[i]?=zY t)(q:∀(j:Nat) (o:Oper) z b,f[j]?=zY o->o.op≠ .select z b)(T:∀c a w,Q (.panic c) (a.put t.dst v) w->Q (.panic c) a w) (A:Z.contains i=zW):∀(g:Nat) (d:Array Bool) (a:Act) (w:y_),(∀j u,f[j]?=zY u->j≠i->d.getD j zW=zU->(∀e∈u.after,Region.binds .any e=zW->e.on≠i)->t.apart f u=zW)->i∈Region.ready .any f d->YieldsIf P f (λ_=>True) t v a->Kw P f Q S Z M g (d.setIfInBounds i zW) (a.put t.dst v) w->Kw P f Q S Z M (g+1) d a w:=by
 intro g;induction g with|zero=>intro d a w _ x E H;refine⟨λh=>(by rw[h]at x;cases x),λj F=>?_⟩;by_cases l:j=i;{subst l;exact E.wpOp I trivial ⟨λh=>h.elim (λh=>by rw[A]at h;cases h) And.right,H⟩};have:=ready_mono F l;rw[H.1]at this;cases this|succ g U=>{
 intro d a w m x E H;refine⟨λh=>(by rw[h]at x;cases x),λj F=>?_⟩;by_cases l:j=i;{subst l;exact E.wpOp I trivial ⟨λh=>h.elim (λh=>by rw[A]at h;cases h) And.right,H⟩};have G:=H.2 j (ready_mono F l);have⟨r,u,y,B⟩:=mem_ready.1 F;have n:d.getD i zU=zU:=by{have J:=(mem_ready.1 x).1;rcases Nat.lt_or_ge i d.size with K | K;{simp[K]at J ⊢;exact J};simp[rB K]at J};have C:∀e∈u.after,Region.binds .any e=zW->e.on≠i:=λe V W L=>by{have G:=B e V W;rw[L,n]at G;cases G};have X:=wpOp_putIf y (m j u y l r C) (λz b=>q i t z b I) (λz b=>q j u z b y) T E G
 have p:∀k ok,f[k]?=zY ok->k≠i->(d.setIfInBounds j zW).getD k zW=zU->
   (∀e∈ok.after,Region.binds .any e=zW->e.on≠i)->t.apart f ok=zW:=λk ok Y N n O=>by
  refine m k ok Y N ?_ O;by_cases D:j=k
  ·subst D;exact r
  ·rw[getD_set_ne zW D]at n;exact n
 refine wpOp_mono (λa' w' R=>⟨R.2.1,U (d.setIfInBounds j zW) a' w' p (ready_mono x (Ne.symm l)) R.1 ?_⟩) X;rw[nK _ _ l];exact R.2.2}
def pP(P:w_)(S:Nat->Prop)(Z:List Nat)(H0:Aa)(all:List Oper)(i:Nat)(fr:Fr)(H:Aa)(next:Fr->Aa->Prop):Prop:=match all[i]? with
 | none=>False
 | some o=>match o.guard with
   | some _=>False
   | none=>match Z.contains i with
     | true=>wH P zU (λ_=>True) o fr H λv H'=>Cf o.dst fr v λfr'=>next fr' H'
     | false=>wH P zU (λ_=>True) o fr H λv H'=>A_ S H0 H'/\Cf o.dst fr v λfr'=>next fr' H'
def heldM(P:w_)(S:Nat->Prop)(Z M:List Nat)(H0:Aa)(all:List Oper)(s:Sch):Fr->Aa->(Fr->Aa->Prop)->Prop:=Sch.rec (motive:=λ_=>Fr->Aa->(Fr->Aa->Prop)->Prop) (λfr H K=>K fr H)
  (λi _ ih fr H K=>match all[i]? with
   | none=>False
   | some o=>match o.guard with
     | some _=>False
     | none=>match HV o&&DC P o with
       | true=>match M.contains i with
         | true=>J7 P (λ_=>False) o fr H λv=>Cf o.dst fr v λfr'=>ih fr' H K
         | false=>J7 P S o fr H λv=>Cf o.dst fr v λfr'=>ih fr' H K
       | false=>False)
  (λi _ ih fr H K=>pP P S Z H0 all i fr H λfr' H'=>ih fr' H' K)
  (λi _ j _ ih ih' fr H K=>(pP P S Z H0 all i fr H λfr' H'=>ih fr' H' K)/\pP P S Z H0 all j fr H λfr' H'=>ih' fr' H' K) s
def AdV(P:w_)(S:Nat->Prop)(Z M:List Nat)(H0:Aa)(all:List Oper)(i:Nat)(s:Sch)(fr:Fr)(H:Aa)(K:Fr->Aa->Prop):heldM P S Z M H0 all (.q i s) fr H K=
  (match all[i]? with
   | none=>False
   | some o=>match o.guard with
     | some _=>False
     | none=>match HV o&&DC P o with
       | true=>match M.contains i with
         | true=>J7 P (λ_=>False) o fr H λv=>Cf o.dst fr v λa=>heldM P S Z M H0 all s a H K
         | false=>J7 P S o fr H λv=>Cf o.dst fr v λa=>heldM P S Z M H0 all s a H K
       | false=>False):=rfl
def JM(Z M:List Nat):Sch->Bool | .e=>zW | .q i s=>M.contains i&&JM Z M s | .f i s=>Z.contains i&&JM Z M s | .b i s j s'=>Z.contains i&&Z.contains j&&JM Z M s&&JM Z M s'
def Gz(ops:Array Oper)(Z M:List Nat):Sch->Array Bool->Bool | .e,listed=>(Region.ready .any ops listed).isEmpty | .q i s,listed=>(Region.ready .any ops listed).contains i&&Region.free .any ops listed i&&((M.contains i&&Z.contains i)|| (!(M.contains i)&& !(Z.contains i)&&Z.all λz=>M.contains z|| GC ops ops.size z i))&&Gz ops Z M s (listed.setIfInBounds i zW)| .f i s,listed=>Region.ready .any ops listed==[i]&& !(M.contains i)&&(!(Z.contains i)|| JM Z M s)&&Gz ops Z M s (listed.setIfInBounds i zW)| .b i s j s',listed=>Region.ready .any ops listed==[i,j]&& !(M.contains i)&& !(M.contains j)&&((!(Z.contains i)&& !(Z.contains j))|| (JM Z M s&&JM Z M s'))&&Gz ops Z M s (listed.setIfInBounds i zW)&&Gz ops Z M s' (listed.setIfInBounds j zW)
def IJ{S:Nat->Prop}{all:List Oper}{Q:Exit->Act->y_->Prop}{i:Nat}{fr:Fr}{w:y_}{next:Fr->Aa->Prop}(c:At fr a) (l:Z_ w0 w) (h:pP P S Z w0.heap all i fr w.heap next)(n:∀f a' e,At f a'->Z_ w0 e->(Z.contains i=zU->yU w0 S e)->next f e.heap->N a' e):wpOp P all.toArray Q i N a w:=by
 unfold pP at h;split at h;{exact h.elim};rename_i o p;have m:all.toArray[i]?=zY o:=by simpa using p
 split at h;{exact h.elim};rename_i q;have d:Region.wanted o (yielded all.toArray a.tmps)=zW:=by simp[Region.wanted,q]
 unfold wpOp;rw[m];dsimp only;rw[H_ d];split at h;{rename_i r;refine .inl (Oper.wp_mono ?_ (Cn c h _));rintro a' e ⟨v,rfl,b,g⟩;rw[Bk]at g;exact n _ _ _ (c.put o.dst v) (l.trans b) (λj=>by rw[r]at j;cases j) g};refine .inl (Oper.wp_mono ?_ (Cn c h _));rintro a' e ⟨v,rfl,b,k,g⟩;rw[Bk]at g;exact n _ _ _ (c.put o.dst v) (l.trans b) (λ_=>⟨l.trans b,k⟩) g
def DO{P:w_}{S:Nat->Prop}{Z M:List Nat}{w0:y_}{all:List Oper}{Q:Exit->Act->y_->Prop}(hs:Region.noSelect all.toArray=zW)
  (F:∀c a w,¬Q (.panic c) a w):∀(l:Sch) (d:Array Bool) (fr:Fr) (a:Act) (w:y_) (K:Fr->Aa->Prop),At fr a->Z_ w0 w->(JM Z M l=zU->yU w0 S w)->Zad all.toArray d->
  (∀u a' n,At u a'->Z_ w0 n->K u n.heap->Q .normal a' n)->Gz all.toArray Z M l d=zW->l.even=zW->
  heldM P S Z M w0.heap all l fr w.heap K->Kw P all.toArray Q (yU w0 S) Z M l.len d a w
 | .e,d,fr,a,w,K,hat,he,_,_,hq,hB,_,h=>⟨by simpa [Gz]using hB,hq fr a w hat he h⟩
 | .q i s,d,fr,a,w,K,hat,he,D,hsh,hq,hB,hev,h=>by
   simp only[Gz,o_,wX,wD,xJ]at hB;obtain⟨⟨⟨G,g⟩,p⟩,t⟩:=hB;rw[AdV]at h;split at h
   ·exact h.elim
   ·rename_i o Y;have A:all.toArray[i]?=zY o:=by simpa using Y
    have B:i∈Region.ready .any all.toArray d:=by simpa using G
    split at h
    ·exact h.elim
    ·rename_i hg;have y:Region.wanted o (yielded all.toArray a.tmps)=zW:=by simp[Region.wanted,hg]
     split at h
     ·split at h
      ·rename_i R;have z:Z.contains i=zW:=by
        rcases p with p | p
        ·exact p.2
        ·rw[R]at p;exact absurd p.1.1 nofun
       have⟨v,T,m⟩:=CJ h;rw[Bk]at m;refine Ub (v:=v) A (Region.noSelect_spec hs) (λc a' n r=>(F _ _ _ r).elim) z s.len d a w (Region.free_spec A g) B (.inl ⟨y,λn _=>?_⟩) ?_
       ·rw[hat.evalF];exact T n λk m=>m.elim
       ·exact DO hs F s _ _ _ w K (hat.put o.dst v) he (λC=>D (by simp[JM,C])) (hsh.put B) hq t hev m
      ·rename_i R;have H:M.contains i=zU:=by cases C:M.contains i<;>first | rfl | exact absurd C (by simpa using R)
       have p:(M.contains i=zU/\Z.contains i=zU)/\∀x∈Z,M.contains x=zW\/GC all.toArray all.toArray.size x i=zW:=by
        rcases p with p | p
        ·rw[H]at p;exact absurd p.1 nofun
        ·exact p
       have D:=D (by simp only[JM,H,vX]);have⟨v,T,m⟩:=CJ h;rw[Bk]at m;refine RT (v:=v) (f:=all.toArray.size) A (Region.noSelect_spec hs) (λc a' n r=>(F _ _ _ r).elim) p.1.2 (λj I hm=>(p.2 j (by simpa using I)).elim (λh=>by rw[hm]at h;cases h) id) s.len d a w hsh (Region.free_spec A g) B
        (.inl ⟨y,λn U=>?_⟩) D ?_
       ·rw[hat.evalF];exact T n λk m=>(U.2 k m).trans (D.2 k m).symm
       ·exact DO hs F s _ _ _ w K (hat.put o.dst v) he (λ_=>D) (hsh.put B) hq t hev m
     ·exact h.elim
 | .f i s,d,fr,a,w,K,hat,he,D,hsh,hq,hB,hev,h=>by
   simp only[Gz,o_,wX,wD,beq_iff_eq]at hB;obtain⟨⟨⟨G,V⟩,g⟩,t⟩:=hB;refine⟨(λC=>by rw[G]at C;cases C),λj I=>?_⟩;have W:=I;rw[G]at I;obtain rfl:j=i:=by simpa using I
   refine IJ hat he h λu a' n J L E N=>⟨λr=>r.elim E λr=>absurd r.1 (by rw[V];exact nofun),DO hs F s _ _ _ n K J L (λz=>?_) (hsh.put W) hq t hev N⟩;rcases g with g | g
   ·exact E g
   ·rw[g]at z;cases z
 | .b i s j s',d,fr,a,w,K,hat,he,D,hsh,hq,hB,hev,h=>by
   simp only[Gz,o_,wX,wD,beq_iff_eq]at hB;obtain⟨⟨⟨⟨⟨G,V⟩,bN⟩,g⟩,t⟩,X⟩:=hB;simp only[Sch.even,o_,beq_iff_eq]at hev;obtain⟨⟨e1,e2⟩,e3⟩:=hev;refine⟨(λC=>by rw[G]at C;cases C),λk m=>?_⟩;have O:=m;rw[G]at m;rcases J'.1 m with rfl | m
   ·refine IJ hat he h.1 λu a' n J L E N=>⟨λr=>r.elim E λr=>absurd r.1 (by rw[V];exact nofun),DO hs F s _ _ _ n K J L (λz=>?_) (hsh.put O) hq t e1 N⟩;rcases g with g | g
    ·exact E g.1
    ·rw[g.1]at z;cases z
   ·obtain rfl:k=j:=by simpa using m
    rw[e3];refine IJ hat he h.2 λu a' n J L E N=>⟨λr=>r.elim E λr=>absurd r.1 (by rw[bN];exact nofun),DO hs F s' _ _ _ n K J L (λz=>?_) (hsh.put O) hq X e2 N⟩;rcases g with g | g
    ·exact E g.2
    ·rw[g.2]at z;cases z
def Ap.heldM{l:List Oper}{fr:Fr}{K:Fr->Aa->Prop}(S:Nat->Prop)(Z M:List Nat)(b:Sch)(g:P.follows .mixedOrders=zW)(c:(Region.noSelect l.toArray&&(b.len==l.length)&&b.even&&Gz l.toArray Z M b (AlY l.length zU))=zW)(h:YtjbnocjgdmnkoaaGreatDoor.heldM P S Z M H l b fr H K):Ap P l fr H K:=by refine⟨?_⟩;intro id Q a w d k m n;subst k;simp only[o_,beq_iff_eq]at c;refine wp_region_any g (OW (S:=yU w S) (Z:=Z) (M:=M) _ _ _ _ ?_);have e:Zad l.toArray (AlY l.length zU):=λj o _ f=>by{rw[dM,dN]at f;split at f<;>simp at f};have:=DO (P:=P) (S:=S) (Z:=Z) (M:=M) (w0:=w) (Q:=Q) c.1.1.1 m b (AlY l.length zU) fr a {w with drawn:=w.drawn+1} K d ⟨rfl,rfl,rfl⟩ (λ_=>⟨⟨rfl,rfl,rfl⟩,A_.refl _ _⟩) e n c.2 c.1.2 h;rw[c.1.1.2]at this;simpa using this
def fT(B:Nat->Prop)(H:Aa)(b:Nat)(t:Tm)(v:v_)(H':Aa):Prop:=∃Q,D5 b t= .inr Q/\A_ (F_ H) H H'/\QuV (s_ B H H') H' Q v
def QuE.of{α β:Type}{x:F3 ⊕ α}{X:F3 ⊕ β}{y:v_}(h:QuE G x y G')(a:A_ (F_ H) H G)(b:∀e,x= .inl e->X= .inl e):QuE H X y G':=by have⟨c,p,w,d,f,g,j⟩:=h;exact⟨c,p,w,b _ d,f,a.trans (g.mono λk l=>Ak a l),j⟩
def Wr(h:t.isC=zW)(a:t.isCa=zU):t= .nil:=by cases t<;>first | rfl | (cases h;done) | (cases a;done)
def Oy{v:v_}(d:D5 b t= .inr Q)(f:t.isCa=zW)(h:QuV B H Q v):∃g vt a c vx vy,v= J_ g/\B g/\L_ H g 115 [vt,Al Q.o,Al Q.i,a,c,vx,vy]/\AuV B H a Q.o/\AuV B H c Q.i:=by obtain⟨o,i,A,C,rfl⟩:=K9 d f;have⟨g,vt,a,c,vx,vy,e,j,k,n,p,l,m,q,r⟩:=h;exact⟨g,vt,a,c,vx,vy,e,j,k,l,m⟩
def Bj{α β:Type}{x:F3 ⊕ α}{f:α->F3 ⊕ β}{e:F3}(h:x= .inl e):l_ x f= .inl e:=by rw[h];rfl
def nH(b:Nat)(t:Tm):Prop:=t.wf=zW->t.isCa=zW->t.sz<=2000->t.maxT->∀(B:Nat->Prop) (H:Aa) (m:Nat) (v:v_),(∀k,B k->k<H.size)->Eo prog H->B m->L_ H m 240 [B_ b]->Z' B H t v->
    Aw prog 123 #[J_ m,v] H (fT B H b t) (QuE H (D5 b t))
def jT(ch:1<=b)(ci:b<=4096){op:CO}{to back:ByteArray}{y:Tm}(da:nH b x)(db:nH b y):nH b (.ca p op n to back x y):=by
 intro hw _ hz dc B H m v l aw hm bf ht;have de:=ht;obtain⟨g,vx,vy,rfl,O,F,kx,ky,bx,bz⟩:=ht;obtain⟨ws,cj⟩:∃ws,ws=op.s:=⟨_,rfl⟩;replace F:L_ H g 191 [B_ p,.string ws,noV n,.string to,.string back,vx,vy]:=by rw[cj];exact F
 have dz:=hw;unfold Tm.wf at hw;simp only[o_]at hw;obtain⟨⟨M,ck⟩,cm⟩:=hw;have⟨ab,b4,df,dg⟩:=dc;have⟨b4,d9⟩:=b4;have b5:= @FW (.ca p op n to back x y) b;have dh:x.sz<=2000:=by rw[Me]at hz;omega
 have di:y.sz<=2000:=by rw[Me]at hz;omega
 obtain⟨X,N⟩:∃X,D5 b (.ca p op n to back x y)=X:=⟨_,rfl⟩;have dj:=N;simp only[D5]at N;have⟨e0,e1,e2,e3,e4,e5⟩:=AkZ cj;have co:Aw prog 123 #[J_ m,J_ g] H (λv H'=>∃Q,X= .inr Q/\A_ (F_ H) H H'/\QuV (s_ B H H') H' Q v) (QuE H X):=by{
 refine Aw.of_vc func123 rfl (call123 _) (Ad underlying115 rfl _ rfl [J_ g,.nilIface,.nilIface,.pointer zV,.pointer zV,.pointer zV,.pointer zV] zX (BF [J_ g,.nilIface,.nilIface,.pointer zV,.pointer zV,.pointer zV,.pointer zV] rfl ?_));intro q H1 hq c2 b6 c3;have k0:X' B H q [J_ g,.nilIface,.nilIface,.pointer zV,.pointer zV,.pointer zV,.pointer zV] (λ_=>False) H1 .nil .nil (.pointer zV) (.pointer zV):=⟨((St.nil H).box hq c2 b6 c3).rebase.low λk d=>d.elim id False.elim,((St.nil H).box hq c2 b6 c3).old,λ_ h=>h.elim,zO,rfl,rfl⟩;clear hq c2 b6 c3;refine Ah.cut [] (λ_:Unit=>[]) (λ_ G=>∃T Q u,D5 b x= .inr Q/\X' B H q [J_ g,.nilIface,.nilIface,.pointer zV,.pointer zV,u,.pointer zV] T G Q .nil u (.pointer zV)) ?_ ?_;{
 have ai:=F.agr k0.ag (l g O);cases ak:x.isCa;{obtain rfl:x= .nil:=Wr kx ak;obtain rfl:=bx;(repeat ((conv=>whnf);first | refine E_ ?_ | refine C_ (ai.cellE rfl) zA ?_ | refine Te underlying103 ?_));exact⟨rfl,(),rfl,_,.nil,.pointer zV,rfl,k0⟩};obtain⟨pv,rfl⟩:∃pv,vx=Value.pointer (zY pv):=by{
 have:=bx;cases x<;>first | cases ak | skip
 obtain⟨g',_,_,e,-⟩:=this;exact⟨_,e⟩};repeat ((conv=>whnf);first | refine E_ ?_ | refine C_ (ai.cellE rfl) zA ?_ | refine PO underlying103 ?_)
 refine Ab.mk (da ck ak dh df B _ m _ (λk d=>k0.st.up (.inl (l k d))) (aw.agr k0.ag) hm (bf.agr k0.ag (l m hm)) (bx.up (λ_ h=>h) (k0.ag.mono l))) ?_ ?_;rotate_left
 {intro y G h;exact h.of k0.ag λe he=>by rw[<-N];exact Bj he};rintro u G ⟨Q,hQ,a2,hu⟩;have k1:=k0.grow l a2;obtain⟨pu,rfl⟩:=hu.ptr;refine E_ ?_;refine k1.set l zZ rfl λG2 I a3=>?_;(conv=>whnf);refine⟨rfl,(),rfl,_,Q,.pointer pu,hQ,I.withA (hu.up (λk d=>d.imp_right .inr) (a3.mono λk d=>d.elim (λh=>.inl (l k h)) λh=>.inr (.inr h)))⟩};rintro _ G1 dk ⟨T1,A,vA,hA,k1⟩;rw[hA]at N;replace N:l_ (D5 b y) (λC=>_)=X:=N;clear k0;refine Ah.cut [] (λ_:Unit=>[]) (λ_ G=>∃T Q u,D5 b y= .inr Q/\X' B H q [J_ g,.nilIface,.nilIface,.pointer zV,.pointer zV,vA,u] T G A Q vA u) ?_ ?_;{
 have ai:=F.agr k1.ag (l g O);cases ak:y.isCa;{obtain rfl:y= .nil:=Wr ky ak;obtain rfl:=bz;(repeat ((conv=>whnf);first | refine E_ ?_ | refine C_ (ai.cellE rfl) zA ?_ | refine Te underlying103 ?_));exact⟨rfl,(),rfl,_,.nil,.pointer zV,rfl,k1⟩};obtain⟨pv,rfl⟩:∃pv,vy=Value.pointer (zY pv):=by{
 have:=bz;cases y<;>first | cases ak | skip
 obtain⟨g',_,_,e,-⟩:=this;exact⟨_,e⟩};repeat ((conv=>whnf);first | refine E_ ?_ | refine C_ (ai.cellE rfl) zA ?_ | refine PO underlying103 ?_)
 refine Ab.mk (db cm ak di dg B _ m _ (λk d=>k1.st.up (.inl (l k d))) (aw.agr k1.ag) hm (bf.agr k1.ag (l m hm)) (bz.up (λ_ h=>h) (k1.ag.mono l))) ?_ ?_;rotate_left
 {intro y G h;exact h.of k1.ag λe he=>by rw[<-N];exact Bj he};rintro u G ⟨Q,hQ,a2,hu⟩;have k1:=k1.grow l a2;obtain⟨pu,rfl⟩:=hu.ptr;refine E_ ?_;refine k1.set l zZ rfl λG2 I a3=>?_;(conv=>whnf);refine⟨rfl,(),rfl,_,Q,.pointer pu,hQ,I.withC (hu.up (λk d=>d.imp_right .inr) (a3.mono λk d=>d.elim (λh=>.inl (l k h)) λh=>.inr (.inr h)))⟩};rintro _ G2 dl ⟨T2,C,vC,hC,I⟩;rw[hC]at N;replace N:l_ (oL p op n to A C) (λr=>_)=X:=N;clear k1;have Z:=F.agr I.ag (l g O);obtain⟨pA,rfl⟩:=I.qa.ptr;obtain⟨pC,rfl⟩:=I.qc.ptr;refine Ah.cut [] (λ_:Unit=>[]) (λ_ G=>∃oi ii,oL p op n to A C= .inr (oi,ii)/\X' B H q [J_ g,Al oi,Al ii,.pointer zV,.pointer zV,.pointer pA,.pointer pC] T2 G A C (.pointer pA) (.pointer pC)) ?_ ?_;{
 have e6:∀k,(B k\/T2 k)->k<G2.size:=λk d=>I.st.up (X'.bt l d);repeat ((conv=>whnf);first | refine Ah.run ?_ | refine E_ ?_ | refine C_ (Z.cellE rfl) zA ?_)
 cases op;(all_goals
 repeat (refine Ah.run ?_)
 (conv=>whnf);first | refine Av.tt (e0.trans rfl) ?_ | (refine Av.ff (e0.trans rfl) ?_;(repeat (refine Ah.run ?_));(conv=>whnf);first | refine Av.tt (e1.trans rfl) ?_ | (refine Av.ff (e1.trans rfl) ?_;(repeat (refine Ah.run ?_));(conv=>whnf);first | refine Av.tt (e2.trans rfl) ?_ | (refine Av.ff (e2.trans rfl) ?_;(repeat (refine Ah.run ?_));(conv=>whnf);first | refine Av.tt (e3.trans rfl) ?_ | (refine Av.ff (e3.trans rfl) ?_;(repeat (refine Ah.run ?_));(conv=>whnf);first | refine Av.tt (e4.trans rfl) ?_ | (refine Av.ff (e4.trans rfl) ?_;(repeat (refine Ah.run ?_));refine Av.tt (e5.trans rfl) ?_)))))
 repeat (refine Ah.run ?_));(case id=>obtain⟨r,rfl⟩:∃r,n=zY r:=by{cases n<;>first | exact⟨_,rfl⟩ | cases M};refine A7.of (Ap.heldZ (λk=>k=g) [] (sq [0,1,2,3,4,5,6,7,8,9,10,11] (.f 12 (sq [13,14] (.f 15 .e)))) rfl zX ?_);(repeat ((conv=>whnf);first | refine E_ ?_ | refine C_ ((Z).cellE rfl) rfl ?_));refine I.set l zZ (AV r) λG4 k4 a4=>?_;have ay:A_ (λk=>k=g) G2 G4:=A_.trans (A_.refl _ _) (a4.mono λk d=>.inl (by rw[d];exact l g O));refine⟨ay,?_⟩;refine E_ ?_;refine k4.set l zZ (AV r) λG5 K a5=>?_;refine⟨ay.trans (a5.mono λk d=>.inl (by rw[d];exact l g O)),?_⟩;(conv=>whnf);exact⟨rfl,(),rfl,r,r,rfl,K⟩);(case norm=>obtain⟨r,rfl⟩:∃r,n=zY r:=by{cases n<;>first | exact⟨_,rfl⟩ | cases M};refine A7.of (Ap.heldZ (λk=>k=g) [] (sq [0,1,2,3,4,5,6,7,8,9] (.f 10 (sq [11,12] (.f 13 (sq [14,15] (.f 16 .e)))))) rfl zX ?_);(repeat ((conv=>whnf);first | refine E_ ?_ | refine C_ ((Z).cellE rfl) rfl ?_));refine Af (V5 to b4 _) λG3 a3=>?_;have ax:A_ (λk=>k=g) G2 G3:=a3.mono λk d=>by{rw[d];exact Z.lt};refine⟨ax,?_⟩;have P:=I.call l a3;refine E_ ?_;refine P.set l zZ (AV r) λG4 k4 a4=>?_;have ay:A_ (λk=>k=g) G2 G4:=A_.trans ax (a4.mono λk d=>.inl (by rw[d];exact l g O));refine⟨ay,?_⟩;refine E_ ?_;refine k4.set l zZ (AV (AH (zI to))) λG5 K a5=>?_;refine⟨ay.trans (a5.mono λk d=>.inl (by rw[d];exact l g O)),?_⟩;(conv=>whnf);exact⟨rfl,(),rfl,r,(AH (zI to)),rfl,K⟩);(case fold=>obtain⟨r,rfl⟩:∃r,n=zY r:=by{cases n<;>first | exact⟨_,rfl⟩ | cases M};refine A7.of (Ap.heldZ (λk=>k=g) [] (sq [0,1,2,3,4,5,7,8,9,10] (.f 6 (sq [11,12] (.f 13 (sq [14,15] (.f 16 .e)))))) rfl zX ?_);(repeat ((conv=>whnf);first | refine E_ ?_ | refine C_ ((Z).cellE rfl) rfl ?_));refine Af (Ak7 r _) λG3 a3=>?_;have ax:A_ (λk=>k=g) G2 G3:=a3.mono λk d=>by{rw[d];exact Z.lt};refine⟨ax,?_⟩;have P:=I.call l a3;refine E_ ?_;refine P.set l zZ (AV (FQ r)) λG4 k4 a4=>?_;have ay:A_ (λk=>k=g) G2 G4:=A_.trans ax (a4.mono λk d=>.inl (by rw[d];exact l g O));refine⟨ay,?_⟩;refine E_ ?_;refine k4.set l zZ (AV r) λG5 K a5=>?_;refine⟨ay.trans (a5.mono λk d=>.inl (by rw[d];exact l g O)),?_⟩;(conv=>whnf);exact⟨rfl,(),rfl,(FQ r),r,rfl,K⟩);(case cat=>
 have aj:x.isCa=zW:=by simp at M;exact M.1
 have⟨gA,cp,cq,cr,ct,cu,eA,R,kA,oA,iA⟩:=Oy hA aj I.qa;cases eA;have⟨A1,az,ad⟩:=oA;have⟨A2,b7,am⟩:=iA;have⟨U1,y1,f1⟩:=AN A.o;have⟨U2,y2,f2⟩:=AN A.i;rw[f1,f2]at kA;have b8:y.isCa=zW:=by simp at M;exact M.2
 have⟨gC,dm,dp,dq,dr,dt,eC,ae,kC,oC,iC⟩:=Oy hC b8 I.qc;cases eC;have⟨C1,bh,b0⟩:=oC;have⟨C2,c4,bj⟩:=iC;have⟨U3,y3,f3⟩:=AN C.o;have⟨U4,y4,f4⟩:=AN C.i;rw[f3,f4]at kC;have E:A_ (λk=>B k\/T2 k) G2 G2:=A_.refl _ _;have D:=F.agr I.ag (l g O);have J:=kA.agr E R;have W:=kC.agr E ae;have z:∀{G9:Aa},A_ (F_ G2) G2 G9->A_ (λk=>B k\/T2 k) G2 G9:=λa=>E.trans (a.mono λk d=>I.st.up (X'.bt l d));have U:∀k,(k=q\/k=gA\/k=gC)->k<G2.size:=λk d=>by rcases d with rfl | rfl | rfl<;>first | exact I.blk.lt | exact I.st.up (X'.bt l R) | exact I.st.up (X'.bt l ae)
 refine A7.of (Ap.heldM (λk=>k=q\/k=gA\/k=gC) [17,19,20] [17] (sq [0,1,2,3,4,5,6,7,8,9,10,11,12,13] (.b 14 (sq [15,16,17] (.f 18 (.f 19 (.f 20 .e)))) 18 (.f 14 (sq [15,16,17] (.f 19 (.f 20 .e)))))) rfl zX ?_);repeat ((conv=>whnf);first | refine E_ ?_ | refine C_ ((I.blk).cellE rfl) (.inl rfl) ?_ | refine C_ ((J).cellE rfl) (.inr (.inl rfl)) ?_ | refine C_ ((W).cellE rfl) (.inr (.inr rfl)) ?_)
 constructor;refine An.mk (NA (S:=λk=>B k\/T2 k) (λk d=>I.st.up (X'.bt l d)) ((az).frame (z (A_.refl _ _))) ((bh).frame (z (A_.refl _ _))) ad.made.ok b0.made.ok) ?_;rintro _ G3 ⟨a3,t,i,j,ok,rfl,hc,L⟩;refine⟨a3.mono U,?_⟩;refine Aq _ (xN ⟨#[]⟩ 0 0) Fk rfl ?_;intro sp G4 ao b9 V ah;have z3:=Ay a3;have aX:A_ (F_ G2) G2 G4:=a3.trans (ah.mono λk d=>by have:=Ak a3 d;omega);refine⟨aX.mono U,?_⟩;rotate_left
 refine Aq _ (xN ⟨#[]⟩ 0 0) Fk rfl ?_;intro sp G4 ao b9 V ah;have a4:=ah.new ao;refine⟨a4.mono U,?_⟩;refine An.mk (NA (S:=λk=>B k\/T2 k) (λk d=>(I.call l a4).st.up (X'.bt l d)) ((az).frame (z a4)) ((bh).frame (z a4)) ad.made.ok b0.made.ok) ?_;rintro _ G3 ⟨a3,t,i,j,ok,rfl,hc,L⟩;have z3:=I_ G2.size;have aX:A_ (F_ G2) G2 G3:=a4.trans (a3.mono λk d=>Ak a4 d);refine⟨aX.mono U,?_⟩;replace V:=V.agr a3 V.lt;all_goals
 refine wG (cs:=xN t i j) rfl V (I_ _) rfl ?_;intro G5 c5 ap c6;have aq:∀k,((F_ H k\/T2 k)\/k=q)->k≠sp:=λk d=>by{have:=d.elim (λh=>I.st.up h) λh=>by{rw[h];exact I.blk.lt};omega};have K:=(I.call l aX).keep l (ap.mono aq) zO;replace E:A_ (λk=>B k\/T2 k) G2 G5:=(z aX).trans (ap.mono λk d=>aq k (.inl (X'.bt l d)));(conv=>whnf);clear ao b9 V ah a3 aX z3 ap c6 aq U z;have⟨au,Y,bp⟩:=JN.o ad b0 hc;have D:=F.agr K.ag (l g O);cases ok;rotate_left
 {(repeat (refine Ah.run ?_));refine A7.held (λk=>k=g\/k=sp) [] (sq [0,1,2,3,4,5] (.f 6 .e)) (AG _ _) rfl zX ?_;(repeat ((conv=>whnf);first | refine E_ ?_ | refine C_ ((D).cellE rfl) (.inl rfl) ?_ | refine C_ ((c5).cellE rfl) (.inr rfl) ?_));refine Ab.mk (Mv (c:=81) (p:=p) (w:=t)) (λ_ _ h=>h.elim) ?_;rintro y _ ⟨rfl,rfl⟩;refine⟨81,p,au,?_,by rw[bp],K.ag,zQ,zQ,ab,by rw[bp,Ef]at L;exact L⟩;rw[<-N];refine Bj ?_;show l_ (zS 81 p (ME A.o C.o)) _=_;rw[Y];rfl};repeat (refine Ah.run ?_)
 have D:=F.agr K.ag (l g O);have J:=kA.agr E R;have W:=kC.agr E ae;have z:∀{G9:Aa},A_ (F_ G5) G5 G9->A_ (λk=>B k\/T2 k) G2 G9:=λa=>E.trans (a.mono λk d=>K.st.up (X'.bt l d));have U:∀k,(k=q\/k=gA\/k=gC)->k<G5.size:=λk d=>by rcases d with rfl | rfl | rfl<;>first | exact K.blk.lt | exact K.st.up (X'.bt l R) | exact K.st.up (X'.bt l ae)
 refine A7.of (Ap.heldM (λk=>k=q\/k=gA\/k=gC) [17,19,20] [17] (sq [0,1,2,3,4,5,6,7,8,9,10,11,12,13] (.b 14 (sq [15,16,17] (.f 18 (.f 19 (.f 20 .e)))) 18 (.f 14 (sq [15,16,17] (.f 19 (.f 20 .e)))))) rfl zX ?_);repeat ((conv=>whnf);first | refine E_ ?_ | refine C_ ((K.blk).cellE rfl) (.inl rfl) ?_ | refine C_ ((J).cellE rfl) (.inr (.inl rfl)) ?_ | refine C_ ((W).cellE rfl) (.inr (.inr rfl)) ?_)
 constructor;refine An.mk (NA (S:=λk=>B k\/T2 k) (λk d=>K.st.up (X'.bt l d)) ((b7).frame (z (A_.refl _ _))) ((c4).frame (z (A_.refl _ _))) am.made.ok bj.made.ok) ?_;rintro _ G6 ⟨a3,t,i,j,ok,rfl,hc,L⟩;refine⟨a3.mono U,?_⟩;refine Aq _ (xN ⟨#[]⟩ 0 0) Fk rfl ?_;intro sp G7 ao b9 V ah;have z3:=Ay a3;have aX:A_ (F_ G5) G5 G7:=a3.trans (ah.mono λk d=>by have:=Ak a3 d;omega);refine⟨aX.mono U,?_⟩;rotate_left
 refine Aq _ (xN ⟨#[]⟩ 0 0) Fk rfl ?_;intro sp G7 ao b9 V ah;have a4:=ah.new ao;refine⟨a4.mono U,?_⟩;refine An.mk (NA (S:=λk=>B k\/T2 k) (λk d=>(K.call l a4).st.up (X'.bt l d)) ((b7).frame (z a4)) ((c4).frame (z a4)) am.made.ok bj.made.ok) ?_;rintro _ G6 ⟨a3,t,i,j,ok,rfl,hc,L⟩;have z3:=I_ G5.size;have aX:A_ (F_ G5) G5 G6:=a4.trans (a3.mono λk d=>Ak a4 d);refine⟨aX.mono U,?_⟩;replace V:=V.agr a3 V.lt;all_goals
 refine wG (cs:=xN t i j) rfl V (I_ _) rfl ?_;intro G8 c5 ap c6;have aq:∀k,((F_ H k\/T2 k)\/k=q)->k≠sp:=λk d=>by{have:=d.elim (λh=>K.st.up h) λh=>by{rw[h];exact K.blk.lt};omega};have k8:=(K.call l aX).keep l (ap.mono aq) zO;replace E:A_ (λk=>B k\/T2 k) G2 G8:=(z aX).trans (ap.mono λk d=>aq k (.inl (X'.bt l d)));(conv=>whnf);clear ao b9 V ah a3 aX z3 ap c6 aq U z;have⟨bn,bd,bq⟩:=JN.o am bj hc;have D:=F.agr k8.ag (l g O);cases ok;rotate_left
 {(repeat (refine Ah.run ?_));refine A7.held (λk=>k=g\/k=sp) [] (sq [0,1,2,3,4,5] (.f 6 .e)) (AG _ _) rfl zX ?_;(repeat ((conv=>whnf);first | refine E_ ?_ | refine C_ ((D).cellE rfl) (.inl rfl) ?_ | refine C_ ((c5).cellE rfl) (.inr rfl) ?_));refine Ab.mk (Mv (c:=82) (p:=p) (w:=t)) (λ_ _ h=>h.elim) ?_;rintro y _ ⟨rfl,rfl⟩;refine⟨82,p,bn,?_,by rw[bq],k8.ag,zQ,zQ,ab,by rw[bq,Ef]at L;exact L⟩;rw[<-N];refine Bj ?_;show l_ (zS 81 p (ME A.o C.o)) _=_;rw[Y];rw[bd];rfl};repeat (refine Ah.run ?_)
 have D:=F.agr k8.ag (l g O);have J:=kA.agr E R;have W:=kC.agr E ae;refine A7.of (Ap.heldM (λk=>k=q\/k=gA\/k=gC) [1,32,33,36,37,38,39] [1,32,33,37,38] (sq [0,1,2,3,4,5,6,7,8,9,10,11,12,13,14,15,16,17,18,19,20,21,22,23,24,25,26,27,28,29,30,31,32,33,34,35] (.f 36 (sq [37,38] (.f 39 .e)))) rfl zX ?_);repeat ((conv=>whnf);first | refine E_ ?_ | refine C_ ((k8.blk).cellE rfl) (.inl rfl) ?_ | refine C_ ((J).cellE rfl) (.inr (.inl rfl)) ?_ | refine C_ ((W).cellE rfl) (.inr (.inr rfl)) ?_)
 refine Ad underlying73 rfl _ rfl [.iface U1 y1,.iface U3 y3] zX ?_;repeat ((conv=>whnf);first | refine E_ ?_ | refine C_ ((k8.blk).cellE rfl) (.inl rfl) ?_ | refine C_ ((J).cellE rfl) (.inr (.inl rfl)) ?_ | refine C_ ((W).cellE rfl) (.inr (.inr rfl)) ?_)
 refine Ad underlying73 rfl _ rfl [.iface U2 y2,.iface U4 y4] zX (E_ ?_);refine k8.set l zZ rfl λG9 k9 a9=>(E_ ?_);refine k9.set l zZ rfl λG10 du e7=>?_;(conv=>whnf);refine⟨rfl,(),rfl,.cat A.o C.o,.cat A.i C.i,?_,?_⟩;{show l_ (zS 81 p (ME A.o C.o)) _=_;rw[Y];show l_ (zS 82 p (ME A.i C.i)) _=_;rw[bd];rfl};show X' B H q [_,.iface 73 (.agg #[Al A.o,Al C.o]),.iface 73 (.agg #[Al A.i,Al C.i]),_,_,_,_] _ _ _ _ _ _;rw[f1,f2,f3,f4];exact du);(case alt=>
 have aj:x.isCa=zW:=by simp at M;exact M.1
 have⟨gA,cp,cq,cr,ct,cu,eA,R,kA,oA,iA⟩:=Oy hA aj I.qa;cases eA;have⟨A1,az,ad⟩:=oA;have⟨A2,b7,am⟩:=iA;have⟨U1,y1,f1⟩:=AN A.o;have⟨U2,y2,f2⟩:=AN A.i;rw[f1,f2]at kA;have b8:y.isCa=zW:=by simp at M;exact M.2
 have⟨gC,dm,dp,dq,dr,dt,eC,ae,kC,oC,iC⟩:=Oy hC b8 I.qc;cases eC;have⟨C1,bh,b0⟩:=oC;have⟨C2,c4,bj⟩:=iC;have⟨U3,y3,f3⟩:=AN C.o;have⟨U4,y4,f4⟩:=AN C.i;rw[f3,f4]at kC;have E:A_ (λk=>B k\/T2 k) G2 G2:=A_.refl _ _;have D:=F.agr I.ag (l g O);have J:=kA.agr E R;have W:=kC.agr E ae;have z:∀{G9:Aa},A_ (F_ G2) G2 G9->A_ (λk=>B k\/T2 k) G2 G9:=λa=>E.trans (a.mono λk d=>I.st.up (X'.bt l d));have U:∀k,(k=q\/k=gA\/k=gC)->k<G2.size:=λk d=>by rcases d with rfl | rfl | rfl<;>first | exact I.blk.lt | exact I.st.up (X'.bt l R) | exact I.st.up (X'.bt l ae)
 refine A7.of (Ap.heldZ (λk=>k=q\/k=gA\/k=gC) [] (sq [0,1,2,3,4,5,6,7,8,9,10,11,12,13] (.f 14 (sq [15,16,17,18,19] .e))) rfl zX ?_);repeat ((conv=>whnf);first | refine E_ ?_ | refine C_ ((I.blk).cellE rfl) (.inl rfl) ?_ | refine C_ ((J).cellE rfl) (.inr (.inl rfl)) ?_ | refine C_ ((W).cellE rfl) (.inr (.inr rfl)) ?_)
 refine An.mk (Nc (S:=λk=>B k\/T2 k) (λk d=>I.st.up (X'.bt l d)) ((az).frame (z (A_.refl _ _))) ((bh).frame (z (A_.refl _ _))) ad.made.ok b0.made.ok) ?_;rintro _ G3 ⟨a3,au,ok,rfl,hc,L⟩;refine⟨a3.mono U,?_⟩;have Y:=UZ ad b0 hc;have P:=I.call l a3;replace E:A_ (λk=>B k\/T2 k) G2 G3:=z a3;clear z;have D:=F.agr P.ag (l g O);cases ok;rotate_left
 {(repeat ((conv=>whnf);first | refine Ah.run ?_ | refine E_ ?_ | refine C_ ((D).cellE rfl) zA ?_));refine Ab.mk (Mv (c:=85) (p:=p) (w:=bA au)) (λ_ _ h=>h.elim) ?_;rintro y _ ⟨rfl,rfl⟩;refine⟨85,p,au,?_,rfl,P.ag,zQ,zQ,ab,L⟩;rw[<-N];refine Bj ?_;show l_ (zS 85 p (JI A.o C.o)) _=_;rw[Y];rfl};repeat (refine Ah.run ?_)
 have D:=F.agr P.ag (l g O);have J:=kA.agr E R;have W:=kC.agr E ae;refine A7.of (Ap.heldM (λk=>k=q\/k=gA\/k=gC) [1,32,33,36,37,38,39] [1,32,33,37,38] (sq [0,1,2,3,4,5,6,7,8,9,10,11,12,13,14,15,16,17,18,19,20,21,22,23,24,25,26,27,28,29,30,31,32,33,34,35] (.f 36 (sq [37,38] (.f 39 .e)))) rfl zX ?_);repeat ((conv=>whnf);first | refine E_ ?_ | refine C_ ((P.blk).cellE rfl) (.inl rfl) ?_ | refine C_ ((J).cellE rfl) (.inr (.inl rfl)) ?_ | refine C_ ((W).cellE rfl) (.inr (.inr rfl)) ?_)
 refine Ad underlying70 rfl _ rfl [.iface U1 y1,.iface U3 y3] zX ?_;repeat ((conv=>whnf);first | refine E_ ?_ | refine C_ ((P.blk).cellE rfl) (.inl rfl) ?_ | refine C_ ((J).cellE rfl) (.inr (.inl rfl)) ?_ | refine C_ ((W).cellE rfl) (.inr (.inr rfl)) ?_)
 refine Ad underlying70 rfl _ rfl [.iface U2 y2,.iface U4 y4] zX (E_ ?_);refine P.set l zZ rfl λG4 k4 a4=>(E_ ?_);refine k4.set l zZ rfl λG5 K a5=>?_;(conv=>whnf);refine⟨rfl,(),rfl,.alt A.o C.o,.alt A.i C.i,?_,?_⟩;{show l_ (zS 85 p (JI A.o C.o)) _=_;rw[Y];rfl};show X' B H q [_,.iface 70 (.agg #[Al A.o,Al C.o]),.iface 70 (.agg #[Al A.i,Al C.i]),_,_,_,_] _ _ _ _ _ _;rw[f1,f2,f3,f4];exact K);(case star=>
 have aj:x.isCa=zW:=by simp at M;exact M
 have⟨gA,cp,cq,cr,ct,cu,eA,R,kA,oA,iA⟩:=Oy hA aj I.qa;cases eA;have⟨A1,az,ad⟩:=oA;have⟨A2,b7,am⟩:=iA;have⟨U1,y1,f1⟩:=AN A.o;have⟨U2,y2,f2⟩:=AN A.i;rw[f1,f2]at kA;have E:A_ (λk=>B k\/T2 k) G2 G2:=A_.refl _ _;have D:=F.agr I.ag (l g O);have J:=kA.agr E R;have z:∀{G9:Aa},A_ (F_ G2) G2 G9->A_ (λk=>B k\/T2 k) G2 G9:=λa=>E.trans (a.mono λk d=>I.st.up (X'.bt l d));repeat ((conv=>whnf);first | refine E_ ?_ | refine C_ ((I.blk).cellE rfl) zA ?_ | refine C_ ((J).cellE rfl) zA ?_)
 refine Ab.of (An.mk (Rb (S:=λk=>B k\/T2 k) (λk d=>I.st.up (X'.bt l d)) ((az).frame (z (A_.refl _ _))) ad.made.ok) ?_);rintro _ G3 ⟨a3,au,ok,rfl,hc,L⟩;have Y:=Hg.o ad hc;have P:=I.call l a3;replace E:A_ (λk=>B k\/T2 k) G2 G3:=z a3;clear z;have D:=F.agr P.ag (l g O);cases ok;rotate_left
 {(repeat ((conv=>whnf);first | refine Ah.run ?_ | refine E_ ?_ | refine C_ ((D).cellE rfl) zA ?_));refine Ab.mk (Mv (c:=83) (p:=p) (w:=bA au)) (λ_ _ h=>h.elim) ?_;rintro y _ ⟨rfl,rfl⟩;refine⟨83,p,au,?_,rfl,P.ag,zQ,zQ,ab,L⟩;rw[<-N];refine Bj ?_;show l_ (zS 83 p (iterW A.o)) _=_;rw[Y];rfl};repeat (refine Ah.run ?_)
 have D:=F.agr P.ag (l g O);have J:=kA.agr E R;have z:∀{G9:Aa},A_ (F_ G3) G3 G9->A_ (λk=>B k\/T2 k) G2 G9:=λa=>E.trans (a.mono λk d=>P.st.up (X'.bt l d));repeat ((conv=>whnf);first | refine E_ ?_ | refine C_ ((P.blk).cellE rfl) zA ?_ | refine C_ ((J).cellE rfl) zA ?_)
 refine Ab.of (An.mk (Rb (S:=λk=>B k\/T2 k) (λk d=>P.st.up (X'.bt l d)) ((b7).frame (z (A_.refl _ _))) am.made.ok) ?_);rintro _ G4 ⟨a4,bn,ok,rfl,hc,L⟩;have bd:=Hg.o am hc;have k4:=P.call l a4;replace E:A_ (λk=>B k\/T2 k) G2 G4:=z a4;clear z;have D:=F.agr k4.ag (l g O);cases ok;rotate_left
 {(repeat ((conv=>whnf);first | refine Ah.run ?_ | refine E_ ?_ | refine C_ ((D).cellE rfl) zA ?_));refine Ab.mk (Mv (c:=84) (p:=p) (w:=bA bn)) (λ_ _ h=>h.elim) ?_;rintro y _ ⟨rfl,rfl⟩;refine⟨84,p,bn,?_,rfl,k4.ag,zQ,zQ,ab,L⟩;rw[<-N];refine Bj ?_;show l_ (zS 83 p (iterW A.o)) _=_;rw[Y];show l_ (zS 84 p (iterW A.i)) _=_;rw[bd];rfl};repeat (refine Ah.run ?_)
 have D:=F.agr k4.ag (l g O);have J:=kA.agr E R;refine A7.of (Ap.heldM (λk=>k=q\/k=gA) [1,18,19,22,23,24,25] [1,18,19,23,24] (sq [0,1,2,3,4,5,6,7,8,9,10,11,12,13,14,15,16,17,18,19,20,21] (.f 22 (sq [23,24] (.f 25 .e)))) rfl zX ?_);repeat ((conv=>whnf);first | refine E_ ?_ | refine C_ ((k4.blk).cellE rfl) (.inl rfl) ?_ | refine C_ ((J).cellE rfl) (.inr rfl) ?_)
 refine Ad underlying75 rfl _ rfl [.iface U1 y1] zX ?_;repeat ((conv=>whnf);first | refine E_ ?_ | refine C_ ((k4.blk).cellE rfl) (.inl rfl) ?_ | refine C_ ((J).cellE rfl) (.inr rfl) ?_)
 refine Ad underlying75 rfl _ rfl [.iface U2 y2] zX (E_ ?_);refine k4.set l zZ rfl λG5 K a5=>(E_ ?_);refine K.set l zZ rfl λG6 k6 a6=>?_;(conv=>whnf);refine⟨rfl,(),rfl,.star A.o,.star A.i,?_,?_⟩;{show l_ (zS 83 p (iterW A.o)) _=_;rw[Y];show l_ (zS 84 p (iterW A.i)) _=_;rw[bd];rfl};show X' B H q [_,.iface 75 (.agg #[Al A.o]),.iface 75 (.agg #[Al A.i]),_,_,_,_] _ _ _ _ _ _;rw[f1,f2];exact k6)};rintro _ G3 dv ⟨oi,ii,hq,P⟩;rw[hq]at N;replace N:l_ (bld b oi p) (λ_=>_)=X:=N;have b5:=iP (to:=to) (back:=back) M (λh=>FW ck h hA) (λh=>FW cm h hC) hq;simp only at b5;have br:=F.agr P.ag (l g O);refine A7.held (λk=>k=q\/k=g) [13] (sq [0,1,2,3,4,5,6,7,8,9] (.f 10 (sq [11,12] (.f 13 .e)))) (AG _ _) rfl zX ?_;repeat ((conv=>whnf);first | refine E_ ?_ | refine C_ ((P.blk).cellE rfl) (.inl rfl) ?_ | refine C_ ((br).cellE rfl) (.inr rfl) ?_)
 refine Ab.mk (iO (p:=p) (aw.agr P.ag) ch ci (V' b5.1 hz) ab (bf.agr P.ag (l m hm))) ?_ ?_;rotate_left
 {intro y G9 h9;exact h9.of P.ag λe he=>by rw[<-N];exact Bj he};rintro v4 G4 ⟨cw,a4,c7⟩;refine⟨a4.mono λk d=>by rcases d with rfl | rfl<;>first | exact P.blk.lt | exact br.lt,?_⟩;have k4:=P.grow l a4;obtain⟨dw,rfl⟩:=c7.ptr;refine E_ ?_;refine k4.set l zZ rfl λG5 K a5=>?_;rw[cw]at N;replace N:l_ (bld b ii p) (λ_=>_)=X:=N;have be:=c7.up (B':=λk=>B k\/T2 k\/(G3.size<=k/\k<G4.size)) (λk d=>.inr (.inr d)) (a5.mono λk d=>.inr (.inr d));have bu:=F.agr K.ag (l g O);refine A7.held (λk=>k=q\/k=g) [13] (sq [0,1,2,3,4,5,6,7,8,9] (.f 10 (sq [11,12] (.f 13 .e)))) (AG _ _) rfl zX ?_;repeat ((conv=>whnf);first | refine E_ ?_ | refine C_ ((K.blk).cellE rfl) (.inl rfl) ?_ | refine C_ ((bu).cellE rfl) (.inr rfl) ?_)
 refine Ab.mk (iO (p:=p) (aw.agr K.ag) ch ci (V' b5.2 hz) ab (bf.agr K.ag (l m hm))) ?_ ?_;rotate_left
 {intro y G9 h9;exact h9.of K.ag λe he=>by rw[<-N];exact Bj he};rintro v6 G6 ⟨cx,a6,c8⟩;refine⟨a6.mono λk d=>by rcases d with rfl | rfl<;>first | exact K.blk.lt | exact bu.lt,?_⟩;have k6:=K.grow l a6;obtain⟨dx,rfl⟩:=c8.ptr;refine E_ ?_;refine k6.set l zZ rfl λG7 k7 a7=>?_;rw[cx]at N;replace N:l_ (mG p op back oi ii) (λ_=>.inr (QuM.mk (.ca p op n to back x y) oi ii A C))=X:=N;have c9:=c8.up (B':=λk=>B k\/(T2 k\/(G3.size<=k/\k<G4.size))\/(G5.size<=k/\k<G6.size)) (λk d=>.inr (.inr d)) (a7.mono λk d=>.inr (.inr d));have cy:A_ (λk=>B k\/T2 k\/(G3.size<=k/\k<G4.size)) G5 G7:=(a6.mono λk (d:B k\/T2 k\/(G3.size<=k/\k<G4.size))=>K.st.up (d.imp_left (l k))).trans (a7.mono λk d=>d.elim (λh=>.inl (l k h)) λh=>.inr (.inl h));replace be:=be.up (B':=λk=>B k\/(T2 k\/(G3.size<=k/\k<G4.size))\/(G5.size<=k/\k<G6.size)) (λk d=>d.imp_right .inl) cy;obtain⟨T7,bo⟩:∃T7,T7=λk=>(T2 k\/(G3.size<=k/\k<G4.size))\/(G5.size<=k/\k<G6.size):=⟨_,rfl⟩;rw[<-bo]at k7;replace be:AuV (λk=>B k\/T7 k) G7 (J_ dw) oi:=by rw[bo];exact be.up (λk d=>d) (A_.refl _ _)
 replace c9:AuV (λk=>B k\/T7 k) G7 (J_ dx) ii:=by rw[bo];exact c9
 clear bo P k4 K k6 a4 a5 a6 a7 c7 c8 b5;have a0:=F.agr k7.ag (l g O);have⟨A5,cz,d0⟩:=be;have⟨A6,d1,d2⟩:=c9;have cd:∀k,(B k\/T7 k)->k<G7.size:=λk d=>k7.st.up (X'.bt l d);refine Ah.cut [] (λ_:Unit=>[]) (λ_ G=>(oX op=1->Kf oi back=zW)/\A_ (F_ G7) G7 G) ?_ ?_;{
 refine A7.of (Ap.quiet (F_ G7) rfl zX ?_);repeat ((conv=>whnf);first | refine E_ ?_ | refine C_ ((a0).cellE rfl) a0.lt ?_)
 (conv=>whnf);rw[e1];cases d3:zT (oX op=1);{(conv=>whnf);intro G8 a8;(repeat (refine Ah.run ?_));(conv=>whnf);exact⟨rfl,(),rfl,λh=>absurd h (of_decide_eq_false d3),a8⟩};have ce:=of_decide_eq_true d3;repeat ((conv=>whnf);first | refine E_ ?_ | refine C_ ((k7.blk).cellE rfl) k7.blk.lt ?_ | refine C_ ((a0).cellE rfl) a0.lt ?_)
 refine Ei (v:=.bool (Kf oi back)) (λH' h'=>by{have:=GK (s:=back) (λk d=>Ak h' (cd k d)) (cz.frame (h'.mono cd)) (by unfold maxLen;omega);rw[d0.aut.acc]at this;exact this}) ?_;cases hr:Kf oi back;{(conv=>whnf);intro G8 a8;have bv:=a0.agr a8 a0.lt;(repeat ((conv=>whnf);first | refine Ah.run ?_ | refine E_ ?_ | refine C_ ((bv).cellE rfl) zA ?_));refine Ab.mk (Mv (c:=80) (p:=p) (w:=nx)) (λ_ _ h=>h.elim) ?_;rintro y _ ⟨rfl,rfl⟩;refine⟨80,p,[],?_,rfl,k7.ag.trans (a8.mono λk d=>Ak k7.ag d),zQ,zQ,ab,V_ _⟩;rw[<-N];refine Bj ?_;cases op<;>first | (cases ce;done) | (show uP (Kf oi back) 80 p=_;rw[hr];rfl)};(conv=>whnf);intro G8 a8;repeat (refine Ah.run ?_)
 (conv=>whnf);exact⟨rfl,(),rfl,λ_=>rfl,a8⟩};rintro _ G8 dy ⟨cg,a8⟩;have k8:=k7.call l a8;have bv:=F.agr k8.ag (l g O);have d4:A_ (λk=>B k\/T7 k) G7 G8:=a8.mono cd;repeat ((conv=>whnf);first | refine Ah.run ?_ | refine E_ ?_ | refine C_ ((k8.blk).cellE rfl) zA ?_)
 refine Ab.of (An.mk (Xr (S:=λk=>B k\/T7 k) (λk d=>k8.st.up (X'.bt l d)) (d1.frame d4) d2) ?_);rintro _ G9 ⟨a9,wd,ok,rfl,d5,L⟩;have k9:=k8.call l a9;have bw:=F.agr k9.ag (l g O);have d6:A_ (λk=>B k\/T7 k) G7 G9:=d4.trans (a9.mono λk d=>k8.st.up (X'.bt l d));have fin:(l_ (mG p op back oi ii) (λ_=>(.inr (QuM.mk (.ca p op n to back x y) oi ii A C):F3 ⊕ QuM))= .inr (QuM.mk (.ca p op n to back x y) oi ii A C))->∃Q,X= .inr Q/\A_ (F_ H) H G9/\QuV (s_ B H G9) G9 Q (J_ q):=λh=>by{refine⟨QuM.mk (.ca p op n to back x y) oi ii A C,by rw[<-N];exact h,k9.ag,q,_,_,_,_,_,rfl,.inr ⟨k9.qn,k9.blk.lt⟩,k9.blk,de.up (λ_ h=>.inl h) (k9.ag.mono l),rfl,?_,?_,k9.qa.up (λk d=>k9.fr d) (A_.refl _ _),k9.qc.up (λk d=>k9.fr d) (A_.refl _ _)⟩;{exact AuV.up ⟨A5,cz,d0⟩ (λk d=>k9.fr d) d6};exact AuV.up ⟨A6,d1,d2⟩ (λk d=>k9.fr d) d6};repeat ((conv=>whnf);first | refine Ah.run ?_ | refine E_ ?_ | refine C_ ((bw).cellE rfl) zA ?_)
 (conv=>whnf);rw[e2];cases d7:zT (oX op=2);{(repeat (refine Ah.run ?_));(conv=>whnf);refine fin ?_;have h2:=of_decide_eq_false d7;cases op<;>first | exact absurd rfl h2 | rfl | (show l_ (uP (Kf oi back) 80 p) _=_;rw[cg rfl];rfl)};have ce:=of_decide_eq_true d7;have d8:mG p op back oi ii=zS 90 p (M8 wd ok):=by{cases op<;>first | (cases ce;done) | (show zS 90 p (mW ii)=_;rw[d5])};cases ok;{(repeat (refine Ah.run ?_));(conv=>whnf);exact fin (by rw[d8];rfl)};repeat ((conv=>whnf);first | refine Ah.run ?_ | refine E_ ?_ | refine C_ ((bw).cellE rfl) zA ?_)
 refine Ab.mk (Mv (c:=90) (p:=p) (w:=bA wd)) (λ_ _ h=>h.elim) ?_;rintro y _ ⟨rfl,rfl⟩;exact⟨90,p,wd,by rw[<-N];exact Bj (by rw[d8];rfl),rfl,k9.ag,zQ,zQ,ab,L⟩};show Aw _ _ _ _ (λv H'=>∃Q,D5 b (.ca p op n to back x y)= .inr Q/\A_ (F_ H) H H'/\QuV (s_ B H H') H' Q v) _;rw[dj];exact co
def Vo{b:Nat}(a:1<=b)(c:b<=4096):∀t:Tm,nH b t | .ca p op n to d x y=>jT a c (Vo a c x) (Vo a c y)| .txt .. | .rx .. | .le .. | .nil=>λ_ h=>by cases h
def Xq{v:v_}:AT prog 121 #[.iface 103 v] H (.tuple #[v,.bool zW]):=by refine Am.of_vc func121 rfl (call121 _) (V4 ?_);(conv=>whnf);exact⟨rfl,A_.refl _ _⟩
abbrev Ts(q2 q3:Nat)(v:v_)(l:List v_):List Pc:=[pB 37 q2 [v],pB 24 q3 l]
def AfE{a:Nat}(k:K H):BX prog 122 #[J_ a,J_ b] .returning .returning H K:=by refine BX.mk (R:=λH'=>H'=H) (Ce (R:=λH'=>H'=H) func122 rfl ⟨⟨_,rfl⟩,rfl,rfl,rfl,rfl,rfl⟩ .ret rfl ?_) (λH' h=>by rw[h];exact k);(conv=>whnf);refine⟨rfl,?_⟩;refine L9 underlying20 ?_;(conv=>whnf)
def AfD{H0:Aa}{a c:Nat}{v:v_}(g:l.length=3)(j:D_ B H0 H (Ts a b v l++ps))(k:∀H',D_ B H0 H' (Ts a b (.pointer zV) (t_ c e w)++ps)->K H'):BX prog 122 #[J_ a,J_ b] (.panicking (pe (uW c e w))) (.panicking [{v:=uW c e w,recovered:=zW}]) H K:=by refine BX.mk (R:=λH'=>D_ B H0 H' (Ts a b (.pointer zV) (t_ c e w)++ps)) (Ce (R:=λH'=>D_ B H0 H' (Ts a b (.pointer zV) (t_ c e w)++ps)) func122 rfl ⟨⟨_,rfl⟩,rfl,rfl,rfl,rfl,rfl⟩ (.pan _) rfl ?_) k;(conv=>whnf);refine⟨rfl,?_⟩;refine Mm underlying20 (Ap.held (λ_=>False) 3 (sq [0,1] (.f 2 (.f 3 .e))) rfl zX (He underlying24 (λp h=>by cases h) (Bc j 0 rfl zZ rfl λH1 st1=>(⟨λk m=>m.elim,?_⟩))));refine AB (cs:=t_ c e w) st1 1 rfl rfl (by rw[g];exact I_ _) rfl λH3 d=>?_;(conv=>whnf);have n:As l 0 (t_ c e w)=t_ c e w:=BC g.symm;rw[n]at d;exact d
def AkM(B:Nat->Prop)(H:Aa)(R:v_)(H':Aa):F3 ⊕ QuM->Prop | .inl (c,p,w)=>R= .tuple #[.pointer zV,tY c p (bA w)]/\FtW c p w | .inr Q=>∃v,R= .tuple #[v,tY 0 0 nx]/\QuV (s_ B H H') H' Q v
theorem XV{b:Nat}(A:1<=b)(C:b<=4096){t:Tm}(W:t.wf=zW)(D:t.isCa=zW)(X:t.sz<=2000)(E:t.maxT){B:Nat->Prop}{H:Aa}{v:v_}(x:∀k,B k->k<H.size)(j:Eo prog H)(Y:Z' B H t v):
  Am prog 86 #[.iface 103 v,B_ b] H λR H'=>A_ (F_ H) H H'/\AkM B H R H' (D5 b t):=by
 refine Am.of_rest func86 rfl (call86 _) (Bn.seq (Aq (.pointer zV) [.pointer zV] rfl rfl ?_));intro T H1 F G l I;have st1:=(St.nil H).box F G l I;refine Aq (Bb 0 0) (Ae 0 0) BY rfl ?_;intro U H2 n J q K;have L:D_ (F_ H) H H2 (Ts T U (.pointer zV) (t_ 0 0 nx)):=st1.box n J q K;refine Bn.seq ?_;have Z:zT ((b:Int)<1)=zU:=j_;have d2:zT ((4096:Int)<(b:Int))=zU:=j_
 repeat ((conv=>whnf);first | rw[Z] | rw[d2] | refine AC.run ?_ | refine X4 underlying42 ?_)
 refine Bn.seq (Af Xq λH3 a3=>?_);have e:=L.call a3;refine Bn.seq ?_
 repeat (refine AC.run ?_)
 refine Bn.defer_ ⟨rfl,rfl,rfl,⟨_,rfl⟩,rfl,rfl⟩ (λvs w=>call122 _ w) (⟨rfl,?_⟩);refine Ad underlying240 rfl _ rfl [B_ b] (by kernel_rfl) (BF [B_ b] rfl ?_);intro m H4 M N f O;have a:=e.box M N f O;have b2:=(e.blk 0 rfl).lt;have b3:=(e.blk 1 rfl).lt;refine Ab.mk (Vo A C t W D X E (λk=>B k\/k=m) H4 m v (λk d=>d.elim (λh=>a.up (x k h)) λh=>by rw[h];exact f.lt) (j.agr a.old) (.inr rfl) f (Y.up (λk d=>.inl d) (a.old.mono x))) ?_ ?_
 rotate_left
 ·rintro y H5 ⟨c,p,w,hx,rfl,z,P⟩;(conv=>whnf);refine AfD rfl (a.call z) λH7 r=>(C_ ((r.blk 0 rfl).cellE rfl) zA (K_ (cs:=t_ c p (bA w)) (FZ (r.blk 1 rfl)) zA ?_));exact⟨r.old,by rw[hx];exact⟨rfl,P⟩⟩
 ·rintro u H5 ⟨Q,hQ,z,V⟩;obtain⟨pu,rfl⟩:=V.ptr;have g:=a.call z;have z5:=Ay z;have n:H.size<=T:=St.ge g 0 rfl rfl;have a0:H.size<=U:=St.ge g 1 rfl rfl;have a8:H.size<=H3.size:=Ay e.old;refine Ad underlying24 rfl _ rfl (Ae 0 0) rfl (M1 g 0 rfl (by simp) rfl λH7 r j7 n7=>(Bd (cs:=t_ 0 0 nx) r 1 rfl rfl (I_ _) rfl λH8 S j8 n8=>(AfE (C_ ((S.blk 0 rfl).cellE rfl) zA (K_ (cs:=t_ 0 0 nx) (FZ (S.blk 1 rfl)) zA (⟨S.old,?_⟩))))));rw[hQ];refine⟨_,rfl,?_⟩;have h1:QuV (λk=>B k\/(H3.size<=k/\k<H5.size)) H5 Q (.pointer pu):=V.up (λk d=>by
   rcases d with(h | h) | h
   ·exact .inl h
   ·exact .inr ⟨by omega,by have:=f.lt;omega⟩
   ·exact .inr ⟨by omega,h.2⟩) (A_.refl _ _)
  refine h1.up (λk d=>d.imp_right λh=>⟨by omega,by omega⟩) (A_.trans (j7.mono λk d=>?_) (j8.mono λk d=>?_))
  ·rcases d with h | h
   ·have:=x k h;omega
   ·omega
  ·rcases d with h | h
   ·have:=x k h;omega
   ·omega
abbrev zD(g:Nat):v_:=J_ g
def R5(a b:Nat)(h:zD a=zD b):a=b:=by cases h;rfl
structure Qy(P:w_)(kt e:x_):Prop where
 under:P.underlying kt=zY (.pointer e)
 size:∃j,P.info? e=zY j/\j.size≠0
def Er(H:Aa)(e:x_)(g:Nat):Prop:=∃l,L_ H g e l
def XU{e:x_}(f:Qy P kt e){w:y_}{a:Nat}(g:Er w.heap e a)(k:Er w.heap e b):(Op.equal kt (zD a) (zD b)).run P w= .ok (zT (a=b)) w:=by have⟨j,m,hs⟩:=f.size;have⟨la,g⟩:=g;have⟨n,k⟩:=k;have h:∀d:Nat,(Op.equalIn (d+1) kt (zD a) (zD b)).run P w= .ok (zT (a=b)) w:=λd=>by{by_cases c:a=b;{subst c;simp[Op.equalIn,run_underlying f.under,sizeOf,typeInfo,m,hs,run_sameAddr_same]};have l:(⟨a,0,zV⟩:Addr)≠⟨b,0,zV⟩:=λh=>c (by cases h;rfl);simp[Op.equalIn,run_underlying f.under,sizeOf,typeInfo,m,hs,run_sameAddr_other w l g k,c]};exact h 9999
def S4{P:w_}{kt e:x_}{a:Nat}(n:Qy P kt e){w:y_}(p:Er w.heap e a):∀(es:List MapEntry) (i:Nat),(∀x∈es,∃g,x.key=zD g/\Er w.heap e g)->
  ((Instr.findAsking kt (zD a) es i).run P w= .ok zV w/\∀x∈es,x.key≠zD a)\/∃j x,(Instr.findAsking kt (zD a) es i).run P w= .ok (zY (i+j,x.val)) w/\es[j]?=zY x/\x.key=zD a
 | [],i,_=>.inl ⟨by simp[Instr.findAsking],λ_ h=>by cases h⟩
 | x::es,i,h=>by
   have⟨g,c,q⟩:=h x zZ;have d:=XU n p q;by_cases b:a=g
   ·subst b;refine .inr ⟨0,x,?_,rfl,c⟩;rw[a_ rfl]at d;simp[Instr.findAsking,c,d]
   ·rw[b_ b]at d;have k:x.key≠zD a:=λh=>b (R5 _ _ (h.symm.trans c));rcases S4 n p es (i+1) (λy f=>h y (List.mem_cons_of_mem _ f))with⟨l,m⟩ | ⟨j,y,l,m,r⟩
    ·refine .inl ⟨by simp[Instr.findAsking,c,d,l],λy f=>?_⟩;rcases J'.1 f with rfl | f
     ·exact k
     ·exact m y f
    ·refine .inr ⟨j+1,y,?_,m,r⟩;rw[(zO:i+(j+1)=i+1+j)];simp[Instr.findAsking,c,d,l]
def Kd{e:x_}{a:Nat}(l:Qy P kt e){w:y_}(y:Er w.heap e a)(n:∀g v,m g=zY v->Er w.heap e g){es:Array MapEntry}(d:∀(i:Nat) (x:MapEntry),es[i]?=zY x->∃a,x.key=zD a/\m a=zY x.val)(z:∀a v,m a=zY v->∃(i:Nat) (x:MapEntry),es[i]?=zY x/\x.key=zD a/\x.val=v):((Instr.findKey kt (zD a) es.toList).run P w= .ok zV w/\m a=zV/\∀x∈es.toList,x.key≠zD a)\/∃j e,(Instr.findKey kt (zD a) es.toList).run P w= .ok (zY (j,e.val)) w/\es[j]?=zY e/\e.key=zD a/\m a=zY e.val:=by
 have c:∀x∈es.toList,∃g,x.key=zD g/\Er w.heap e g:=λx p=>by{have⟨i,A⟩:=xB p;have⟨b,q,e2⟩:=d i x (by simpa using A);exact⟨b,q,n b _ e2⟩};have f:(Instr.findKey kt (zD a) es.toList).run P w=(Instr.findAsking kt (zD a) es.toList 0).run P w:=by{cases B:es.toList with|nil=>simp[Instr.findKey,run_underlying l.under,Instr.findNow,Instr.findAsking]|cons x xs=>obtain⟨g,C,-⟩:=c x (by rw[B];simp);have:Instr.findNow (.pointer e) (zD a) (x::xs) 0=zV:=by{simp[Instr.findNow,C,Instr.sameNow]};simp[Instr.findKey,run_underlying l.under,this]};rw[f];rcases S4 l y es.toList 0 c with⟨h,k⟩ | ⟨j,x,h,k,t⟩;{refine .inl ⟨h,?_,k⟩;cases r:m a with|none=>rfl|some v=>obtain⟨i,x,p,D,_⟩:=z a v r;exact absurd D (k x (Y_ (by simpa using p)))};have u:es[j]?=zY x:=by simpa using k
 rw[N_]at h;refine .inr ⟨j,x,h,u,t,?_⟩;have⟨a',q,e2⟩:=d j x u;rw[R5 a a' (t.symm.trans q)];exact e2
def Fp{e:x_}(b:Qy P kt e)(w:y_)(a:Bool)(v:v_):(Instr.checkKey a 10000 kt v).run P w= .ok () w:=by
 have h:∀n,(Instr.checkKey a (n+1) kt v).run P w= .ok () w:=λn=>by simp[Instr.checkKey,run_underlying b.under]
 exact h 9999
def Er.agr{e:x_}{S:Nat->Prop}{a:Nat}{H':Aa}(h:Er H e a)(k:A_ S H H')(hs:S a):Er H' e a:=by have⟨l,h⟩:=h;exact⟨l,h.agr k hs⟩
def ST{t e:x_}{z:v_}{S:Nat->Prop}{a:Nat}(f:D4 P t kt et z)(l:Qy P kt e)(h:Ew zD H b m)(x:Er H e a)(c:∀g v,m g=zY v->Er H e g/\S g)(y:S b)(n:S a){K:v_->Prop}(k:K (.tuple #[(m a).getD z,.bool (m a).isSome])):A8 P (Instr.lookup t (.map (zY b)) (zD a) zW) S H K:=by have⟨F,p,A,G,B,C⟩:=h;refine A8.mk _ (λw q=>?_) k;have d:=(q b y).trans A;rcases Kd l (w:=w) (x.agr q n) (λg v u=>(c g v u).1.agr q (c g v u).2) B C with⟨r,e2,D⟩ | ⟨j,e,r,e2,D,E⟩;{simp[Instr.lookup,run_underlying f.under,Go.MapKept.run_getObj_map d,Fp l,r,FN f.zero,e2]};simp[Instr.lookup,run_underlying f.under,Go.MapKept.run_getObj_map d,Fp l,r,E]
def Yg(w:y_)(v:Option Addr):(Instr.keyThatStays (.pointer v) (.pointer v)).run P w= .ok (.pointer v) w:=by
 have:Instr.sameBits 10000 (.pointer v) (.pointer v)=zW:=by simp[Instr.sameBits]
 simp[Instr.keyThatStays,this]
def ZT{t e:x_}{z:v_}{a:Nat}(C:D4 P t kt et z)(p:Qy P kt e)(h:Ew zD H b m)(E:Er H e a)(q:∀g v,m g=zY v->Er H e g){v:v_}(k:gG zD H K b (put m a (zY v))):BK P (Instr.mapUpdate t (.map (zY b)) (zD a) v) H K:=by have⟨l,c,d,D,r,u⟩:=h;refine BK.mk λw F=>?_;subst F;rcases Kd p E q r u with⟨x,e2,n⟩ | ⟨j,e,x,e2,n,G⟩;{have⟨y,A,B⟩:=El (o':=.map (l.push ⟨zD a,v,c⟩) (c+1)) d;exact⟨MH w b (.map (l.push ⟨zD a,v,c⟩) (c+1)),by simp[Instr.mapUpdate,run_underlying C.under,Go.MapKept.run_getObj_map d,Fp p,x,Go.MapKept.run_setObj_map _ d],⟨rfl,rfl,rfl⟩,k _ (KT D r u n y).1 A B⟩};have⟨y,A,B⟩:=El (o':=.map (l.modify j λe=>{e with key:=zD a,val:=v}) c) d;exact⟨MH w b (.map (l.modify j λe=>{e with key:=zD a,val:=v}) c),by simp[Instr.mapUpdate,run_underlying C.under,Go.MapKept.run_getObj_map d,Fp p,x,Go.MapKept.run_setObj_map _ d,e2,n,Yg],⟨rfl,rfl,rfl⟩,k _ (Ga R5 D r u e2 n (f:=λe=>{e with key:=zD a,val:=v}) rfl rfl (λ_=>rfl) y).1 A B⟩
def LnV(B:Nat->Prop)(H:Aa):LnM->v_->Prop | .nil,v=>v= .pointer zV | .mk t s w q x y,v=>∃g vt vs vv vq vx vy,v= J_ g/\B g/\L_ H g 39 [vt,Al s,Al w,vs,vv,vq,vx,vy]/\Z' B H t vt/\t.isLe=zW/\AuV B H vs s/\AuV B H vv w/\QuV B H q vq/\LnV B H x vx/\LnV B H y vy
def LnV.up{B':Nat->Prop}{H':Aa}(a:∀k,B k->B' k)(b:A_ B H H'):∀{L:LnM} {v:v_},LnV B H L v->LnV B' H' L v | .nil,_,h=>h | .mk ..,_,⟨g,vt,vs,vv,vq,vx,vy,e,h1,h2,h3,h4,h5,h6,h7,h8,h9⟩=>⟨g,vt,vs,vv,vq,vx,vy,e,a g h1,h2.agr b h1,h3.up a b,h4,h5.up a b,h6.up a b,h7.up a b,h8.up a b,h9.up a b⟩
def LnV.ptr:∀{L:LnM} {v:v_},LnV B H L v->∃a,v= .pointer a | .nil,_,h=>⟨_,h⟩ | .mk ..,_,⟨g,vt,vs,vv,vq,vx,vy,e,_⟩=>⟨_,e⟩
def Wy{v:v_}(h:Z' B H t v)(a:t.isLe=zW):∃g p op n s q x y vq vx vy,t= .le p op n s q x y/\v= J_ g/\B g/\L_ H g 105 [B_ p,.string op.s,noV n,.string s,vq,vx,vy]/\q.isC=zW/\x.isL=zW/\y.isL=zW/\Z' B H q vq/\Z' B H x vx/\Z' B H y vy:=by
 cases t<;>first | cases a | skip
 have⟨g,vq,vx,vy,e,b,c,d⟩:=h;exact⟨g,_,_,_,_,_,_,_,vq,vx,vy,rfl,e,b,c,d⟩
def C0:LO->Nat | .copy=>0 | .key=>1 | .ins=>2 | .del=>3 | .left=>4 | .right=>5 | .default_=>6 | .keyed=>7 | .star=>8 | .alt=>9 | .cat=>10 | .swap=>11 | .chain=>12
abbrev tL(w:ByteArray)(op:LO)(l:List UInt8)(i:Nat):Prop:=(w.toList==(⟨l.toArray⟩:ByteArray).toList)=zT (C0 op=i)
structure LoT(w:ByteArray)(op:LO):Prop where
 t0:tL w op [99,111,112,121] 0
 t1:tL w op [107,101,121] 1
 t2:tL w op [105,110,115] 2
 t3:tL w op [100,101,108] 3
 t4:tL w op [108,101,102,116] 4
 t5:tL w op [114,105,103,104,116] 5
 t6:tL w op [100,101,102,97,117,108,116] 6
 t7:tL w op [107,101,121,101,100] 7
 t8:tL w op [115,116,97,114] 8
 t9:tL w op [97,108,116] 9
 t10:tL w op [99,97,116] 10
 t11:tL w op [115,119,97,112] 11
 t12:tL w op [99,104,97,105,110] 12
def HW(a:w=op.s):LoT w op:=by subst a;constructor<;>unfold tL<;>rw[CP]<;>cases op<;>decide
def fA{c:Nat}:Aw prog 88 #[B_ c,B_ p,.string w] H (λ_ _=>False) (λy H'=>y=uW c p w/\H'=H):=by refine Aw.of_vc func88 rfl (call88 _) (Ad underlying24 rfl _ rfl (t_ c p w) rfl ?_);(conv=>whnf);exact⟨rfl,rfl⟩
def AiS{c:Nat}{ok:Bool}:Aw prog 54 #[B_ c,B_ p,.string w,.bool ok] H (λ_ H'=>ok=zU/\H'=H) (λy H'=>ok=zW/\y=uW c p w/\H'=H):=by
 refine Aw.of_vc func54 rfl (call54 _) ?_;cases ok;{(repeat (refine Ah.run ?_));(conv=>whnf);exact⟨rfl,rfl⟩};repeat (refine Ah.run ?_)
 refine Ab.mk (fA (c:=c) (p:=p) (w:=w)) (λ_ _ h=>h.elim) ?_;rintro y _ ⟨rfl,rfl⟩;exact⟨rfl,rfl,rfl⟩
def Z6{m:Nat}{r:ReM}{v:v_}(a:Eo prog H)(e:1<=b)(f:b<=4096)(g:r.nodes<=2000)(j:p<=1048576)(k:L_ H m 59 [B_ b,v]):Aw prog 87 #[J_ m,Al r,B_ p] H (fQ H b r p) (QuE H (bld b r p)):=by
 refine Aw.of_vc func87 rfl (call87 _) (E_ ?_);refine C_ (k.cellE rfl) zA (Ab.of (An.mk (ZC (p:=p) a e f g) ?_));rintro R H1 ⟨a1,⟨d,rfl⟩ | ⟨d,v,rfl,l⟩⟩;{(repeat (refine Ah.run ?_));refine Ab.mk (fA (c:=40) (p:=p) (w:=nx)) (λ_ _ h=>h.elim) ?_;rintro y _ ⟨rfl,rfl⟩;exact⟨40,p,[],d,rfl,a1,zQ,zQ,j,V_ _⟩};repeat (refine Ah.run ?_)
 (conv=>whnf);exact⟨d,a1,l⟩
theorem O6{B:Nat->Prop}:∀(L:LnM) {H:Aa} {v:v_},(∀k,B k->k<H.size)->LnV B H L v->AT prog 63 #[v] H (.bool (EU L))
 | .nil,H,v,_,h=>by
   obtain rfl:=h;refine Am.of_vc func63 rfl (call63 _) ?_
   repeat ((conv=>whnf);first | refine AC.run ?_ | refine Pi underlying29 ?_)
   exact⟨rfl,A_.refl _ _⟩
 | .mk t s w q x y,H,v,hB,h=>by
   obtain⟨g,vt,vs,N,vq,vx,vy,rfl,z,f,A,l,-,-,-,u,C⟩:=h;obtain⟨gt,p,op,n,D,E,F,G,I,J,K,rfl,rfl,M,b,-⟩:=Wy A l;obtain⟨ws,c⟩:∃ws,ws=op.s:=⟨_,rfl⟩;rw[<-c]at b;have T:=HW c;have d:= @O6 B x;have m:= @O6 B y;refine Am.of_vc func63 rfl (call63 _) ?_
   repeat ((conv=>whnf);first | refine AC.run ?_ | refine Oo underlying29 ?_ | refine E_ ?_ | refine C_ (f.cellE rfl) zA ?_ | refine C_ (b.cellE rfl) zA ?_)
   by_cases a:C0 op=4
   ·refine Av.tt (T.t4.trans (a_ a)) ?_
    repeat (refine AC.run ?_)
    (conv=>whnf);exact⟨by cases op<;>first | (cases a;done) | rfl,A_.refl _ _⟩
   refine Av.ff (T.t4.trans (b_ a)) ?_
   repeat (refine AC.run ?_)
   by_cases j:C0 op=12
   ·refine Av.tt (T.t12.trans (a_ j)) ?_
    repeat ((conv=>whnf);first | refine AC.run ?_ | refine E_ ?_ | refine C_ (f.cellE rfl) zA ?_)
    refine Af (d hB u) λH1 a1=>?_;(conv=>whnf);exact⟨by cases op<;>first | (cases j;done) | rfl,a1⟩
   refine Av.ff (T.t12.trans (b_ j)) ?_
   repeat ((conv=>whnf);first | refine AC.run ?_ | refine E_ ?_ | refine C_ (f.cellE rfl) zA ?_)
   refine Af (d hB u) λH1 a1=>?_;have r:=f.agr a1 (hB g z);have e:EU (.mk (.le p op n D E F G) s w q x y)=(EU x|| EU y):=by cases op<;>first | exact absurd rfl a | exact absurd rfl j | rfl
   rw[e];cases O:EU x
   ·repeat ((conv=>whnf);first | refine E_ ?_ | refine C_ (r.cellE rfl) zA ?_)
    refine Af (m (λk a=>Ak a1 (hB k a)) (C.up (λ_ h=>h) (a1.mono hB))) λH2 a2=>?_;(conv=>whnf);exact⟨rfl,a1.trans (a2.mono λk a=>Ak a1 a)⟩
   ·(conv=>whnf);exact⟨rfl,a1⟩
theorem ID{B:Nat->Prop}:∀(L:LnM) {H:Aa} {v:v_},(∀k,B k->k<H.size)->LnV B H L v->AT prog 58 #[v] H (.bool (Cl L))
 | .nil,H,v,_,h=>by
   obtain rfl:=h;refine Am.of_vc func58 rfl (call58 _) ?_
   repeat ((conv=>whnf);first | refine AC.run ?_ | refine Pi underlying29 ?_)
   exact⟨rfl,A_.refl _ _⟩
 | .mk t s w q x y,H,v,hB,h=>by
   obtain⟨g,vt,vs,N,vq,vx,vy,rfl,z,f,A,l,-,-,-,C,u⟩:=h;obtain⟨gt,p,op,n,D,E,F,G,I,J,K,rfl,rfl,M,b,-⟩:=Wy A l;obtain⟨ws,c⟩:∃ws,ws=op.s:=⟨_,rfl⟩;rw[<-c]at b;have T:=HW c;have m:= @ID B x;have d:= @ID B y;refine Am.of_vc func58 rfl (call58 _) ?_
   repeat ((conv=>whnf);first | refine AC.run ?_ | refine Oo underlying29 ?_ | refine E_ ?_ | refine C_ (f.cellE rfl) zA ?_ | refine C_ (b.cellE rfl) zA ?_)
   by_cases a:C0 op=5
   ·refine Av.tt (T.t5.trans (a_ a)) ?_
    repeat (refine AC.run ?_)
    (conv=>whnf);exact⟨by cases op<;>first | (cases a;done) | rfl,A_.refl _ _⟩
   refine Av.ff (T.t5.trans (b_ a)) ?_
   repeat (refine AC.run ?_)
   by_cases j:C0 op=12
   ·refine Av.tt (T.t12.trans (a_ j)) ?_
    repeat ((conv=>whnf);first | refine AC.run ?_ | refine E_ ?_ | refine C_ (f.cellE rfl) zA ?_)
    refine Af (d hB u) λH1 a1=>?_;(conv=>whnf);exact⟨by cases op<;>first | (cases j;done) | rfl,a1⟩
   refine Av.ff (T.t12.trans (b_ j)) ?_
   repeat ((conv=>whnf);first | refine AC.run ?_ | refine E_ ?_ | refine C_ (f.cellE rfl) zA ?_)
   refine Af (m hB C) λH1 a1=>?_;have r:=f.agr a1 (hB g z);have e:Cl (.mk (.le p op n D E F G) s w q x y)=(Cl x|| Cl y):=by cases op<;>first | exact absurd rfl a | exact absurd rfl j | rfl
   rw[e];cases O:Cl x
   ·repeat ((conv=>whnf);first | refine E_ ?_ | refine C_ (r.cellE rfl) zA ?_)
    refine Af (d (λk a=>Ak a1 (hB k a)) (u.up (λ_ h=>h) (a1.mono hB))) λH2 a2=>?_;(conv=>whnf);exact⟨rfl,a1.trans (a2.mono λk a=>Ak a1 a)⟩
   ·(conv=>whnf);exact⟨rfl,a1⟩
theorem Rc{B:Nat->Prop}:∀(L:LnM) {H:Aa} {v:v_},(∀k,B k->k<H.size)->LnV B H L v->AT prog 59 #[v] H (.bool (GQ L))
 | .nil,H,v,_,h=>by
   obtain rfl:=h;refine Am.of_vc func59 rfl (call59 _) ?_
   repeat ((conv=>whnf);first | refine AC.run ?_ | refine Pi underlying29 ?_)
   exact⟨rfl,A_.refl _ _⟩
 | .mk t s w q x y,H,v,hB,h=>by
   obtain⟨g,vt,vs,N,vq,vx,vy,rfl,z,f,A,l,-,-,-,C,u⟩:=h;obtain⟨gt,p,op,n,D,E,F,G,I,J,K,rfl,rfl,M,b,-⟩:=Wy A l;obtain⟨ws,c⟩:∃ws,ws=op.s:=⟨_,rfl⟩;rw[<-c]at b;have T:=HW c;have m:= @Rc B x;have d:= @Rc B y;refine Am.of_vc func59 rfl (call59 _) ?_
   repeat ((conv=>whnf);first | refine AC.run ?_ | refine Oo underlying29 ?_ | refine E_ ?_ | refine C_ (f.cellE rfl) zA ?_ | refine C_ (b.cellE rfl) zA ?_)
   by_cases a:C0 op=1
   ·refine Av.tt (T.t1.trans (a_ a)) ?_
    repeat (refine AC.run ?_)
    (conv=>whnf);exact⟨by cases op<;>first | (cases a;done) | rfl,A_.refl _ _⟩
   refine Av.ff (T.t1.trans (b_ a)) ?_
   repeat (refine AC.run ?_)
   by_cases j:C0 op=12
   ·refine Av.tt (T.t12.trans (a_ j)) ?_
    repeat ((conv=>whnf);first | refine AC.run ?_ | refine E_ ?_ | refine C_ (f.cellE rfl) zA ?_)
    refine Af (d hB u) λH1 a1=>?_;(conv=>whnf);exact⟨by cases op<;>first | (cases j;done) | rfl,a1⟩
   refine Av.ff (T.t12.trans (b_ j)) ?_
   repeat ((conv=>whnf);first | refine AC.run ?_ | refine E_ ?_ | refine C_ (f.cellE rfl) zA ?_)
   refine Af (m hB C) λH1 a1=>?_;have r:=f.agr a1 (hB g z);have e:GQ (.mk (.le p op n D E F G) s w q x y)=(GQ x|| GQ y):=by cases op<;>first | exact absurd rfl a | exact absurd rfl j | rfl
   rw[e];cases O:GQ x
   ·repeat ((conv=>whnf);first | refine E_ ?_ | refine C_ (r.cellE rfl) zA ?_)
    refine Af (d (λk a=>Ak a1 (hB k a)) (u.up (λ_ h=>h) (a1.mono hB))) λH2 a2=>?_;(conv=>whnf);exact⟨rfl,a1.trans (a2.mono λk a=>Ak a1 a)⟩
   ·(conv=>whnf);exact⟨rfl,a1⟩
def bW{S:Nat->Prop}{w w':y_}{a:String}{cs:Array v_}(h:w.var? P a=zY cs)(c:A_ S w.heap w'.heap)(d:∀g,P.globalNamed a=zY g->S g):w'.var? P a=zY cs:=by unfold World.var? at*;cases b:P.globalNamed a with|none=>simp[b]at h|some g=>simp only[b,Option.bind_some]at h ⊢;rw[c g (d g b)];exact h
def Ny(B:Nat->Prop)(H:Aa):Prop:=Eo prog H/\∀g,prog.globalNamed Th=zY g->B g
def Ny.up{B':Nat->Prop}{H':Aa}(h:Ny B H)(a:∀k,B k->B' k)(b:A_ B H H'):Ny B' H':=by refine⟨λw c=>?_,λg d=>a g (h.2 g d)⟩;subst c;exact bW (w:={w with heap:=H}) (w':=w) (h.1 {w with heap:=H} rfl) b h.2
structure q_(e:Nat)(H G:Aa):Prop where
 ag:A_ (λk=>k<H.size/\k≠e) H G
 sz:H.size<=G.size
def q_.refl:q_ e H H:=⟨A_.refl _ _,I_ _⟩
def q_.trans{a b c:Aa}(h:q_ e a b)(k:q_ e b c):q_ e a c:=⟨h.ag.trans (k.ag.mono λ_ d=>⟨yQ d.1 h.sz,d.2⟩),V' h.sz k.sz⟩
def q_.old(h:A_ (F_ H) H G):q_ e H G:=⟨h.mono λ_ a=>a.1,Ay h⟩
def q_.put(h:A_ (λk=>k≠e) H G)(hs:G.size=H.size):q_ e H G:=⟨h.mono λ_ a=>a.2,zO⟩
def q_.to(h:q_ e H G)(b:∀k,B k->k<H.size)(c:¬B e):A_ B H G:=h.ag.mono λk a=>⟨b k a,λd=>c (by rw[<-d];exact a)⟩
def q_.frr(h:q_ e H G)(k:q_ e G G'){x:Nat}(a:s_ B G G' x):s_ B H G' x:=a.imp_right λy=>⟨V' h.sz y.1,y.2⟩
def LnE(e:Nat)(H:Aa){α:Type}(x:F3 ⊕ α)(y:v_)(H':Aa):Prop:=∃c p w,x= .inl (c,p,w)/\y=uW c p (bA w)/\q_ e H H'/\FtW c p w
section
variable{α β:Type}{x:F3 ⊕ α}{X:F3 ⊕ β}{y:v_}
def QuE.ln(h:QuE G x y G')(a:q_ e H G)(b:∀f,x= .inl f->X= .inl f):LnE e H X y G':=by have⟨c,p,w,d,g,j,k⟩:=h;exact⟨c,p,w,b _ d,g,a.trans (.old j),k⟩
def LnE.of(h:LnE e G x y G')(a:q_ e H G)(b:∀f,x= .inl f->X= .inl f):LnE e H X y G':=by have⟨c,p,w,d,g,j,k⟩:=h;exact⟨c,p,w,b _ d,g,a.trans j,k⟩
end
structure LnI(B:Nat->Prop)(H:Aa)(b m mb g gt p:Nat)(ws:ByteArray)(n:Option ReM)(w:ByteArray)(tl:List v_)(Q:QuM)(A C:LnM)(a1 a2 a3 a4 vQ vA vC:v_):Prop where
 hB:∀k,B k->k<H.size
 gn:¬B g
 mn:m≠g
 tB:B gt
 bg:L_ H g 39 [J_ gt,a1,a2,a3,a4,vQ,vA,vC]
 bt:L_ H gt 105 (.int .i64 (p:Int):: .string ws::noV n:: .string w::tl)
 bm:L_ H m 59 [B_ b,.map (zY mb)]
 pow:Ny B H
 qq:QuV B H Q vQ
 qa:LnV B H A vA
 qc:LnV B H C vC
def LnI.call{m:Nat}{tl:List v_}(h:LnI B H b m mb g gt p ws n w tl Q A C a1 a2 a3 a4 vQ vA vC)(a:A_ (F_ H) H G):LnI B G b m mb g gt p ws n w tl Q A C a1 a2 a3 a4 vQ vA vC:=by have c:A_ B H G:=a.mono h.hB;exact⟨λk d=>Ak a (h.hB k d),h.gn,h.mn,h.tB,h.bg.agr a h.bg.lt,h.bt.agr c h.tB,h.bm.agr a h.bm.lt,h.pow.up (λ_ h=>h) c,h.qq.up (λ_ h=>h) c,h.qa.up (λ_ h=>h) c,h.qc.up (λ_ h=>h) c⟩
def LnI.put{m:Nat}{tl:List v_}{c1 c2 c3 c4:v_}(h:LnI B H b m mb g gt p ws n w tl Q A C a1 a2 a3 a4 vQ vA vC)(f:L_ G g 39 [J_ gt,c1,c2,c3,c4,vQ,vA,vC])(a:A_ (λk=>k≠g) H G)(hs:G.size=H.size):LnI B G b m mb g gt p ws n w tl Q A C c1 c2 c3 c4 vQ vA vC:=by have c:A_ B H G:=a.mono λk d e=>h.gn (by rw[<-e];exact d);exact⟨λk d=>by rw[hs];exact h.hB k d,h.gn,h.mn,h.tB,f,h.bt.agr c h.tB,h.bm.agr a h.mn,h.pow.up (λ_ h=>h) c,h.qq.up (λ_ h=>h) c,h.qa.up (λ_ h=>h) c,h.qc.up (λ_ h=>h) c⟩
def LnR(B:Nat->Prop)(H:Aa)(g gt:Nat)(vQ vA vC:v_)(x:F3 ⊕ (ReM×ReM))(_:v_)(G:Aa):Prop:=∃s v va vb,x= .inr (s,v)/\q_ g H G/\L_ G g 39 [J_ gt,Al s,Al v,va,vb,vQ,vA,vC]/\AuV (s_ B H G) G va s/\AuV (s_ B H G) G vb v
def LnR.of{H0:Aa}{x X:F3 ⊕ (ReM×ReM)}{u:v_}(h:LnR B H g gt vQ vA vC x u G)(a:q_ g H0 H)(d:∀r,x= .inr r->X= .inr r):LnR B H0 g gt vQ vA vC X u G:=by have⟨s,v,va,vb,e,b,f,j,l⟩:=h;exact⟨s,v,va,vb,d _ e,a.trans b,f,j.up (λk c=>a.frr b c) (A_.refl _ _),l.up (λk c=>a.frr b c) (A_.refl _ _)⟩
def Ju{m:Nat}{tl:List v_}{s v:ReM}(R:1<=b)(S:b<=4096)(hs:s.nodes<=2000)(hv:v.nodes<=2000)(T:p<=1048576)(k:LnI B H b m mb g gt p ws n w tl Q A C a1 a2 a3 a4 vQ vA vC):Aw prog 53 #[J_ m,J_ g,Al s,Al v] H (LnR B H g gt vQ vA vC (typ b p s v)) (LnE g H (typ b p s v)):=by
 obtain⟨X,a⟩:∃X,typ b p s v=X:=⟨_,rfl⟩;rw[a];unfold typ at a;refine Aw.of_vc func53 rfl (call53 _) (E_ ?_);refine yO k.bg zZ (AV s) λG1 U F I=>?_;have V:=k.put (c1:=Al s) U F I;have x1:q_ g H G1:=.put F I;clear U F I;refine E_ ?_;refine yO V.bg zZ (AV v) λG2 W e2 J=>?_;have d:=V.put (c2:=Al v) W e2 J;have K:q_ g H G2:=x1.trans (.put e2 J);clear W e2 J;repeat ((conv=>whnf);first | refine E_ ?_ | refine C_ (d.bg.cellE rfl) zA ?_ | refine C_ (d.bt.cellE rfl) zA ?_)
 refine Ab.mk (Z6 d.pow.1 R S hs T d.bm) ?_ ?_;rotate_left
 {intro y G h;exact h.ln K λf L=>by rw[<-a];exact Bj L};rintro va G3 ⟨M,a3,l⟩;have Y:=d.call a3;have x3:q_ g H G3:=K.trans (.old a3);have q:=l;obtain⟨pa,rfl⟩:=l.ptr;rw[M]at a;replace a:l_ (bld b v p) (λ_=>_)=X:=a;refine E_ ?_;refine yO Y.bg zZ rfl λG4 Z x z=>?_;have j:=Y.put (c3:=J_ pa) Z x z;have N:q_ g H G4:=x3.trans (.put x z);have O:=d.bg.lt;have a0:g<G2.size:=O;have r:AuV (λk=>G2.size<=k/\k<G4.size) G4 (J_ pa) s:=q.up (λk c=>⟨c.1,by rw[z];exact c.2⟩) (x.mono λk c e=>zO);clear Z x z;repeat ((conv=>whnf);first | refine E_ ?_ | refine C_ (j.bg.cellE rfl) zA ?_ | refine C_ (j.bt.cellE rfl) zA ?_)
 refine Ab.mk (Z6 j.pow.1 R S hv T j.bm) ?_ ?_;rotate_left
 {intro y G h;exact h.ln N λf L=>by rw[<-a];exact Bj L};rintro vb G5 ⟨P,D,t⟩;have k5:=j.call D;have x5:q_ g H G5:=N.trans (.old D);have u:=t;obtain⟨pb,rfl⟩:=t.ptr;rw[P]at a;refine E_ ?_;refine yO k5.bg zZ rfl λG6 b6 E z6=>?_;have k6:=k5.put (c4:=J_ pb) b6 E z6;have x6:q_ g H G6:=x5.trans (.put E z6);(conv=>whnf);have s4:=N.sz;have s5:=Ay D;have s2:=K.sz;have s3:=j.bg.lt;refine⟨s,v,_,_,a.symm,x6,k6.bg,r.up (λk c=>.inr ⟨zO,zO⟩) ((D.mono λk c=>c.2).trans (E.mono λk c e=>zO)),u.up (λk c=>.inr ⟨zO,zO⟩) (E.mono λk c e=>zO)⟩
section
attribute [local irreducible] Bh By AJ
def YH{g:Gr}{by_:List Nat}{a:Nd}{F:List NW}{i k:Nat}(h:Dw g by_ a F i k):∀(m:Nat) (y:NW),F[m]?=zY y->y.2.length<=m:=λm=>by
 induction m using Nat.strongRecOn with
 | _ m ih=>
   intro y c;rcases h.par m y c with rfl | ⟨j,l,b,x,d,-,e,-⟩
   ·rw[h.zero]at c;cases c;exact I_ _
   ·have p:y.2.length=x.2.length+1:=by rw[e,M_];rfl
    have f:j<m:=by
     apply Classical.byContradiction;intro q;rcases tT (Nat.not_lt.1 q)with n | rfl
     ·rcases(h.up m j y x n c d).1 with r | ⟨r,-⟩<;>omega
     ·rw[d]at c;cases c;omega
    have:=ih j f x d;omega
theorem Zu{S:Nat->Prop}{H:Aa}{va vb:v_}{a b:Option AM}{ask:Bool->Bool->Bool}{f:FuncId}(hS:∀k,S k->k<H.size)(b6:AS S H va a)(bq:AS S H vb b)(de:∃ls,CB a ls)(c8:∃ls,CB b ls)(hf:∀(G:Aa) (x y:Bool),AT prog f #[.bool x,.bool y] G (.bool (ask x y))):
  Am prog 102 #[va,vb,.func (.func f) #[] #[]] H λv H'=>A_ (F_ H) H H'/\∃w ok,v= .tuple #[.string (bA w),.bool ok]/\Ev (GM ask a b) w ok/\w.length<=4294967296:=by
 have sa:=b6.steps;have sb:=bq.steps;have ew:=F1 b6;have ey:=F1 bq;have df:0<(Au b).length:=by
  have⟨ls,h⟩:=c8;exact Lv h
 have br:∀{G:Aa},A_ (F_ H) H G->AS S G va a:=λh=>b6.frame (h.mono hS);have a0:∀{G:Aa},A_ (F_ H) H G->AS S G vb b:=λh=>bq.frame (h.mono hS);have up:∀{G:Aa},A_ (F_ H) H G->∀k,S k->k<G.size:=λh k d=>Ak h (hS k d);refine Am.of_vc func102 rfl (call102 _) (An.mk (Jb hS b6) ?_);rintro _ H1 ⟨dg,-,dh⟩;obtain⟨aa,ac,rfl,st1⟩:=(St.nil H).got dg dh;refine An.mk (Jb (up st1.old) (a0 st1.old)) ?_;rintro _ H2 ⟨di,-,dj⟩;obtain⟨ba,bc,rfl,c9⟩:=st1.got di dj;refine YC c9 0 1 Cj rfl rfl df Js (by omega) (by decide) λa3 c3 H3 b7 _=>?_;obtain⟨sets,N⟩:∃sets,sets=Au a++Au b:=⟨_,rfl⟩;have cd:(Au a).length+(Au b).length=sets.length:=by rw[N,M_]
 rw[cd,<-N]at b7;rw[cd];refine An.mk (Hl (S:=F_ H3) (λk d=>d) (b7.view 0 rfl) (by omega)) ?_;rintro _ H4 ⟨dk,a4,c4,rfl,h4⟩;have ce:=b7.call dk;have bu:=reps_len sets;refine An.mk (AfK (S:=F_ H4) (λk d=>d) h4 bu) ?_;rintro _ H5 ⟨dl,ra,rc,rfl,dm⟩;have⟨ez,fb,e5,bv⟩:=ce.got dl dm;injection e5 with e51 e52 e53
 subst e51;subst e53;have Q:=KV sets;have b9:(BH sets).Pairwise (·<·):=by
  rw[XY (s:=sets) (t:=sets) λx=>Iff.rfl];exact Sf sets 256
 have a8:=Jp (os:=[a,b]) (λo ho=>by
  rcases J'.1 ho with rfl | ho
  ·exact de
  ·rw[Q_]at ho;subst ho;exact c8) (sets:=sets) (λo ho s hs=>by
  rw[N];rcases J'.1 ho with rfl | ho
  ·exact n_.2 (.inl hs)
  ·rw[Q_]at ho;subst ho;exact n_.2 (.inr hs))
 have bd:∀c,c<256->∃r∈BH sets,r<=c/\∀n,(GM ask a b).next n r=(GM ask a b).next n c:=λc hc=>by
  have⟨r,hr,dp,be⟩:=a8 c hc;refine⟨r,hr,dp,λn=>?_⟩;show [_]=[_];rw[be a (by simp),be b (by simp)]
 have cg:(Bg sets).length=(BH sets).length:=by unfold BH;rw[d_]
 have ch:sS (Bg sets)=Mn (BH sets):=rfl;have ci:(Mn (BH sets)).length=(BH sets).length:=d_ _;rw[ch,ci]at bv;rw[cg]at bu ⊢;clear cg ch a8 ci;generalize BH sets=by_ at*;have hg:FR (GM ask a b) by_ 4294967296 1:=AhS sa sb Q bu;have bw:=Xm (ask:=ask) sa sb Q;have dq:∀(k c:Nat),by_[k]?=zY c->(Mn by_)[k]?=zY (c:Int):=λk c h=>by unfold Mn;rw[I',h];rfl
 refine I5 (Ok:=Gn) (enc:=z') λmb H6 dr dt du dv=>?_;have cj:=bv.mapNewW dr dt du dv;refine Ad underlying257 rfl (z' (0,0)) Fh (r_ (0,0)) rfl (Ad underlying259 rfl (uR (0,0)) LX (wA (-1,0)) rfl ?_);have a9:put (λ_:Int×Int=>(zV:Option v_)) (0,0) (zY (uR (-1,0)))=Gg [(AP,[])] [(-1,0)]:=TA (F:=[]) (W:=[]) (n:=AP) (w:=[]) rfl λy hy=>by cases hy
 have dw:Gn (0,0):=⟨JB ⟨by decide,by decide⟩,JB ⟨by decide,by decide⟩⟩;refine GB (a:=((0:Int),(0:Int))) cj 3 SM SA dw rfl a9 λH7 ck=>(Ad underlying257 rfl (z' (0,0)) Fh (r_ (0,0)) rfl (Az Qe (r_ (0,0)) rfl rfl (by decide) (by decide) ?_));intro q8 H8 dx dy dz e0;have cm:=(ck.new (T:=qO) (n:=1) (xs:=[AP]) dx dy dz e0 (Ty.reps_one ⟨rfl,rfl⟩) rfl (by unfold maxLen;omega)).pick [2,3,4] (by decide);have O:St H H8 [pS tU8 Hb ra by_.length rc (Mn by_),yZ Gn z' mb (Gg [(AP,[])] [(-1,0)]),pS qO 257 (k_ q8) 1 1 ([((AP,[]):NW)].map (·.1))]:=cm;clear cm ck cj bv ce b7 c9 st1 a9;(conv=>whnf);refine AD.mk [10,11] (λx:Nat×List NW×List (Int×Nat)×Option Addr×Nat=>match x with | (i,F,W,oa,oc)=>[.slice oa F.length oc,B_ i])
  (λx H9=>match x with | (i,F,W,oa,oc)=>i<=F.length/\Dw (GM ask a b) by_ AP F i 0/\(∀(m:Nat) (y:NW),m<i->F[m]?=zY y->(GM ask a b).ends y.1=zU)/\Im F W/\St H H9 [pS tU8 Hb ra by_.length rc (Mn by_),yZ Gn z' mb (Gg F W),pS qO 257 oa F.length oc (F.map (·.1))]) (λx _=>4294967296-x.1) ?_ ?_
 ·(conv=>whnf);exact⟨(0,[(AP,[])],[(-1,0)],zY ⟨q8,0,zV⟩,1),rfl,V_ _,Dw.start,λm y Z=>absurd Z (dO _),SF,O⟩
 ·clear O;rintro⟨i,F,W,oa,oc⟩ H9 e3 ⟨hi,g,bx,hL,O⟩;have ab:∀(F':List NW) (i' k':Nat),Dw (GM ask a b) by_ AP F' i' k'->∀x∈F',BJ (GM ask a b) by_ AP x.1:=λF' i' k' h x hx=>TW .refl (h.ok x hx).1 (h.ok x hx).2;have bz:∀(F':List NW) (i' k':Nat),Dw (GM ask a b) by_ AP F' i' k'->F'.length<=4294967296:=λF' i' k' h=>by
   rw[<-d_ (f:=(·.1))];exact hg.card _ h.nd λn hn=>by
    obtain⟨x,hx,rfl⟩:=List.mem_map.1 hn;exact ab F' i' k' h x hx
  have bf:=bz F i 0 g;refine Av.m2 (λhz=>?_) (λhz=>?_)
  ·have⟨y,hy⟩:=Ai (l:=F) (k:=i) (by omega);have co:=ab F i 0 g y (Y_ hy);have fd:=bw y.1 co;have e4:(F.map (·.1))[i]?=zY y.1:=by rw[I',hy];rfl
   refine xM (j:=i) Qe O 2 rfl e4 rfl ?_;rintro fe fg fh eo cp ⟨-,rfl⟩;refine K_ (cs:=r_ (y.1.x,y.1.y)) cp zA (BO O (z' (0,0)) (r_ (0,0)) Fh rfl λcq H11 bh=>(AB (cs:=r_ (y.1.x,y.1.y)) bh 3 rfl rfl (I_ _) rfl λH12 D=>?_));rw[AA (show(r_ (y.1.x,y.1.y)).length=(r_ (0,0)).length from rfl)]at D;have ad:=D.blk 3 rfl;refine Ap.heldZ (F_ H12) [] (sq [0,1,2,3,5,6,7] (.f 4 (.f 8 (.f 9 .e)))) rfl (by kernel_rfl) (E_ ?_);refine C_ (ad.cellE rfl) ad.lt (E_ ?_);refine C_ (ad.cellE rfl) ad.lt (Af (BS (br D.old)) λH13 E=>?_);have ae:=D.call E;refine⟨E,?_⟩;refine Af (BS (a0 ae.old)) λH14 ah=>?_;have bj:=ae.call ah;have R:=E.trans (ah.mono λk d=>Ak E d);refine⟨R,?_⟩;refine Af (hf H14 _ _) λH15 ai=>?_;have I:=bj.call ai;refine⟨R.trans (ai.mono λk d=>Ak R d),?_⟩;have aj:(GM ask a b).ends y.1=ask (AL a y.1.x) (AL b y.1.y):=rfl;cases he:ask (AL a y.1.x) (AL b y.1.y)
   case true=>
    refine Af (AfQ (I.view 2 rfl) (I.mapW 1 rfl) hL bf (λx hx=>SP sa sb (bw x.1 (ab F i 0 g x hx))) hy) λH16 cr=>?_;have u:=I.call cr;(conv=>whnf);exact⟨u.old,y.2,zW,rfl,And.intro (λ_=>g.found bd Q hy (aj.trans he) bx) (λh=>by cases h),V' (YH g i y hy) (V' (Nat.le_of_lt (P_.1 hy).1) bf)⟩
   case false=>
    (conv=>whnf);refine AD.mk [10,57] (λx:Nat×List NW×List (Int×Nat)×Option Addr×Nat=>match x with | (k,F',W',oa,oc)=>[.slice oa F'.length oc,B_ k])
     (λx H9=>match x with | (k,F',W',oa,oc)=>k<=by_.length/\Dw (GM ask a b) by_ AP F' i k/\(∀m,m<=i->F'[m]?=F[m]?)/\Im F' W'/\St H H9 [pS tU8 Hb ra by_.length rc (Mn by_),yZ Gn z' mb (Gg F' W'),pS qO 257 oa F'.length oc (F'.map (·.1)),pB 257 cq (r_ (y.1.x,y.1.y))]) (λx _=>by_.length-x.1) ?_ ?_
    ·(conv=>whnf);exact⟨(0,F,W,oa,oc),rfl,V_ _,g,λ_ _=>rfl,hL,I⟩
    ·clear I bj ae D bh O R E ah ai ad;rintro⟨k,F9,W9,c2,c5⟩ H16 db ⟨d,A,U,P,u⟩;have ak:F9[i]?=zY y:=by rw[U i (I_ _)];exact hy
     have e6:=(P_.1 ak).1;have ep:=bz F9 i k A;refine Av.m2 (λe7=>?_) (λe7=>?_)
     ·have⟨c,hc⟩:=Ai (l:=by_) (k:=k) (by omega);have ct:=Y_ hc;have X:=Q c ct;refine AC.run (xM (j:=k) Ct u 0 rfl (dq k c hc) rfl ?_);rintro fj fk fm eu cu ⟨rfl,-⟩;refine lT cu.one ?_;have cw:BJ (GM ask a b) by_ AP ⟨0,Ao a y.1.x c,Ao b y.1.y c⟩:=co.step ct (Q_.2 rfl);have am:=SP sa sb (bw _ cw);have b8:=u.blk 3 rfl;have ao:=u;have ap:A_ (F_ H16) H16 H16:=A_.refl _ _;refine Ap.cut [15] (λp:Nat=>[J_ p]) (λp H'=>St H H' [pS tU8 Hb ra by_.length rc (Mn by_),yZ Gn z' mb (Gg F9 W9),pS qO 257 c2 F9.length c5 (F9.map (·.1)),pB 257 cq (r_ (y.1.x,y.1.y)),pB 257 p (r_ (Ao a y.1.x c,Ao b y.1.y c))]) ?_ ?_
      ·refine Ap.heldZ (F_ H16) [12] (sq [0,1,2,3,5,6,7,8] (.b 4 (.b 9 (sq [10] (.f 11 (.f 12 .e))) 11 (.f 9 (sq [10] (.f 12 .e)))) 11 (.f 4 (.f 9 (sq [10] (.f 12 .e)))))) rfl (by kernel_rfl) (E_ ?_);refine C_ (b8.cellE rfl) b8.lt (E_ ?_);refine C_ (b8.cellE rfl) b8.lt (⟨?_,?_⟩)
       ·refine Af (BW (up ao.old) (br ao.old) X) λG1 cx=>?_;have J:=ao.call cx;have B:=ap.trans (cx.mono λk d=>Ak ap d);refine⟨B,?_⟩;refine⟨?_,?_⟩
        ·refine Af (BW (up J.old) (a0 J.old) X) λG2 aq=>?_;have C:=J.call aq;have q:=B.trans (aq.mono λk d=>Ak B d);refine⟨q,?_⟩;refine Ad underlying257 rfl (z' (0,0)) Fh (r_ (Ao a y.1.x c,Ao b y.1.y c)) rfl (Aq (z' (0,0)) (r_ (0,0)) Fh rfl ?_);intro pp G3 e8 e9 ea cy;have au:=C.box e8 e9 ea cy;have aw:=q.trans (cy.mono λk d=>by have:=Ak q d;omega);refine⟨aw,?_⟩;refine AB (cs:=r_ (Ao a y.1.x c,Ao b y.1.y c)) au 4 rfl rfl (I_ _) rfl λG4 K=>?_;rw[AA (show(r_ (Ao a y.1.x c,Ao b y.1.y c)).length=(r_ (0,0)).length from rfl)]at K;(conv=>whnf);exact⟨rfl,pp,rfl,K⟩
        ·refine Aq (z' (0,0)) (r_ (0,0)) Fh rfl ?_;intro pp G2 eb ec ed cz;have C:=J.box eb ec ed cz;have q:=B.trans (cz.mono λk d=>by have:=Ak B d;omega);refine⟨q,?_⟩;refine Af (BW (up C.old) (a0 C.old) X) λG3 ay=>?_;have au:=C.call ay;have aw:=q.trans (ay.mono λk d=>Ak q d);refine⟨aw,?_⟩;refine Ad underlying257 rfl (z' (0,0)) Fh (r_ (Ao a y.1.x c,Ao b y.1.y c)) rfl (AB (cs:=r_ (Ao a y.1.x c,Ao b y.1.y c)) au 4 rfl rfl (I_ _) rfl λG4 K=>?_);rw[AA (show(r_ (Ao a y.1.x c,Ao b y.1.y c)).length=(r_ (0,0)).length from rfl)]at K;(conv=>whnf);exact⟨rfl,pp,rfl,K⟩
       ·refine Aq (z' (0,0)) (r_ (0,0)) Fh rfl ?_;intro pp G1 ee ef eg d0;have J:=ao.box ee ef eg d0;have B:=ap.trans (d0.mono λk d=>by have:=Ak ap d;omega);refine⟨B,?_⟩;refine Af (BW (up J.old) (br J.old) X) λG2 aq=>?_;have C:=J.call aq;have q:=B.trans (aq.mono λk d=>Ak B d);refine⟨q,?_⟩;refine Af (BW (up C.old) (a0 C.old) X) λG3 ay=>?_;have au:=C.call ay;have aw:=q.trans (ay.mono λk d=>Ak q d);refine⟨aw,?_⟩;refine Ad underlying257 rfl (z' (0,0)) Fh (r_ (Ao a y.1.x c,Ao b y.1.y c)) rfl (AB (cs:=r_ (Ao a y.1.x c,Ao b y.1.y c)) au 4 rfl rfl (I_ _) rfl λG4 K=>?_);rw[AA (show(r_ (Ao a y.1.x c,Ao b y.1.y c)).length=(r_ (0,0)).length from rfl)]at K;(conv=>whnf);exact⟨rfl,pp,rfl,K⟩
      ·rintro pp H18 dc L;clear ao ap;refine K_ (cs:=r_ (Ao a y.1.x c,Ao b y.1.y c)) ((L.blk 4 rfl).cells λj v hv=>by rw[N_];exact hv) zA ?_;refine FD (a:=(Ao a y.1.x c,Ao b y.1.y c)) SM SA am (L.mapW 1 rfl) zA ?_;obtain⟨t,Y⟩:∃t:Nd,t=⟨0,Ao a y.1.x c,Ao b y.1.y c⟩:=⟨_,rfl⟩;have az:(GM ask a b).next y.1 c=[t]:=by rw[Y];rfl
       have eh:Ao a y.1.x c=t.x:=by rw[Y]
       have ei:Ao b y.1.y c=t.y:=by rw[Y]
       have c6:t.s=0:=by rw[Y]
       rw[<-Y]at cw;rw[eh,ei]at L am ⊢;clear Y;by_cases Z:∃z∈F9,z.1=t
       ·have⟨z,M,d1⟩:=Z;have⟨m,d2⟩:=xB M;have⟨w,hw⟩:=Ai (l:=W9) (k:=m) (by rw[P.len];exact(P_.1 d2).1);have b0:=P.seen d2 hw;rw[d1]at b0;rw[b0];refine Aq (uR (0,0)) (wA (0,0)) LX rfl ?_;intro ej H19 d3 d4 d5 d6;have b4:=L.box d3 d4 d5 d6;refine AB (cs:=wA w) b4 5 rfl rfl (I_ _) rfl λH20 V=>?_;(conv=>whnf);rw[S_ k (by omega)];exact⟨rfl,(k+1,F9,W9,c2,c5),rfl,⟨by omega,A.add b9 ak hc az (.inl ⟨⟨z,M,d1⟩,rfl⟩),U,P,V.pick [0,1,2,3] (by decide)⟩,by simp only;omega⟩
       ·have b5:∀z∈F9,z.1≠t:=λz M e=>Z ⟨z,M,e⟩;have d7:=P.apart c6 b5;rw[Yd (z:=(t.x,t.y)) d7];have bn:=A.add (F':=F9++[(t,y.2++[c])]) b9 ak hc az (.inr ⟨b5,rfl⟩);have c7:=bz _ _ _ bn;rw[M_,g_]at c7;refine BO L (uR (0,0)) (wA (0,0)) LX rfl λej H19 b4=>(AB (cs:=wA (0,0)) b4 5 rfl rfl (I_ _) rfl λH20 V=>?_);refine K_ (cs:=r_ (t.x,t.y)) ((V.blk 4 rfl).cells λj v hv=>by rw[N_];exact hv) zA ?_;refine Ad underlying259 rfl (uR (0,0)) LX (wA ((i:Int),c)) rfl (GB (a:=(t.x,t.y)) V 1 SM SA am rfl (TA (w:=y.2++[c]) (x:=((i:Int),c)) P.len d7) λH21 bo=>?_);refine K_ (cs:=r_ (t.x,t.y)) ((bo.blk 4 rfl).cells λj v hv=>by rw[N_];exact hv) zA ?_;refine Az Qe (r_ (t.x,t.y)) rfl rfl (by decide) (by decide) ?_;intro fo H22 d8 ev d9 da;have fp:(F9.map (·.1)).length=F9.length:=d_ _;refine JP (ys:=[t]) (ds:=r_ (t.x,t.y)) (bo.skip d8 da) 2 Qe rfl (d9.cells λj v hv=>by rw[N_];exact hv) (Ty.reps_one ⟨c6,rfl⟩) rfl (by simp[r_,Value.oneCell']) (by simp only[g_,maxLen];omega) (by simp only[g_];omega) λek el H23 bp _=>?_;have e1:(F9.map (·.1)).length+[t].length=(F9++[(t,y.2++[c])]).length:=by simp
        have e2:F9.map (·.1)++[t]=(F9++[(t,y.2++[c])]).map (·.1):=by simp
        rw[e1,e2]at bp;rw[e1];(conv=>whnf);rw[S_ k (by omega)];exact⟨rfl,(k+1,F9++[(t,y.2++[c])],W9++[((i:Int),c)],ek,el),rfl,⟨by omega,bn,λm en=>by rw[List.getElem?_append_left (by omega)];exact U m en,P.add ak X c6 b5,bp.pick [0,1,2,3] (by decide)⟩,by simp only;omega⟩
     ·have:k=by_.length:=Nat.le_antisymm d (by omega);subst this;(conv=>whnf);rw[S_ i (by omega)];refine⟨rfl,(i+1,F9,W9,c2,c5),rfl,⟨e6,A.turn (I_ _),λm z Z M=>?_,P,u.pick [0,1,2] (by decide)⟩,show 4294967296-(i+1)<4294967296-i by omega⟩;rcases tT (Nat.le_of_lt_succ (show m<i+1 from Z))with Z | rfl
      ·exact bx m z Z (by rw[<-U m (Nat.le_of_lt Z)];exact M)
      ·rw[ak]at M;cases M;exact aj.trans he
  ·obtain rfl:i=F.length:=by omega
   (conv=>whnf);exact⟨O.old,[],zU,rfl,And.intro (λh=>by cases h) λ_=>⟨rfl,g.none bd λy hy=>by
    have⟨m,Z⟩:=xB hy;exact bx m y (P_.1 Z).1 Z⟩,V_ _⟩
def L2{S:Nat->Prop}{va vb:v_}{a b:Option AM}(j:∀k,S k->k<H.size)(c:AS S H va a)(d:AS S H vb b)(e:∃f,CB a f)(g:∃f,CB b f):Am prog 62 #[va,vb] H λv H'=>A_ (F_ H) H H'/\∃w ok,v= .tuple #[.string (bA w),.bool ok]/\Ev (GM qT a b) w ok/\w.length<=4294967296:=by refine Am.of_vc func62 rfl (call62 _) (An.mk (Zu j c d e g Xv) ?_);rintro _ H1 ⟨h,w,ok,rfl,l⟩;(conv=>whnf);exact⟨h,w,ok,rfl,l⟩
end
def Fd(c e:Nat)(w:ByteArray):List Lit:=[.int .i64 (c:Int),.int .i64 (e:Int),.string w.data.toList]
def KG{c:Nat}(a:c<9223372036854775808)(b:e<9223372036854775808)(d:w.size<=maxLen):prog.keyLits 3 24 (t_ c e w)=zY (Fd c e w):=by have f:prog.cellsOf 24=3:=zX;have g:prog.cellsOf 22=1:=zX;have h:prog.cellsOf 3=1:=zX;have j:prog.cellsOf 9=1:=zX;simp[Program.keyLits,underlying24,underlying22,underlying3,underlying9,f,g,h,j,t_,Fd,d,Fe (CF a),Fe (CF b)]
def Ml{c c' e':Nat}{w':ByteArray}:zT (c=c'/\e=e'/\w=w')=zW↔Fd c e w=Fd c' e' w':=by unfold Fd;rw[yL];constructor;{rintro⟨rfl,rfl,rfl⟩;rfl};intro h;simp only[ApZ.injEq,Lit.int.injEq,Lit.string.injEq,true_and,and_true]at h;exact⟨zO,zO,IQ h.2.2⟩
def KH{c c' e':Nat}{u u':ByteArray}(f:c<9223372036854775808)(g:e<9223372036854775808)(h:u.size<=maxLen)(a:c'<9223372036854775808)(b:e'<9223372036854775808)(d:u'.size<=maxLen){x y:z_}{S:Nat->Prop}{K:v_->Prop}(k:K (.bool (!zT (c=c'/\e=e'/\u=u')))):A8 prog (do eqGuard .neq 24 x y (.agg (t_ c e u).toArray) (.agg (t_ c' e' u').toArray);binOp .neq 24 (.agg (t_ c e u).toArray) (.agg (t_ c' e' u').toArray)) S H K:=qS (m:=3) (la:=Fd c e u) (lb:=Fd c' e' u') zX zQ (eqGuardType24) rfl rfl (KG f g h) (KG a b d) Ml k
def Q7{c:Nat}{w:List Nat}(h:FtW c p w):(bA w).size<=maxLen:=by have:=h.w1;rw[Ef];unfold maxLen;omega
theorem iR{b m:Nat}{G:v_}(x:1<=b)(y:b<=4096){t:Tm}(I:t.wf=zW)(z:t.isCa=zW)(J:t.sz<=2000)(A:t.maxT){B:Nat->Prop}{H:Aa}{v:v_}(C:∀k,B k->k<H.size)(l:Eo prog H)(K:Z' B H t v)(L:L_ H m 59 [B_ b,G]):
  Aw prog 52 #[J_ m,v] H (fT B H b t) (QuE H (D5 b t)):=by
 refine Aw.of_vc func52 rfl (call52 _) (E_ ?_);refine C_ (L.cellE rfl) zA (Ab.of (An.mk (XV x y I z J A C l K) ?_));rintro R H1 ⟨a1,r⟩;cases D:D5 b t with
 | inl f=>
   have⟨c,p,wd⟩:=f;rw[D]at r;obtain⟨rfl,d⟩:=r;have E:=Q7 d;have M:=d.c0;have N:=d.c1;have O:=d.p1;refine Aq (Bb 0 0) (Ae 0 0) BY rfl ?_;intro q H2 F hs g w;have j:=((St.nil H).call a1).box F hs g w;refine AB (cs:=t_ c p (bA wd)) j 0 rfl rfl (I_ _) rfl λH3 a=>?_
   repeat ((conv=>whnf);first | refine Ah.run ?_ | refine K_ (cs:=t_ c p (bA wd)) (FZ (a.blk 0 rfl)) zA ?_ | refine Ad underlying24 rfl _ rfl (Ae 0 0) rfl ?_)
   refine KH (c:=c) (e:=p) (u:=bA wd) (c':=0) (e':=0) (u':=nx) (by omega) (by omega) E (by decide) (by decide) (V_ _) ?_;rw[j_]
   repeat ((conv=>whnf);first | refine Ah.run ?_ | refine K_ (cs:=t_ c p (bA wd)) (FZ (a.blk 0 rfl)) zA ?_)
   exact⟨c,p,wd,rfl,rfl,a.old,d⟩
 | inr Q=>
   rw[D]at r;obtain⟨u,rfl,P⟩:=r;refine Aq (Bb 0 0) (Ae 0 0) BY rfl ?_;intro q H2 F hs g w;have j:=((St.nil H).call a1).box F hs g w;refine Bd (cs:=t_ 0 0 nx) j 0 rfl rfl (I_ _) rfl λH3 a S T=>?_
   repeat ((conv=>whnf);first | refine Ah.run ?_ | refine K_ (cs:=t_ 0 0 nx) (FZ (a.blk 0 rfl)) zA ?_ | refine Ad underlying24 rfl _ rfl (Ae 0 0) rfl ?_)
   refine KH (c:=0) (e:=0) (u:=nx) (c':=0) (e':=0) (u':=nx) (by decide) (by decide) (V_ _) (by decide) (by decide) (V_ _) ?_;rw[a_ ⟨rfl,rfl,rfl⟩]
   repeat (refine Ah.run ?_)
   (conv=>whnf);refine⟨Q,D,a.old,?_⟩;have U:=Ay a1;exact P.up (λk n=>n.imp_right λh=>⟨h.1,by omega⟩) ((w.mono λk n=>by
    rcases n with h | h
    ·have:=C k h;omega
    ·omega).trans (S.mono λk n=>by
    rcases n with h | h
    ·have:=C k h;omega
    ·omega))
def GR{c:Nat}{wd:List Nat}{ok:Bool}{z:F3 ⊕ Unit}(a:z=if ok then .inl (c,p,wd)else .inr ())(b:FtW c p wd):Aw prog 54 #[B_ c,B_ p,.string (bA wd),.bool ok] H (λ_ H'=>z= .inr ()/\H'=H) (LnE e H z):=by refine(AiS (c:=c) (p:=p) (w:=bA wd) (ok:=ok)).mono ?_ ?_;{rintro _ H' ⟨h,rfl⟩;exact⟨by rw[a,h];rfl,rfl⟩};rintro y H' ⟨h,rfl,rfl⟩;exact⟨c,p,wd,by rw[a,h];rfl,rfl,.refl,b⟩
def KO{c:Nat}{o:Option (List Nat)}{wd:List Nat}{ok:Bool}(h:o=M8 wd ok):zS c p o=if ok then .inl (c,p,wd)else .inr ():=by rw[h];cases ok<;>rfl
def fP{c:Nat}{x:Bool}:uP x c p=if !x then .inl (c,p,[])else .inr ():=by cases x<;>rfl
def Hu{c:Nat}(h0:0<c)(a:c<=100)(b:p<=1048576):FtW c p []:=⟨h0,a,b,V_ _⟩
def Wu{m:Nat}{tl:List v_}(P:1<=b)(R:b<=4096)(O:p<=1048576)(S:ws=op.s)(hw:w.size<=1048576)(F:C0 op<=3)(hn:C0 op≠2->n.isSome=zW)(t:∀r,n=zY r->r.nodes<=2000)(U:C0 op=2->(AH (zI w)).nodes<=2000)(k:LnI B H b m mb g gt p ws n w tl Q A C a1 a2 a3 a4 vQ vA vC):Aw prog 27 #[J_ m,J_ g] H (LnR B H g gt vQ vA vC (zR b p op n w Q A C)) (LnE g H (zR b p op n w Q A C)):=by
 have T:=HW S;have I:gt<H.size:=k.hB gt k.tB;refine Aw.of_vc func27 rfl (call27 _) ?_;repeat ((conv=>whnf);first | refine Ah.run ?_ | refine E_ ?_ | refine C_ (k.bg.cellE rfl) zA ?_ | refine C_ (k.bt.cellE rfl) zA ?_)
 by_cases hd:C0 op=3;{
 refine Av.tt (T.t3.trans (a_ hd)) ?_;obtain⟨r,rfl⟩:∃r,n=zY r:=by{have:=hn zO;cases n<;>first | exact⟨_,rfl⟩ | cases this};obtain⟨X,V⟩:∃X,zR b p op (zY r) w Q A C=X:=⟨_,rfl⟩;rw[V];have a:l_ (typ b p r .eps) (λq=>l_ (uP (Kf r w) 80 p) λ_=>.inr q)=X:=by{rw[<-V];cases op<;>first | (cases hd;done) | rfl};clear V;repeat ((conv=>whnf);first | refine Ah.run ?_ | refine E_ ?_ | refine C_ (k.bt.cellE rfl) zA ?_ | refine Ad underlying62 rfl _ rfl [] zX ?_)
 refine Ab.mk (Ju (s:=r) (v:=.eps) P R (t r rfl) zQ O k) ?_ ?_;rotate_left
 {intro y G h;exact h.of .refl λf d=>by rw[<-a];exact Bj d};rintro _ G1 ⟨s,v,va,vb,hx,W,x,Y,Z⟩;have⟨a0,a8,a9⟩:=OP hx;cases a0;rw[hx]at a;replace a:l_ (uP (Kf r w) 80 p) (λ_=>_)=X:=a;have J:=k.bt.agr (W.to k.hB k.gn) k.tB;have K:gt<G1.size:=J.lt;have L:g<G1.size:=x.lt;have⟨A1,z,D⟩:=Y;obtain⟨pa,rfl⟩:∃pa,va= J_ pa:=AuV.ptr ⟨A1,z,D⟩;have E:∀j,s_ B H G1 j->j<G1.size:=λj M=>M.elim (λh=>yQ (k.hB j h) W.sz) λh=>h.2;refine A7.held (F_ G1) [14] (sq [0,1,2,3,4,5,6,7,8,9,10,11] (.f 12 (sq [13] (.f 14 .e)))) (AG _ _) rfl zX ?_;repeat ((conv=>whnf);first | refine E_ ?_ | refine C_ (J.cellE rfl) K ?_ | refine C_ (x.cellE rfl) L ?_)
 have N:=GK (s:=w) E z (by unfold maxLen;omega);rw[D.aut.acc]at N;refine Ab.of (Af (v:=.bool (Kf r w)) N λG2 a2=>(⟨a2,?_⟩));have x2:q_ g H G2:=W.trans (.old a2);refine Ab.mk (GR (e:=g) (c:=80) (p:=p) (wd:=[]) (ok:= !Kf r w) fP (Hu zQ zQ O)) ?_ ?_;rotate_left
 {intro y G h;exact h.of x2 λf d=>by rw[<-a];exact Bj d};rintro _ G2 ⟨hz,rfl⟩;rw[hz]at a;(conv=>whnf);exact⟨r,.eps,_,vb,a.symm,x2,x.agr a2 L,AuV.up ⟨A1,z,D⟩ (λj M=>M.imp_right λh=>⟨h.1,Ak a2 h.2⟩) (a2.mono E),Z.up (λj M=>M.imp_right λh=>⟨h.1,Ak a2 h.2⟩) (a2.mono E)⟩};refine Av.ff (T.t3.trans (b_ hd)) ?_;repeat (refine Ah.run ?_)
 by_cases l:C0 op=2;{
 refine Av.tt (T.t2.trans (a_ l)) ?_;repeat ((conv=>whnf);first | refine Ah.run ?_ | refine E_ ?_ | refine C_ (k.bt.cellE rfl) zA ?_ | refine Ad underlying62 rfl _ rfl [] zX ?_)
 refine Ab.of (Af (V5 w hw _) λG1 a1=>?_);have k1:=k.call a1;refine Ab.mk (Ju (s:=.eps) (v:=AH (zI w)) P R zQ (U l) O k1) ?_ ?_;rotate_left
 {intro y G h;exact h.of (.old a1) λf d=>by rw[<-d];cases op<;>first | (cases l;done) | rfl};intro u G h;(conv=>whnf);exact h.of (.old a1) λf d=>by rw[<-d];cases op<;>first | (cases l;done) | rfl};refine Av.ff (T.t2.trans (b_ l)) ?_;obtain⟨r,rfl⟩:∃r,n=zY r:=by{have:=hn l;cases n<;>first | exact⟨_,rfl⟩ | cases this};repeat (refine Ah.run ?_)
 refine A7.held (F_ H) [10] (sq [0,1,2,3,4,5,6,7,8,9] (.f 10 .e)) (AG _ _) rfl zX ?_;repeat ((conv=>whnf);first | refine E_ ?_ | refine C_ (k.bt.cellE rfl) I ?_)
 refine Ab.mk (Ju (s:=r) (v:=r) P R (t r rfl) (t r rfl) O k) ?_ ?_;rotate_left
 {intro y G h;exact h.of .refl λf d=>by rw[<-d];cases op<;>first | (exact absurd rfl l;done) | (exact absurd rfl hd;done) | (exact absurd F zQ;done) | rfl};intro u G h;(conv=>whnf);exact h.of .refl λf d=>by rw[<-d];cases op<;>first | (exact absurd rfl l;done) | (exact absurd rfl hd;done) | (exact absurd F zQ;done) | rfl
def ET{L:LnM}{v:v_}(b:L≠ .nil)(h:LnV B H L v):∃g vt vs a vq vx vy,v= J_ g/\B g/\L_ H g 39 [vt,Al L.s,Al L.v,vs,a,vq,vx,vy]/\AuV B H vs L.s/\AuV B H a L.v:=by cases L with|nil=>exact absurd rfl b|mk t s w q x y=>obtain⟨g,vt,vs,a,vq,vx,vy,e,c,d,-,-,f,j,-⟩:=h;exact⟨g,vt,vs,a,vq,vx,vy,e,c,d,f,j⟩
def Wv{m:Nat}{tl:List v_}(h1:1<=b)(h2:b<=4096)(L:p<=1048576)(M:C0 op=7\/C0 op=8)(hA:A≠ .nil)(N:(ReM.star A.s).nodes<=2000)(O:(ReM.star A.v).nodes<=2000)(k:LnI B H b m mb g gt p ws n w tl Q A C a1 a2 a3 a4 vQ vA vC):Aw prog 29 #[J_ m,J_ g] H (LnR B H g gt vQ vA vC (zR b p op n w Q A C)) (LnE g H (zR b p op n w Q A C)):=by
 obtain⟨X,P⟩:∃X,zR b p op n w Q A C=X:=⟨_,rfl⟩;rw[P];have a:l_ (zS 83 p (iterW A.s)) (λ_=>l_ (zS 84 p (iterW A.v)) λ_=>typ b p (.star A.s) (.star A.v))=X:=by{rw[<-P];rcases M with h | h<;>cases op<;>first | (cases h;done) | rfl};clear P;obtain⟨K,q,d,j,r,t,x,rfl,R,-,-,-⟩:=ET hA k.qa;have S:∀{G a1 a2 a3 a4},LnI B G b m mb g gt p ws n w tl Q A C a1 a2 a3 a4 vQ (J_ K) vC->∃q d j r t x,L_ G K 39 [q,Al A.s,Al A.v,J_ d,J_ j,r,t,x]/\AuV B G (J_ d) A.s/\AuV B G (J_ j) A.v:=λk=>by{obtain⟨ah,q,d,j,r,t,x,e,-,kb,ks,kv⟩:=ET hA k.qa;cases e;obtain⟨p1,rfl⟩:=ks.ptr;obtain⟨p2,rfl⟩:=kv.ptr;exact⟨q,p1,p2,r,t,x,kb,ks,kv⟩};refine Aw.of_vc func29 rfl (call29 _) ?_;obtain⟨q,p1,p2,r,t,x,z,⟨A1,T,F⟩,-⟩:=S k;repeat ((conv=>whnf);first | refine Ah.run ?_ | refine E_ ?_ | refine C_ (k.bg.cellE rfl) zA ?_ | refine C_ (z.cellE rfl) zA ?_)
 refine Ab.of (An.mk (Rb k.hB T F.made.ok) ?_);rintro _ G1 ⟨e1,U,V,rfl,hc,W⟩;have Y:=Hg.o F hc;have E:=k.call e1;have x1:q_ g H G1:=.old e1;repeat ((conv=>whnf);first | refine Ah.run ?_ | refine E_ ?_ | refine C_ (E.bg.cellE rfl) zA ?_ | refine C_ (E.bt.cellE rfl) zA ?_)
 refine Ab.mk (GR (e:=g) (c:=83) (p:=p) (wd:=U) (ok:=V) (KO Y) ⟨zQ,zQ,L,W⟩) ?_ ?_;rotate_left
 {intro y G h;exact h.of x1 λf D=>by rw[<-a];exact Bj D};rintro _ G1 ⟨Z,rfl⟩;rw[Z]at a;replace a:l_ (zS 84 p (iterW A.v)) (λ_=>_)=X:=a;obtain⟨q,p1,p2,r,t,x,z,-,⟨A2,a0,I⟩⟩:=S E;repeat ((conv=>whnf);first | refine Ah.run ?_ | refine E_ ?_ | refine C_ (E.bg.cellE rfl) zA ?_ | refine C_ (z.cellE rfl) zA ?_)
 refine Ab.of (An.mk (Rb E.hB a0 I.made.ok) ?_);rintro _ G2 ⟨e2,a8,a9,rfl,ab,J⟩;have ad:=Hg.o I ab;have l:=E.call e2;have x2:q_ g H G2:=x1.trans (.old e2);repeat ((conv=>whnf);first | refine Ah.run ?_ | refine E_ ?_ | refine C_ (l.bg.cellE rfl) zA ?_ | refine C_ (l.bt.cellE rfl) zA ?_)
 refine Ab.mk (GR (e:=g) (c:=84) (p:=p) (wd:=a8) (ok:=a9) (KO ad) ⟨zQ,zQ,L,J⟩) ?_ ?_;rotate_left
 {intro y G h;exact h.of x2 λf D=>by rw[<-a];exact Bj D};rintro _ G2 ⟨ae,rfl⟩;rw[ae]at a;replace a:typ b p (.star A.s) (.star A.v)=X:=a;obtain⟨q,p1,p2,r,t,x,z,-⟩:=S l;have lA:K<G2.size:=l.hB K R;have lg:g<G2.size:=l.bg.lt;have⟨U1,y1,f1⟩:=AN A.s;have⟨U2,y2,f2⟩:=AN A.v;rw[f1,f2]at z;repeat (refine Ah.run ?_)
 refine A7.held (F_ G2) [20] (sq [0,1,2,3,4,5,6,7,8,9,10,11,12,13,14,15,16,17,18,19] (.f 20 .e)) (AG _ _) rfl zX ?_;repeat ((conv=>whnf);first | refine E_ ?_ | refine C_ (l.bg.cellE rfl) lg ?_ | refine C_ (z.cellE rfl) lA ?_)
 refine Ad underlying75 rfl _ rfl [.iface U1 y1] zX ?_;repeat ((conv=>whnf);first | refine E_ ?_ | refine C_ (l.bg.cellE rfl) lg ?_ | refine C_ (z.cellE rfl) lA ?_)
 refine Ad underlying75 rfl _ rfl [.iface U2 y2] zX ?_;(conv=>whnf);have q1:Value.iface 75 (.agg #[.iface U1 y1])=Al (.star A.s):=by rw[<-f1];rfl
 have q2:Value.iface 75 (.agg #[.iface U2 y2])=Al (.star A.v):=by rw[<-f2];rfl
 have tc:=Ju (s:=.star A.s) (v:=.star A.v) h1 h2 N O L l;rw[<-q1,<-q2]at tc;refine Ab.mk tc ?_ ?_;rotate_left
 {intro y G h;exact h.of x2 λf D=>by rw[<-a];exact D};intro u G h;(conv=>whnf);exact h.of x2 λf D=>by rw[<-a];exact D
def Di{L:LnM}(k:L≠ .nil)(h:LnV B H L (J_ g)):B g/\∃a p1 p2 b c d,L_ H g 39 [a,Al L.s,Al L.v,J_ p1,J_ p2,b,c,d]/\AuV B H (J_ p1) L.s/\AuV B H (J_ p2) L.v:=by have⟨q,a,l,m,b,c,d,e,n,p,f,j⟩:=ET k h;cases e;obtain⟨p1,rfl⟩:=f.ptr;obtain⟨p2,rfl⟩:=j.ptr;exact⟨n,a,p1,p2,b,c,d,p,f,j⟩
def Z8{m:Nat}{tl:List v_}(h1:1<=b)(h2:b<=4096)(hp:p<=1048576)(ad:ws=op.s)(M:C0 op=9)(hA:A≠ .nil)(hC:C≠ .nil)(ae:(ReM.alt A.s C.s).nodes<=2000)(ah:(ReM.alt A.v C.v).nodes<=2000)(k:LnI B H b m mb g gt p ws n w tl Q A C a1 a2 a3 a4 vQ vA vC):Aw prog 28 #[J_ m,J_ g] H (LnR B H g gt vQ vA vC (zR b p op n w Q A C)) (LnE g H (zR b p op n w Q A C)):=by
 have T:=HW ad;obtain⟨X,hX⟩:∃X,zR b p op n w Q A C=X:=⟨_,rfl⟩;rw[hX];have d:l_ (zS 85 p (JI A.s C.s)) (λ_=>l_ (if Cl A|| Cl C|| GQ A|| GQ C then zS 86 p (JI A.v C.v)else .inr ()) λ_=>typ b p (.alt A.s C.s) (.alt A.v C.v))=X:=by{rw[<-hX];cases op<;>first | (cases M;done) | rfl};clear hX;obtain⟨t,-,-,-,-,-,-,rfl,-⟩:=ET hA k.qa;obtain⟨x,-,-,-,-,-,-,rfl,-⟩:=ET hC k.qc;refine Aw.of_vc func28 rfl (call28 _) ?_;have lg:g<H.size:=k.bg.lt;repeat (refine Ah.run ?_)
 refine A7.held (F_ H) [] (sq [0,1,2,3,4,5,6,7,8,9,10,11,12,13,14] .e) (AG _ _) rfl zX ?_;repeat ((conv=>whnf);first | refine Ah.run ?_ | refine E_ ?_ | refine C_ (k.bg.cellE rfl) lg ?_)
 repeat ((conv=>whnf);first | refine Ah.run ?_ | refine E_ ?_ | refine C_ (k.bt.cellE rfl) zA ?_)
 refine Av.tt (T.t9.trans (a_ M)) ?_;obtain⟨z,wt,p1,p2,wq,wx,wy,D,⟨A1,ai,N⟩,-⟩:=Di hA k.qa;obtain⟨E,O,P,R,S,U,V,F,⟨C1,aj,W⟩,-⟩:=Di hC k.qc;have Y:t<H.size:=k.hB t z;have Z:x<H.size:=k.hB x E;repeat (refine Ah.run ?_)
 refine A7.held (F_ H) [] (sq [0,1,2,3,4,5,6,7] (.f 8 (sq [9,10,11,12,13] .e))) (AG _ _) rfl zX ?_;repeat ((conv=>whnf);first | refine E_ ?_ | refine C_ (D.cellE rfl) Y ?_ | refine C_ (F.cellE rfl) Z ?_)
 refine Ab.of (An.mk (Nc k.hB ai aj N.made.ok W.made.ok) ?_);rintro _ G1 ⟨e1,ak,am,rfl,hc,ao⟩;refine⟨e1,?_⟩;have ap:=UZ N W hc;have k1:=k.call e1;have x1:q_ g H G1:=.old e1;repeat ((conv=>whnf);first | refine Ah.run ?_ | refine E_ ?_ | refine C_ (k1.bt.cellE rfl) zA ?_)
 refine Ab.mk (GR (e:=g) (c:=85) (p:=p) (wd:=ak) (ok:=am) (KO ap) ⟨zQ,zQ,hp,ao⟩) ?_ ?_;rotate_left
 {intro y G h;exact h.of x1 λf I=>by rw[<-d];exact Bj I};rintro _ G1 ⟨aq,rfl⟩;rw[aq]at d;replace d:l_ (if Cl A|| Cl C|| GQ A|| GQ C then zS 86 p (JI A.v C.v)else .inr ()) (λ_=>_)=X:=d;refine Ah.cut [] (λ_:Unit=>[]) (λ_ G=>(if Cl A|| Cl C|| GQ A|| GQ C then zS 86 p (JI A.v C.v)else .inr ())= .inr ()/\A_ (F_ G1) G1 G) ?_ ?_;{
 (conv=>whnf);refine Ab.of (Af (ID A k1.hB k1.qa) λG2 e2=>?_);have a:=k1.call e2;cases l:Cl A;(conv=>whnf);refine Ab.of (Af (ID C a.hB a.qc) λG3 q=>?_);replace a:=a.call q;replace e2:A_ (F_ G1) G1 G3:=e2.trans (q.mono λj r=>Ak e2 r);clear q;cases J:Cl C;(conv=>whnf);refine Ab.of (Af (Rc A a.hB a.qa) λG4 q=>?_);replace a:=a.call q;replace e2:A_ (F_ G1) G1 G4:=e2.trans (q.mono λj r=>Ak e2 r);clear q;cases a0:GQ A;(conv=>whnf);refine Ab.of (Af (Rc C a.hB a.qc) λG5 q=>?_);replace a:=a.call q;replace e2:A_ (F_ G1) G1 G5:=e2.trans (q.mono λj r=>Ak e2 r);clear q;cases au:GQ C;{(conv=>whnf);exact⟨rfl,(),rfl,rfl,e2⟩};all_goals
 have K:(Cl A|| Cl C|| GQ A|| GQ C)=zW:=by first | (rw[l];rfl) | (rw[l,J];rfl) | (rw[l,J,a0];rfl) | (rw[l,J,a0,au];rfl)
 clear l;obtain⟨-,wt,p1,p2,wq,wx,wy,D,-,⟨A2,aw,a8⟩⟩:=Di hA a.qa;obtain⟨-,O,P,R,S,U,V,F,-,⟨C2,ay,a9⟩⟩:=Di hC a.qc;have Y:t<_:=a.hB t z;have Z:x<_:=a.hB x E;refine A7.held (λj=>j=t\/j=x) [] (sq [0,1,2,3,4,5,6,7] (.f 8 (sq [9,10,11,12,13] .e))) (AG _ _) rfl zX ?_;repeat ((conv=>whnf);first | refine E_ ?_ | refine C_ (D.cellE rfl) (.inl rfl) ?_ | refine C_ (F.cellE rfl) (.inr rfl) ?_)
 refine Ab.of (An.mk (Nc a.hB aw ay a8.made.ok a9.made.ok) ?_);rintro _ G6 ⟨e6,az,b0,rfl,b4,ab⟩;refine⟨e6.mono λj r=>by rcases r with rfl | rfl<;>assumption,?_⟩;have b5:=UZ a8 a9 b4;have k6:=a.call e6;have e7:A_ (F_ G1) G1 G6:=e2.trans (e6.mono λj r=>Ak e2 r);repeat ((conv=>whnf);first | refine Ah.run ?_ | refine E_ ?_ | refine C_ (k6.bt.cellE rfl) zA ?_)
 refine Ab.mk (GR (e:=g) (c:=86) (p:=p) (wd:=az) (ok:=b0) (KO b5) ⟨zQ,zQ,hp,ab⟩) ?_ ?_;rotate_left
 {intro y G h;exact h.of (x1.trans (.old e7)) λf I=>by rw[<-d,H_ K];exact Bj I};rintro _ G7 ⟨L,rfl⟩;(conv=>whnf);exact⟨rfl,(),rfl,(H_ rfl).trans L,e7⟩};rintro _ G2 b6 ⟨L,e2⟩;rw[L]at d;replace d:typ b p (.alt A.s C.s) (.alt A.v C.v)=X:=d;have a:=k1.call e2;have x2:q_ g H G2:=x1.trans (.old e2);obtain⟨-,wt,p1,p2,wq,wx,wy,D,-⟩:=Di hA a.qa;obtain⟨-,O,P,R,S,U,V,F,-⟩:=Di hC a.qc;have Y:t<G2.size:=a.hB t z;have Z:x<G2.size:=a.hB x E;have⟨U1,y1,f1⟩:=AN A.s;have⟨U2,y2,f2⟩:=AN A.v;have⟨U3,y3,f3⟩:=AN C.s;have⟨U4,y4,f4⟩:=AN C.v;rw[f1,f2]at D;rw[f3,f4]at F;repeat (refine Ah.run ?_)
 refine A7.held (F_ G2) [22] (sq [0,1,2,3,4,5,6,7,8,9,10,11,12,13,14,15,16,17,18,19,20,21] (.f 22 .e)) (AG _ _) rfl zX ?_;repeat ((conv=>whnf);first | refine E_ ?_ | refine C_ (D.cellE rfl) Y ?_ | refine C_ (F.cellE rfl) Z ?_)
 refine Ad underlying70 rfl _ rfl [.iface U1 y1,.iface U3 y3] zX ?_;repeat ((conv=>whnf);first | refine E_ ?_ | refine C_ (D.cellE rfl) Y ?_ | refine C_ (F.cellE rfl) Z ?_)
 refine Ad underlying70 rfl _ rfl [.iface U2 y2,.iface U4 y4] zX ?_;(conv=>whnf);have q1:Value.iface 70 (.agg #[.iface U1 y1,.iface U3 y3])=Al (.alt A.s C.s):=by rw[<-f1,<-f3];rfl
 have q2:Value.iface 70 (.agg #[.iface U2 y2,.iface U4 y4])=Al (.alt A.v C.v):=by rw[<-f2,<-f4];rfl
 have tc:=Ju (s:=.alt A.s C.s) (v:=.alt A.v C.v) h1 h2 ae ah hp a;rw[<-q1,<-q2]at tc;refine Ab.mk tc ?_ ?_;rotate_left
 {intro y G h;exact h.of x2 λf I=>by rw[<-d];exact I};intro u G h;(conv=>whnf);exact h.of x2 λf I=>by rw[<-d];exact I
def Z9{m:Nat}{tl:List v_}(h1:1<=b)(h2:b<=4096)(hp:p<=1048576)(be:ws=op.s)(bf:C0 op=10\/C0 op=11)(Z:A≠ .nil)(hC:C≠ .nil)(bh:(ReM.cat A.s C.s).nodes<=2000)(a0:(ReM.cat A.v C.v).nodes<=2000)(k:LnI B H b m mb g gt p ws n w tl Q A C a1 a2 a3 a4 vQ vA vC):Aw prog 28 #[J_ m,J_ g] H (LnR B H g gt vQ vA vC (zR b p op n w Q A C)) (LnE g H (zR b p op n w Q A C)):=by
 have T:=HW be;obtain⟨X,hX⟩:∃X,zR b p op n w Q A C=X:=⟨_,rfl⟩;rw[hX];obtain⟨V1,V2,hV,a⟩:∃V1 V2,((C0 op=11/\V1=C.v/\V2=A.v)\/(C0 op≠11/\V1=A.v/\V2=C.v))/\l_ (zS 81 p (ME A.s C.s)) (λ_=>l_ (zS 82 p (ME V1 V2)) λ_=>typ b p (.cat A.s C.s) (.cat V1 V2))=X:=by{rcases bf with h | h;{exact⟨A.v,C.v,.inr ⟨zO,rfl,rfl⟩,by rw[<-hX];cases op<;>first | (cases h;done) | rfl⟩};exact⟨C.v,A.v,.inl ⟨h,rfl,rfl⟩,by rw[<-hX];cases op<;>first | (cases h;done) | rfl⟩};clear hX;obtain⟨gA,-,-,-,-,-,-,rfl,-⟩:=ET Z k.qa;obtain⟨gC,-,-,-,-,-,-,rfl,-⟩:=ET hC k.qc;refine Aw.of_vc func28 rfl (call28 _) ?_;have lg:g<H.size:=k.bg.lt;repeat (refine Ah.run ?_)
 refine A7.held (F_ H) [] (sq [0,1,2,3,4,5,6,7,8,9,10,11,12,13,14] .e) (AG _ _) rfl zX ?_;repeat ((conv=>whnf);first | refine Ah.run ?_ | refine E_ ?_ | refine C_ (k.bg.cellE rfl) lg ?_)
 repeat ((conv=>whnf);first | refine Ah.run ?_ | refine E_ ?_ | refine C_ (k.bt.cellE rfl) zA ?_)
 refine Av.ff (T.t9.trans (j_)) ?_;obtain⟨bj,wt,p1,p2,wq,wx,wy,S,⟨A1,a8,F⟩,-⟩:=Di Z k.qa;obtain⟨bn,a9,ab,ad,ae,ah,ai,U,⟨C1,aj,I⟩,-⟩:=Di hC k.qc;have lA:gA<H.size:=k.hB gA bj;have lC:gC<H.size:=k.hB gC bn;repeat (refine Ah.run ?_)
 refine A7.of (Ap.heldM (F_ H) [11,13,14] [11] (sq [0,1,2,3,4,5,6,7] (.b 8 (sq [9,10,11] (.f 12 (.f 13 (.f 14 .e)))) 12 (.f 8 (sq [9,10,11] (.f 13 (.f 14 .e)))))) rfl zX ?_);repeat ((conv=>whnf);first | refine E_ ?_ | refine C_ (S.cellE rfl) lA ?_ | refine C_ (U.cellE rfl) lC ?_)
 constructor;refine An.mk (NA k.hB a8 aj F.made.ok I.made.ok) ?_;rintro _ G1 ⟨l,t1,i1,j1,ak,rfl,hc,r⟩;refine⟨l,?_⟩;refine Aq _ (xN ⟨#[]⟩ 0 0) Fk rfl ?_;intro V G2 hq hs W ha;have e2:A_ (F_ H) H G2:=l.trans (ha.mono λj d=>by have:=Ak l d;omega);refine⟨e2,?_⟩;have bo:H.size<=V:=by have:=Ay l;omega
 refine wG (cs:=xN t1 i1 j1) rfl W (I_ _) rfl ?_;intro G3 t q J;have Y:A_ (F_ H) H G3:=e2.trans (q.mono λj d=>by unfold F_ at d;omega);(conv=>whnf);clear hq hs W ha l e2 q J;rotate_left
 refine Aq _ (xN ⟨#[]⟩ 0 0) Fk rfl ?_;intro V G1 hq hs W ha;have l:=ha.new hq;refine⟨l,?_⟩;have bo:H.size<=V:=zO;have k1:=k.call l;refine An.mk (NA k1.hB (a8.frame (l.mono k.hB)) (aj.frame (l.mono k.hB)) F.made.ok I.made.ok) ?_;rintro _ G2 ⟨e2,t1,i1,j1,ak,rfl,hc,r⟩;have am:=W.agr e2 W.lt;replace e2:A_ (F_ H) H G2:=l.trans (e2.mono λj d=>Ak l d);refine⟨e2,?_⟩;refine wG (cs:=xN t1 i1 j1) rfl am (I_ _) rfl ?_;intro G3 t q J;have Y:A_ (F_ H) H G3:=e2.trans (q.mono λj d=>by unfold F_ at d;omega);(conv=>whnf);clear hq hs W ha l e2 q J k1 am;all_goals
 obtain⟨bp,ao,rfl⟩:=JN.o F I hc;have k3:=k.call Y;have ap:V<G3.size:=t.lt;rw[Ef]at r;repeat (refine Ah.run ?_)
 refine A7.held (F_ G3) [7] (sq [0,1,2,3,4,5,6] (.f 7 .e)) (AG _ _) rfl zX ?_;repeat ((conv=>whnf);first | refine E_ ?_ | refine C_ (k3.bt.cellE rfl) k3.bt.lt ?_ | refine C_ (t.cellE rfl) ap ?_)
 refine Ab.mk (GR (e:=g) (c:=81) (p:=p) (wd:=bp) (ok:=ak) (KO ao) ⟨zQ,zQ,hp,r⟩) ?_ ?_;rotate_left
 {intro y G h;exact h.of (.old Y) λf K=>by rw[<-a];exact Bj K};rintro _ G3 ⟨aq,rfl⟩;rw[aq]at a;replace a:l_ (zS 82 p (ME V1 V2)) (λ_=>_)=X:=a;clear hc r aq ao;obtain⟨-,wt,p1,p2,wq,wx,wy,S,-,-⟩:=Di Z k3.qa;obtain⟨-,a9,ab,ad,ae,ah,ai,U,-,-⟩:=Di hC k3.qc;have⟨U1,y1,f1⟩:=AN A.s;have⟨U3,y3,f3⟩:=AN C.s;rw[f1]at S;rw[f3]at U;refine A7.held (F_ G3) [10] (sq [0,1,2,3,4,5,6,7,8] (.f 9 (.f 10 .e))) (AG _ _) rfl zX ?_;repeat ((conv=>whnf);first | refine E_ ?_ | refine C_ (S.cellE rfl) S.lt ?_ | refine C_ (U.cellE rfl) U.lt ?_)
 refine Ad underlying73 rfl _ rfl [.iface U1 y1,.iface U3 y3] zX (Aq (.agg #[.nilIface,.nilIface]) [.nilIface,.nilIface] zX rfl ?_);intro L G4 au bq aw ay;have e4:=ay.new au;refine⟨e4,?_⟩;have az:A_ (F_ H) H G4:=Y.trans (e4.mono λj d=>Ak Y d);refine wG (cs:=[.iface U1 y1,.iface U3 y3]) rfl aw (I_ _) rfl ?_;intro G5 x M br;have ce:H.size<=L:=by have:=Ay Y;omega
 have bu:V≠L:=zO;have b0:=t.agr (e4.trans (M.mono λj d=>by unfold F_ at d;omega)) ap;have e5:A_ (F_ H) H G5:=az.trans (M.mono λj d=>by unfold F_ at d;omega);replace x:L_ G5 L 73 [.iface U1 y1,.iface U3 y3]:=x;clear au bq aw ay e4 az M br S U;have N:=k.call e5;refine Ah.cut [5,6] (λe:Nat×Nat=>[.pointer (zY ⟨e.1,0,zV⟩),.pointer (zY ⟨e.2,0,zV⟩)]) (λe G=>G=G5/\∃D E:LnM,D≠ .nil/\E≠ .nil/\D.v=V1/\E.v=V2/\LnV B G5 D (.pointer (zY ⟨e.1,0,zV⟩))/\LnV B G5 E (.pointer (zY ⟨e.2,0,zV⟩))/\(ReM.cat D.v E.v).nodes<=2000) ?_ ?_;{(repeat ((conv=>whnf);first | refine Ah.run ?_ | refine E_ ?_ | refine C_ (N.bt.cellE rfl) zA ?_));rcases hV with⟨hs,rfl,rfl⟩ | ⟨hs,rfl,rfl⟩;{refine Av.tt (T.t11.trans (a_ hs)) ?_;(conv=>whnf);exact⟨rfl,(gC,gA),rfl,rfl,C,A,hC,Z,rfl,rfl,N.qc,N.qa,by simp only[ReM.nodes]at a0 ⊢;omega⟩};refine Av.ff (T.t11.trans (b_ hs)) ?_;(conv=>whnf);exact⟨rfl,(gA,gC),rfl,rfl,A,C,Z,hC,rfl,rfl,N.qa,N.qc,a0⟩};rintro⟨gD,gE⟩ G5' cd ⟨rfl,D,E,hD,hE,rfl,rfl,qD,qE,bv⟩;clear hV;obtain⟨bw,wt,p1,p2,wq,wx,wy,kD,-,⟨D2,bx,b4⟩⟩:=Di hD qD;obtain⟨bz,a9,ab,ad,ae,ah,ai,kE,-,⟨E2,c2,b5⟩⟩:=Di hE qE;refine A7.of (Ap.heldM (F_ G5') [11,12,13] [11] (sq [0,1,2,3,4,5,6,7] (.f 8 (sq [9,10,11] (.f 12 (.f 13 .e))))) rfl zX ?_);repeat ((conv=>whnf);first | refine E_ ?_ | refine C_ (kD.cellE rfl) kD.lt ?_ | refine C_ (kE.cellE rfl) kE.lt ?_)
 refine An.mk (NA N.hB bx c2 b4.made.ok b5.made.ok) ?_;rintro _ G6 ⟨e6,t2,i2,j2,c3,rfl,c4,z⟩;refine⟨e6,?_⟩;have b6:=b0.agr e6 b0.lt;have c5:=x.agr e6 x.lt;have c6:A_ (F_ H) H G6:=e5.trans (e6.mono λj d=>Ak e5 d);refine wG (cs:=xN t2 i2 j2) rfl b6 (I_ _) rfl ?_;intro G7 b7 O cg;have e7:A_ (F_ H) H G7:=c6.trans (O.mono λj d=>by unfold F_ at d;omega);have b8:=c5.agr O bu.symm;(conv=>whnf);obtain⟨c7,c8,rfl⟩:=JN.o b4 b5 c4;rw[Ef]at z;have k7:=k.call e7;have x7:q_ g H G7:=.old e7;have b9:V<G7.size:=b7.lt;repeat (refine Ah.run ?_)
 refine A7.held (F_ G7) [7] (sq [0,1,2,3,4,5,6] (.f 7 .e)) (AG _ _) rfl zX ?_;repeat ((conv=>whnf);first | refine E_ ?_ | refine C_ (k7.bt.cellE rfl) k7.bt.lt ?_ | refine C_ (b7.cellE rfl) b9 ?_)
 refine Ab.mk (GR (e:=g) (c:=82) (p:=p) (wd:=c7) (ok:=c3) (KO c8) ⟨zQ,zQ,hp,z⟩) ?_ ?_;rotate_left
 {intro y G h;exact h.of x7 λf K=>by rw[<-a];exact Bj K};rintro _ G7 ⟨c9,rfl⟩;rw[c9]at a;replace a:typ b p (.cat A.s C.s) (.cat D.v E.v)=X:=a;have⟨U2,y2,f2⟩:=AN D.v;have⟨U4,y4,f4⟩:=AN E.v;have bd:A_ B G5' G7:=(e6.mono N.hB).trans (O.mono λj d e=>by have:=k.hB j d;omega);have P:=kD.agr bd bw;have R:=kE.agr bd bz;rw[f2]at P;rw[f4]at R;refine A7.held (F_ G7) [14] (sq [0,1,2,3,4,5,6,7,8,9,10,11,12,13] (.f 14 .e)) (AG _ _) rfl zX ?_;refine K_ (cs:=[.iface U1 y1,.iface U3 y3]) (b8.cells λj v hv=>by rw[N_];exact hv) b8.lt ?_;repeat ((conv=>whnf);first | refine E_ ?_ | refine C_ (P.cellE rfl) P.lt ?_ | refine C_ (R.cellE rfl) R.lt ?_)
 refine Ad underlying73 rfl _ rfl [.iface U2 y2,.iface U4 y4] zX ?_;(conv=>whnf);have q1:Value.iface 73 (.agg #[.iface U1 y1,.iface U3 y3])=Al (.cat A.s C.s):=by rw[<-f1,<-f3];rfl
 have q2:Value.iface 73 (.agg #[.iface U2 y2,.iface U4 y4])=Al (.cat D.v E.v):=by rw[<-f2,<-f4];rfl
 have tc:=Ju (s:=.cat A.s C.s) (v:=.cat D.v E.v) h1 h2 bh bv hp k7;rw[<-q1,<-q2]at tc;refine Ab.mk tc ?_ ?_;rotate_left
 {intro y G h;exact h.of x7 λf K=>by rw[<-a];exact K};intro u G h;(conv=>whnf);exact h.of x7 λf K=>by rw[<-a];exact K
def iQ{v:v_}(c:Q≠ .nil)(h:QuV B H Q v):∃g d p1 p2 f j,v= J_ g/\B g/\L_ H g 115 [d,Al Q.o,Al Q.i,J_ p1,J_ p2,f,j]/\AuV B H (J_ p1) Q.o/\AuV B H (J_ p2) Q.i:=by cases Q with|nil=>exact absurd rfl c|mk t o i x y=>obtain⟨g,vt,m,n,vx,vy,e,k,l,-,-,a,b,-⟩:=h;obtain⟨p1,rfl⟩:=a.ptr;obtain⟨p2,rfl⟩:=b.ptr;exact⟨g,vt,p1,p2,vx,vy,e,k,l,a,b⟩
section
variable{m:Nat}{tl:List v_}
def Ae4(h1:1<=b)(h2:b<=4096)(hp:p<=1048576)(U:ws=op.s)(hw:w.size<=1048576)(V:C0 op=4)(hA:A≠ .nil)(hQ:C0 op=4->Q≠ .nil)(k:LnI B H b m mb g gt p ws n w tl Q A C a1 a2 a3 a4 vQ vA vC):Aw prog 30 #[J_ m,J_ g] H (LnR B H g gt vQ vA vC (zR b p op n w Q A C)) (LnE g H (zR b p op n w Q A C)):=by
 have T:=HW U;obtain⟨X,hX⟩:∃X,zR b p op n w Q A C=X:=⟨_,rfl⟩;rw[hX];obtain⟨gA,-,-,-,-,-,-,rfl,-⟩:=ET hA k.qa;have lg:g<H.size:=k.bg.lt;have⟨E,wt,p1,p2,wq,wx,wy,F,W,I⟩:=Di hA k.qa;refine Aw.of_vc func30 rfl (call30 _) ?_;repeat ((conv=>whnf);first | refine Ah.run ?_ | refine E_ ?_ | refine C_ (k.bg.cellE rfl) zA ?_)
 refine A7.of (Ap.heldM (F_ H) [1,18,19,20,21] [1,19,20] (sq [0,1,2,3,4,5,6,7,8,9,10,11,12,13,14,15,16,17] (.f 18 (sq [19,20] (.f 21 .e)))) rfl zX ?_);repeat ((conv=>whnf);first | refine E_ ?_ | refine C_ (k.bg.cellE rfl) k.bg.lt ?_ | refine C_ (F.cellE rfl) F.lt ?_)
 refine yO k.bg zZ (AV A.s) λG1 r j l=>?_;have a:=k.put (c1:=Al A.s) r j l;have d:q_ g H G1:=(.put j l);clear r j l;refine E_ ?_;refine yO a.bg zZ rfl λG2 t e2 q=>?_;have J:=a.put (c3:=J_ p1) t e2 q;have Y:q_ g H G2:=d.trans (.put e2 q);clear t e2 q a d;have u:=F.agr (Y.to k.hB k.gn) E;refine A7.of (Ap.heldM (F_ G2) [1,18,19,20,21] [1,19,20] (sq [0,1,2,3,4,5,6,7,8,9,10,11,12,13,14,15,16,17] (.f 18 (sq [19,20] (.f 21 .e)))) rfl zX ?_);repeat ((conv=>whnf);first | refine E_ ?_ | refine C_ (J.bg.cellE rfl) J.bg.lt ?_ | refine C_ (u.cellE rfl) u.lt ?_)
 refine yO J.bg zZ (AV A.v) λG3 r j l=>?_;have a:=J.put (c2:=Al A.v) r j l;have d:q_ g H G3:=Y.trans (.put j l);clear r j l;refine E_ ?_;refine yO a.bg zZ rfl λG4 t e2 q=>?_;have D:=a.put (c4:=J_ p2) t e2 q;have x4:q_ g H G4:=d.trans (.put e2 q);clear t e2 q a d;have a4:A_ B H G4:=x4.to k.hB k.gn;have K:=F.agr a4 E;have Z:=W.up (λ_ h=>h) a4;have ae:=I.up (λ_ h=>h) a4;clear J Y u F;repeat ((conv=>whnf);first | refine Ah.run ?_ | refine E_ ?_ | refine C_ (D.bt.cellE rfl) zA ?_)
 refine Av.tt (T.t4.trans (a_ V)) ?_;obtain⟨gQ,ah,r1,r2,ai,aj,rfl,L,kQ,M,a0⟩:=iQ (hQ V) k.qq;have x:=kQ.agr a4 L;have ad:=M.up (λ_ h=>h) a4;have⟨Q2,a8,N⟩:=a0.up (λ_ h=>h) a4;have⟨A2,a9,O⟩:=Z;have z:l_ (zS 89 p (NH Q.i A.s)) (λ_=>.inr ((Q.o,A.v)))=X:=by{rw[<-hX];cases op<;>first | (cases V;done) | rfl};repeat (refine Ah.run ?_)
 refine A7.held (F_ G4) [] (sq [0,1,2,3,4,5,6,7,8,9,10,11,12,13] (.f 14 (sq [15,16,17,18,19] .e))) (AG _ _) rfl zX ?_;repeat ((conv=>whnf);first | refine E_ ?_ | refine C_ (D.bg.cellE rfl) D.bg.lt ?_ | refine C_ (x.cellE rfl) x.lt ?_ | refine C_ (K.cellE rfl) K.lt ?_)
 refine Ab.of (An.mk (L2 D.hB a8 a9 N.made.ok O.made.ok) ?_);rintro _ G5 ⟨S,wd,ok,rfl,hc,ak⟩;refine⟨S,?_⟩;have ab:=U8 N O hc;have P:=D.call S;have x5:q_ g H G5:=x4.trans (.old S);have a5:A_ B G4 G5:=S.mono D.hB;repeat ((conv=>whnf);first | refine Ah.run ?_ | refine E_ ?_ | refine C_ (P.bt.cellE rfl) zA ?_)
 refine Ab.mk (GR (e:=g) (c:=89) (p:=p) (wd:=wd) (ok:=ok) (KO ab) ⟨zQ,zQ,hp,zO⟩) ?_ ?_;rotate_left
 {intro y G h;exact h.of x5 λf hf=>by rw[<-z];exact Bj hf};rintro _ G5 ⟨hz,rfl⟩;rw[hz]at z;have R:=x.agr a5 L;refine A7.of (Ap.heldM (F_ G5) [1,18,19,20,21] [1,19,20] (sq [0,1,2,3,4,5,6,7,8,9,10,11,12,13,14,15,16,17] (.f 18 (sq [19,20] (.f 21 .e)))) rfl zX ?_);repeat ((conv=>whnf);first | refine E_ ?_ | refine C_ (P.bg.cellE rfl) P.bg.lt ?_ | refine C_ (R.cellE rfl) R.lt ?_)
 refine yO P.bg zZ (AV Q.o) λG6 r j l=>?_;have a:=P.put (c1:=Al Q.o) r j l;have d:q_ g H G6:=x5.trans (.put j l);clear r j l;refine E_ ?_;refine yO a.bg zZ rfl λG7 t e2 q=>?_;have k7:=a.put (c3:=J_ r1) t e2 q;have x7:q_ g H G7:=d.trans (.put e2 q);clear t e2 q a d;(conv=>whnf);have a7:A_ B H G7:=x7.to k.hB k.gn;exact⟨Q.o,A.v,_,_,z.symm,x7,k7.bg,M.up (λ_ h=>.inl h) a7,I.up (λ_ h=>.inl h) a7⟩
def ZB(h1:1<=b)(h2:b<=4096)(hp:p<=1048576)(U:ws=op.s)(hw:w.size<=1048576)(V:C0 op=5)(hA:A≠ .nil)(hQ:C0 op=5->Q≠ .nil)(k:LnI B H b m mb g gt p ws n w tl Q A C a1 a2 a3 a4 vQ vA vC):Aw prog 30 #[J_ m,J_ g] H (LnR B H g gt vQ vA vC (zR b p op n w Q A C)) (LnE g H (zR b p op n w Q A C)):=by
 have T:=HW U;obtain⟨X,hX⟩:∃X,zR b p op n w Q A C=X:=⟨_,rfl⟩;rw[hX];obtain⟨gA,-,-,-,-,-,-,rfl,-⟩:=ET hA k.qa;have lg:g<H.size:=k.bg.lt;have⟨E,wt,p1,p2,wq,wx,wy,F,I,W⟩:=Di hA k.qa;refine Aw.of_vc func30 rfl (call30 _) ?_;repeat ((conv=>whnf);first | refine Ah.run ?_ | refine E_ ?_ | refine C_ (k.bg.cellE rfl) zA ?_)
 refine A7.of (Ap.heldM (F_ H) [1,18,19,20,21] [1,19,20] (sq [0,1,2,3,4,5,6,7,8,9,10,11,12,13,14,15,16,17] (.f 18 (sq [19,20] (.f 21 .e)))) rfl zX ?_);repeat ((conv=>whnf);first | refine E_ ?_ | refine C_ (k.bg.cellE rfl) k.bg.lt ?_ | refine C_ (F.cellE rfl) F.lt ?_)
 refine yO k.bg zZ (AV A.s) λG1 r j l=>?_;have a:=k.put (c1:=Al A.s) r j l;have d:q_ g H G1:=(.put j l);clear r j l;refine E_ ?_;refine yO a.bg zZ rfl λG2 t e2 q=>?_;have J:=a.put (c3:=J_ p1) t e2 q;have Y:q_ g H G2:=d.trans (.put e2 q);clear t e2 q a d;have u:=F.agr (Y.to k.hB k.gn) E;refine A7.of (Ap.heldM (F_ G2) [1,18,19,20,21] [1,19,20] (sq [0,1,2,3,4,5,6,7,8,9,10,11,12,13,14,15,16,17] (.f 18 (sq [19,20] (.f 21 .e)))) rfl zX ?_);repeat ((conv=>whnf);first | refine E_ ?_ | refine C_ (J.bg.cellE rfl) J.bg.lt ?_ | refine C_ (u.cellE rfl) u.lt ?_)
 refine yO J.bg zZ (AV A.v) λG3 r j l=>?_;have a:=J.put (c2:=Al A.v) r j l;have d:q_ g H G3:=Y.trans (.put j l);clear r j l;refine E_ ?_;refine yO a.bg zZ rfl λG4 t e2 q=>?_;have D:=a.put (c4:=J_ p2) t e2 q;have x4:q_ g H G4:=d.trans (.put e2 q);clear t e2 q a d;have a4:A_ B H G4:=x4.to k.hB k.gn;have K:=F.agr a4 E;have ae:=I.up (λ_ h=>h) a4;have Z:=W.up (λ_ h=>h) a4;clear J Y u F;repeat ((conv=>whnf);first | refine Ah.run ?_ | refine E_ ?_ | refine C_ (D.bt.cellE rfl) zA ?_)
 refine Av.ff (T.t4.trans (j_)) ?_;repeat (refine Ah.run ?_)
 (conv=>whnf);refine Av.tt (T.t5.trans (a_ V)) ?_;obtain⟨gQ,ah,r1,r2,ai,aj,rfl,L,kQ,M,a0⟩:=iQ (hQ V) k.qq;have x:=kQ.agr a4 L;have ad:=M.up (λ_ h=>h) a4;have⟨Q2,a8,N⟩:=a0.up (λ_ h=>h) a4;have⟨A2,a9,O⟩:=Z;have z:l_ (zS 89 p (NH Q.i A.v)) (λ_=>.inr ((A.s,Q.o)))=X:=by{rw[<-hX];cases op<;>first | (cases V;done) | rfl};repeat (refine Ah.run ?_)
 refine A7.held (F_ G4) [] (sq [0,1,2,3,4,5,6,7,8,9,10,11,12,13] (.f 14 (sq [15,16,17,18,19] .e))) (AG _ _) rfl zX ?_;repeat ((conv=>whnf);first | refine E_ ?_ | refine C_ (D.bg.cellE rfl) D.bg.lt ?_ | refine C_ (x.cellE rfl) x.lt ?_ | refine C_ (K.cellE rfl) K.lt ?_)
 refine Ab.of (An.mk (L2 D.hB a8 a9 N.made.ok O.made.ok) ?_);rintro _ G5 ⟨S,wd,ok,rfl,hc,ak⟩;refine⟨S,?_⟩;have ab:=U8 N O hc;have P:=D.call S;have x5:q_ g H G5:=x4.trans (.old S);have a5:A_ B G4 G5:=S.mono D.hB;repeat ((conv=>whnf);first | refine Ah.run ?_ | refine E_ ?_ | refine C_ (P.bt.cellE rfl) zA ?_)
 refine Ab.mk (GR (e:=g) (c:=89) (p:=p) (wd:=wd) (ok:=ok) (KO ab) ⟨zQ,zQ,hp,zO⟩) ?_ ?_;rotate_left
 {intro y G h;exact h.of x5 λf hf=>by rw[<-z];exact Bj hf};rintro _ G5 ⟨hz,rfl⟩;rw[hz]at z;have R:=x.agr a5 L;refine A7.of (Ap.heldM (F_ G5) [1,18,19,20,21] [1,19,20] (sq [0,1,2,3,4,5,6,7,8,9,10,11,12,13,14,15,16,17] (.f 18 (sq [19,20] (.f 21 .e)))) rfl zX ?_);repeat ((conv=>whnf);first | refine E_ ?_ | refine C_ (P.bg.cellE rfl) P.bg.lt ?_ | refine C_ (R.cellE rfl) R.lt ?_)
 refine yO P.bg zZ (AV Q.o) λG6 r j l=>?_;have a:=P.put (c2:=Al Q.o) r j l;have d:q_ g H G6:=x5.trans (.put j l);clear r j l;refine E_ ?_;refine yO a.bg zZ rfl λG7 t e2 q=>?_;have k7:=a.put (c4:=J_ r1) t e2 q;have x7:q_ g H G7:=d.trans (.put e2 q);clear t e2 q a d;(conv=>whnf);have a7:A_ B H G7:=x7.to k.hB k.gn;exact⟨A.s,Q.o,_,_,z.symm,x7,k7.bg,I.up (λ_ h=>.inl h) a7,M.up (λ_ h=>.inl h) a7⟩
def AiR(h1:1<=b)(h2:b<=4096)(hp:p<=1048576)(M:ws=op.s)(hw:w.size<=1048576)(V:C0 op=6)(W:A≠ .nil)(k:LnI B H b m mb g gt p ws n w tl Q A C a1 a2 a3 a4 vQ vA vC):Aw prog 30 #[J_ m,J_ g] H (LnR B H g gt vQ vA vC (zR b p op n w Q A C)) (LnE g H (zR b p op n w Q A C)):=by
 have T:=HW M;obtain⟨X,Y⟩:∃X,zR b p op n w Q A C=X:=⟨_,rfl⟩;rw[Y];obtain⟨gA,-,-,-,-,-,-,rfl,-⟩:=ET W k.qa;have lg:g<H.size:=k.bg.lt;have⟨x,wt,p1,p2,wq,wx,wy,z,D,E⟩:=Di W k.qa;refine Aw.of_vc func30 rfl (call30 _) ?_;repeat ((conv=>whnf);first | refine Ah.run ?_ | refine E_ ?_ | refine C_ (k.bg.cellE rfl) zA ?_)
 refine A7.of (Ap.heldM (F_ H) [1,18,19,20,21] [1,19,20] (sq [0,1,2,3,4,5,6,7,8,9,10,11,12,13,14,15,16,17] (.f 18 (sq [19,20] (.f 21 .e)))) rfl zX ?_);repeat ((conv=>whnf);first | refine E_ ?_ | refine C_ (k.bg.cellE rfl) k.bg.lt ?_ | refine C_ (z.cellE rfl) z.lt ?_)
 refine yO k.bg zZ (AV A.s) λG1 F j l=>?_;have a:=k.put (c1:=Al A.s) F j l;have d:q_ g H G1:=(.put j l);clear F j l;refine E_ ?_;refine yO a.bg zZ rfl λG2 I e2 q=>?_;have J:=a.put (c3:=J_ p1) I e2 q;have N:q_ g H G2:=d.trans (.put e2 q);clear I e2 q a d;have r:=z.agr (N.to k.hB k.gn) x;refine A7.of (Ap.heldM (F_ G2) [1,18,19,20,21] [1,19,20] (sq [0,1,2,3,4,5,6,7,8,9,10,11,12,13,14,15,16,17] (.f 18 (sq [19,20] (.f 21 .e)))) rfl zX ?_);repeat ((conv=>whnf);first | refine E_ ?_ | refine C_ (J.bg.cellE rfl) J.bg.lt ?_ | refine C_ (r.cellE rfl) r.lt ?_)
 refine yO J.bg zZ (AV A.v) λG3 F j l=>?_;have a:=J.put (c2:=Al A.v) F j l;have d:q_ g H G3:=N.trans (.put j l);clear F j l;refine E_ ?_;refine yO a.bg zZ rfl λG4 I e2 q=>?_;have t:=a.put (c4:=J_ p2) I e2 q;have Z:q_ g H G4:=d.trans (.put e2 q);clear I e2 q a d;have a4:A_ B H G4:=Z.to k.hB k.gn;have K:=z.agr a4 x;have O:=D.up (λ_ h=>h) a4;have a0:=E.up (λ_ h=>h) a4;clear J N r z;repeat ((conv=>whnf);first | refine Ah.run ?_ | refine E_ ?_ | refine C_ (t.bt.cellE rfl) zA ?_)
 refine Av.ff (T.t4.trans (j_)) ?_;repeat (refine Ah.run ?_)
 (conv=>whnf);refine Av.ff (T.t5.trans (j_)) ?_;repeat (refine Ah.run ?_)
 (conv=>whnf);refine Av.tt (T.t6.trans (a_ V)) ?_;have⟨A2,P,R⟩:=O;have u:l_ (uP (Kf A.s w) 80 p) (λ_=>.inr (A.s,A.v))=X:=by{rw[<-Y];cases op<;>first | (cases V;done) | rfl};repeat (refine Ah.run ?_)
 refine A7.held (F_ G4) [17] (sq [0,1,2,3,4,5,6,7,8,9,10,11,12,13,14] (.f 15 (sq [16] (.f 17 .e)))) (AG _ _) rfl zX ?_;repeat ((conv=>whnf);first | refine E_ ?_ | refine C_ (t.bt.cellE rfl) t.bt.lt ?_ | refine C_ (t.bg.cellE rfl) t.bg.lt ?_ | refine C_ (K.cellE rfl) K.lt ?_)
 have L:=GK (s:=w) t.hB P (by unfold maxLen;omega);rw[R.aut.acc]at L;refine Ab.of (Af (v:=.bool (Kf A.s w)) L λG5 S=>(⟨S,?_⟩));have k5:=t.call S;have U:q_ g H G5:=Z.trans (.old S);refine Ab.mk (GR (e:=g) (c:=80) (p:=p) (wd:=[]) (ok:= !Kf A.s w) fP (Hu zQ zQ hp)) ?_ ?_;rotate_left
 {intro y G h;exact h.of U λf hf=>by rw[<-u];exact Bj hf};rintro _ G5 ⟨hz,rfl⟩;rw[hz]at u;(conv=>whnf);have a5:A_ B H G5:=U.to k.hB k.gn;exact⟨A.s,A.v,_,_,u.symm,U,k5.bg,D.up (λ_ h=>.inl h) a5,E.up (λ_ h=>.inl h) a5⟩
end
def oB(all:List Oper)(o:Oper)(fr:Fr)(yes no:Prop):Prop:=match o.guard with
 | none=>yes
 | some (j,want)=>match(all[j]?).bind (·.dst)with
   | none=>False
   | some t=>yJ fr t λv=>match v with
     | .bool zW=>match want with
       | true=>yes
       | false=>no
     | .bool zU=>match want with
       | true=>no
       | false=>yes
     | .tuple _=>no
     | _=>False
def P5{all:List Oper}{o:Oper}{fr:Fr}{e no:Prop}(c:AtX ds fr a)(h:oB all o fr e no):(Region.wanted o (yielded all.toArray a.tmps)=zW/\e)\/(Region.wanted o (yielded all.toArray a.tmps)=zU/\no):=by unfold oB at h;split at h;{rename_i d;exact .inl ⟨by simp[Region.wanted,d],h⟩};rename_i j b d;split at h;{exact h.elim};rename_i t k;rw[Dm]at h;split at h;{rename_i f;have g:=OY c k f;cases b;{exact .inr ⟨by simp[Region.wanted,d,g],h⟩};exact .inl ⟨by simp[Region.wanted,d,g],h⟩};{rename_i f;have g:=OY c k f;cases b;{exact .inl ⟨by simp[Region.wanted,d,g],h⟩};exact .inr ⟨by simp[Region.wanted,d,g],h⟩};{rename_i vs f;exact .inr ⟨by simp[Region.wanted,d,MA c k f],h⟩};exact h.elim
def OJ(P:w_)(S:Nat->Prop)(Z:List Nat)(H0:Aa)(all:List Oper)(E:Fr->v_->Aa->Prop)(i:Nat)(fr:Fr)(H:Aa)(next:Fr->Aa->Prop):Prop:=match all[i]? with
 | none=>False
 | some o=>oB all o fr
   (match Z.contains i with
    | true=>Pg P o fr H (λv H'=>Cf o.dst fr v λfr'=>next fr' H') E
    | false=>Pg P o fr H (λv H'=>A_ S H0 H'/\Cf o.dst fr v λfr'=>next fr' H') E)
   (Cf o.dst fr undef λfr'=>next fr' H)
def heldGd(P:w_)(S:Nat->Prop)(Z:List Nat)(H0:Aa)(all:List Oper)(E:Fr->v_->Aa->Prop)(s:Sch):Fr->Aa->(Fr->Aa->Prop)->Prop:=Sch.rec (motive:=λ_=>Fr->Aa->(Fr->Aa->Prop)->Prop) (λfr H K=>K fr H)
  (λi _ ih fr H K=>match all[i]? with
   | none=>False
   | some o=>oB all o fr
     (match HV o&&DC P o with
      | true=>J7 P S o fr H λv=>Cf o.dst fr v λfr'=>ih fr' H K
      | false=>False)
     (Cf o.dst fr undef λfr'=>ih fr' H K))
  (λi _ ih fr H K=>OJ P S Z H0 all E i fr H λfr' H'=>ih fr' H' K)
  (λi _ j _ ih ih' fr H K=>(OJ P S Z H0 all E i fr H λfr' H'=>ih fr' H' K)/\OJ P S Z H0 all E j fr H λfr' H'=>ih' fr' H' K) s
def Zz(P:w_)(S:Nat->Prop)(Z:List Nat)(H0:Aa)(all:List Oper)(E:Fr->v_->Aa->Prop)(i:Nat)(s:Sch)(fr:Fr)(H:Aa)(K:Fr->Aa->Prop):heldGd P S Z H0 all E (.q i s) fr H K=
  (match all[i]? with
   | none=>False
   | some o=>oB all o fr
     (match HV o&&DC P o with
      | true=>J7 P S o fr H λv=>Cf o.dst fr v λa=>heldGd P S Z H0 all E s a H K
      | false=>False)
     (Cf o.dst fr undef λa=>heldGd P S Z H0 all E s a H K)):=rfl
def HM{S:Nat->Prop}{all:List Oper}{Q:Exit->Act->y_->Prop}(q:∀x fr a' e,AtX ds fr a'->Z_ w0 e->E fr x e.heap->Q (.panic (pe x)) a' e){i:Nat}{fr:Fr}{w:y_}{next:Fr->Aa->Prop}(c:AtX ds fr a) (f:Z_ w0 w) (r:Z.contains i=zU->yU w0 S w) (h:OJ P S Z w0.heap all E i fr w.heap next)(n:∀g a' e,AtX ds g a'->Z_ w0 e->(Z.contains i=zU->yU w0 S e)->next g e.heap->N a' e):wpOp P all.toArray Q i N a w:=by
 unfold OJ at h;split at h;{exact h.elim};rename_i o t;have j:all.toArray[i]?=zY o:=by simpa using t
 rcases P5 c h with⟨d,h⟩ | ⟨d,h⟩;{unfold wpOp;rw[j];dsimp only;rw[H_ d];split at h;{rename_i u;refine .inl (Oper.wp_mono ?_ (DK c h _ λx e b p=>q x fr a e c (f.trans b) p));rintro a' e ⟨v,rfl,b,k⟩;rw[Bk]at k;exact n _ _ _ (c.put o.dst v) (f.trans b) (λl=>by rw[u]at l;cases l) k};refine .inl (Oper.wp_mono ?_ (DK c h _ λx e b p=>q x fr a e c (f.trans b) p));rintro a' e ⟨v,rfl,b,m,k⟩;rw[Bk]at k;exact n _ _ _ (c.put o.dst v) (f.trans b) (λ_=>⟨f.trans b,m⟩) k};rw[Bk]at h;unfold wpOp;rw[j];dsimp only;rw[G_ (by rw[d];decide)];exact n _ _ _ (c.put o.dst undef) f r h
def Ds{P:w_}{S:Nat->Prop}{Z:List Nat}{w0:y_}{all:List Oper}{ds:List Deferred}{E:Fr->v_->Aa->Prop}{Q:Exit->Act->y_->Prop}(hs:Region.noSelect all.toArray=zW)
  (C:∀x fr a' g,AtX ds fr a'->Z_ w0 g->E fr x g.heap->Q (.panic (pe x)) a' g) (n:∀c,∀o∈all,∀v a w,Q (.panic c) (a.put o.dst v) w->Q (.panic c) a w):∀(l:Sch) (d:Array Bool) (fr:Fr) (a:Act) (w:y_) (K:Fr->Aa->Prop),AtX ds fr a->Z_ w0 w->(MM Z l=zU->yU w0 S w)->Zad all.toArray d->
  (∀y a' g,AtX ds y a'->Z_ w0 g->K y g.heap->Q .normal a' g)->Cz all.toArray Z l d=zW->l.even=zW->
  heldGd P S Z w0.heap all E l fr w.heap K->IV P all.toArray Q (yU w0 S) Z l.len d a w
 | .e,d,fr,a,w,K,hat,he,_,_,hq,hB,_,h=>⟨by simpa [Cz]using hB,hq fr a w hat he h⟩
 | .q i s,d,fr,a,w,K,hat,he,u,hsh,hq,hB,hev,h=>by
   have u:=u rfl;simp only[Cz,o_,wD,xJ]at hB;obtain⟨⟨⟨⟨F,m⟩,V⟩,W⟩,t⟩:=hB;rw[Zz]at h;split at h
   ·exact h.elim
   ·rename_i o N;have A:all.toArray[i]?=zY o:=by simpa using N
    have B:i∈Region.ready .any all.toArray d:=by simpa using F
    rcases P5 hat h with⟨p,h⟩ | ⟨p,h⟩
    ·split at h
     ·have⟨v,X,z⟩:=CJ h;rw[Bk]at z;refine Dv (v:=v) (f:=all.toArray.size) A (Region.noSelect_spec hs) (λc a' g O=>n c o (Y_ N) v a' g O) V (λj G=>W j (by simpa using G)) s.len d a w hsh (Region.free_spec A m) B
       (.inl ⟨p,λg R=>?_⟩) u ?_
      ·rw[hat.evalF];exact X g λk z=>(R.2 k z).trans (u.2 k z).symm
      ·exact Ds hs C n s _ _ _ w K (hat.put o.dst v) he (λ_=>u) (hsh.put B) hq t hev z
     ·exact h.elim
    ·rw[Bk]at h
     refine Dv (v:=undef) (f:=all.toArray.size) A (Region.noSelect_spec hs) (λc a' g O=>n c o (Y_ N) undef a' g O) V (λj G=>W j (by simpa using G)) s.len d a w hsh (Region.free_spec A m) B
       (.inr ⟨p,rfl⟩) u ?_
     exact Ds hs C n s _ _ _ w K (hat.put o.dst undef) he (λ_=>u) (hsh.put B) hq t hev h
 | .f i s,d,fr,a,w,K,hat,he,u,hsh,hq,hB,hev,h=>by
   simp only[Cz,o_,wX,wD,beq_iff_eq]at hB;obtain⟨⟨F,m⟩,t⟩:=hB;refine⟨(λH=>by rw[F]at H;cases H),λj G=>?_⟩;have T:=G;rw[F]at G;obtain rfl:j=i:=by simpa using G
   refine HM C hat he (λr=>u (by simp only[MM,r,vX])) h λy a' g I J D L=>⟨D,Ds hs C n s _ _ _ g K I J (λr=>?_) (hsh.put T) hq t hev L⟩;rcases m with m | m
   ·exact D m
   ·rw[m]at r;cases r
 | .b i s j s',d,fr,a,w,K,hat,he,u,hsh,hq,hB,hev,h=>by
   simp only[Cz,o_,wX,wD,beq_iff_eq]at hB;obtain⟨⟨⟨F,m⟩,t⟩,U⟩:=hB;simp only[Sch.even,o_,beq_iff_eq]at hev;obtain⟨⟨Y,e2⟩,e3⟩:=hev;refine⟨(λH=>by rw[F]at H;cases H),λk z=>?_⟩;have M:=z;rw[F]at z;rcases J'.1 z with rfl | z
   ·refine HM C hat he (λr=>u (by unfold MM;rw[r];rfl)) h.1 λy a' g I J D L=>⟨D,Ds hs C n s _ _ _ g K I J (λr=>?_) (hsh.put M) hq t Y L⟩;rcases m with m | m
    ·exact D m.1
    ·rw[m.1]at r;cases r
   ·obtain rfl:k=j:=by simpa using z
    rw[e3];refine HM C hat he (λr=>u (by unfold MM;rw[r,Bool.and_false];rfl)) h.2 λy a' g I J D L=>⟨D,Ds hs C n s' _ _ _ g K I J (λr=>?_) (hsh.put M) hq U e2 L⟩;rcases m with m | m
    ·exact D m.2
    ·rw[m.2]at r;cases r
def A7.heldGd{l:List Oper}{fr:Fr}{K:Fr->Aa->Prop}(S:Nat->Prop)(Z:List Nat)(b:Sch)(d:RV E l)(m:P.follows .mixedOrders=zW)(c:(Region.noSelect l.toArray&&(b.len==l.length)&&b.even&&Cz l.toArray Z b (AlY l.length zU))=zW)(h:YtjbnocjgdmnkoaaGreatDoor.heldGd P S Z H l E b fr H K):A7 P ds l fr H K E:=by refine⟨?_⟩;intro id Q a w e n p f q;subst n;simp only[o_,beq_iff_eq]at c;refine wp_region_any m (FM (S:=yU w S) (Z:=Z) _ _ _ _ ?_);have g:Zad l.toArray (AlY l.length zU):=λj o _ k=>by{rw[dM,dN]at k;split at k<;>simp at k};have:=Ds (P:=P) (S:=S) (Z:=Z) (w0:=w) (Q:=Q) c.1.1.1 p (f d) b (AlY l.length zU) fr a {w with drawn:=w.drawn+1} K e ⟨rfl,rfl,rfl⟩ (λ_=>⟨⟨rfl,rfl,rfl⟩,A_.refl _ _⟩) g q c.2 c.1.2 h;rw[c.1.1.2]at this;simpa using this
def Z7{m:Nat}{tl:List v_}(h1:1<=b)(h2:b<=4096)(Z:p<=1048576)(a0:ws=op.s)(hw:w.size<=1048576)(hi:C0 op=12)(hA:A≠ .nil)(hC:C≠ .nil)(k:LnI B H b m mb g gt p ws n w tl Q A C a1 a2 a3 a4 vQ vA vC):Aw prog 30 #[J_ m,J_ g] H (LnR B H g gt vQ vA vC (zR b p op n w Q A C)) (LnE g H (zR b p op n w Q A C)):=by
 have T:=HW a0;obtain⟨X,hX⟩:∃X,zR b p op n w Q A C=X:=⟨_,rfl⟩;rw[hX];obtain⟨gA,-,-,-,-,-,-,rfl,-⟩:=ET hA k.qa;have lg:g<H.size:=k.bg.lt;have⟨K,wt,p1,p2,wq,wx,wy,L,M,a9⟩:=Di hA k.qa;refine Aw.of_vc func30 rfl (call30 _) ?_;repeat ((conv=>whnf);first | refine Ah.run ?_ | refine E_ ?_ | refine C_ (k.bg.cellE rfl) zA ?_)
 refine A7.of (Ap.heldM (F_ H) [1,18,19,20,21] [1,19,20] (sq [0,1,2,3,4,5,6,7,8,9,10,11,12,13,14,15,16,17] (.f 18 (sq [19,20] (.f 21 .e)))) rfl zX ?_);repeat ((conv=>whnf);first | refine E_ ?_ | refine C_ (k.bg.cellE rfl) k.bg.lt ?_ | refine C_ (L.cellE rfl) L.lt ?_)
 refine yO k.bg zZ (AV A.s) λG1 E t u=>?_;have a:=k.put (c1:=Al A.s) E t u;have d:q_ g H G1:=(.put t u);clear E t u;refine E_ ?_;refine yO a.bg zZ rfl λG2 F e2 x=>?_;have N:=a.put (c3:=J_ p1) F e2 x;have x2:q_ g H G2:=d.trans (.put e2 x);clear F e2 x a d;have I:=L.agr (x2.to k.hB k.gn) K;refine A7.of (Ap.heldM (F_ G2) [1,18,19,20,21] [1,19,20] (sq [0,1,2,3,4,5,6,7,8,9,10,11,12,13,14,15,16,17] (.f 18 (sq [19,20] (.f 21 .e)))) rfl zX ?_);repeat ((conv=>whnf);first | refine E_ ?_ | refine C_ (N.bg.cellE rfl) N.bg.lt ?_ | refine C_ (I.cellE rfl) I.lt ?_)
 refine yO N.bg zZ (AV A.v) λG3 E t u=>?_;have a:=N.put (c2:=Al A.v) E t u;have d:q_ g H G3:=x2.trans (.put t u);clear E t u;refine E_ ?_;refine yO a.bg zZ rfl λG4 F e2 x=>?_;have J:=a.put (c4:=J_ p2) F e2 x;have x4:q_ g H G4:=d.trans (.put e2 x);clear F e2 x a d;have a4:A_ B H G4:=x4.to k.hB k.gn;have O:=L.agr a4 K;have am:=M.up (λ_ h=>h) a4;have ab:=a9.up (λ_ h=>h) a4;clear N x2 I L;repeat ((conv=>whnf);first | refine Ah.run ?_ | refine E_ ?_ | refine C_ (J.bt.cellE rfl) zA ?_)
 refine Av.ff (T.t4.trans (j_)) ?_;repeat (refine Ah.run ?_)
 (conv=>whnf);refine Av.ff (T.t5.trans (j_)) ?_;repeat (refine Ah.run ?_)
 (conv=>whnf);refine Av.ff (T.t6.trans (j_)) ?_;repeat (refine Ah.run ?_)
 (conv=>whnf);refine Av.tt (T.t12.trans (a_ hi)) ?_;obtain⟨gC,-,-,-,-,-,-,rfl,-⟩:=ET hC k.qc;have⟨P,ao,c1,c2,ap,aq,au,kC,ad,ae⟩:=Di hC k.qc;have R:=kC.agr a4 P;have⟨C2,ah,S⟩:=ad.up (λ_ h=>h) a4;have⟨A2,ai,U⟩:=ab;have l:l_ (zS 87 p (NH A.v C.s)) (λ_=>l_ (uP (!(Cl A|| EU C)) 88 p) λ_=>.inr (A.s,C.v))=X:=by{rw[<-hX];cases op<;>first | (cases hi;done) | rfl};repeat (refine Ah.run ?_)
 refine A7.held (F_ G4) [] (sq [0,1,2,3,4,5,6,7,8,9,10,11,12,13] (.f 14 (sq [15,16,17,18,19] .e))) (AG _ _) rfl zX ?_;repeat ((conv=>whnf);first | refine E_ ?_ | refine C_ (J.bg.cellE rfl) J.bg.lt ?_ | refine C_ (O.cellE rfl) O.lt ?_ | refine C_ (R.cellE rfl) R.lt ?_)
 refine Ab.of (An.mk (L2 J.hB ai ah U.made.ok S.made.ok) ?_);rintro _ G5 ⟨Y,wd,ok,rfl,hc,aw⟩;refine⟨Y,?_⟩;have aj:=U8 U S hc;have r:=J.call Y;have x5:q_ g H G5:=x4.trans (.old Y);have a5:A_ B G4 G5:=Y.mono J.hB;repeat ((conv=>whnf);first | refine Ah.run ?_ | refine E_ ?_ | refine C_ (r.bt.cellE rfl) zA ?_)
 refine Ab.mk (GR (e:=g) (c:=87) (p:=p) (wd:=wd) (ok:=ok) (KO aj) ⟨zQ,zQ,Z,zO⟩) ?_ ?_;rotate_left
 {intro y G h;exact h.of x5 λf hf=>by rw[<-l];exact Bj hf};rintro _ G5 ⟨hz,rfl⟩;rw[hz]at l;replace l:l_ (uP (!(Cl A|| EU C)) 88 p) (λ_=>_)=X:=l;refine A7.heldGd (F_ G5) [16] (sq [0,1,2,3,4,5,6,7] (.f 8 (sq [9,10,11,12,13] (.f 14 (sq [15] (.f 16 .e)))))) (AG _ _) rfl zX ?_;repeat ((conv=>whnf);first | refine E_ ?_ | refine C_ (r.bt.cellE rfl) r.bt.lt ?_ | refine C_ (r.bg.cellE rfl) r.bg.lt ?_)
 refine Ab.of (Af (ID A r.hB r.qa) λG6 D=>(⟨D,?_⟩));cases V:Cl A;repeat ((conv=>whnf);first | refine E_ ?_ | refine C_ ((r.call D).bg.cellE rfl) r.bg.lt ?_)
 refine Ab.of (Af (O6 C (r.call D).hB (r.call D).qc) λG7 e7=>?_);replace D:A_ (F_ G5) G5 G7:=D.trans (e7.mono λj hj=>Ak D hj);refine⟨D,?_⟩;clear e7;cases W:EU C;(all_goals have k6:=r.call D;have x6:q_ g H _:=x5.trans (.old D);(conv=>whnf));{
 refine Ab.mk (GR (e:=g) (c:=88) (p:=p) (wd:=[]) (ok:=zU) (z:=.inr ()) rfl (Hu zQ zQ Z)) ?_ ?_;rotate_left
 {rintro y G ⟨c,q,w',h,-⟩;cases h};rintro _ G8 ⟨-,rfl⟩;have l: .inr (A.s,C.v)=X:=by rw[<-l,V,W];rfl
 have ak:=kC.agr (x6.to k.hB k.gn) P;refine A7.of (Ap.heldM (λj=>j=g\/j=gC) [1,18,19,20,21] [1,19,20] (sq [0,1,2,3,4,5,6,7,8,9,10,11,12,13,14,15,16,17] (.f 18 (sq [19,20] (.f 21 .e)))) rfl zX ?_);repeat ((conv=>whnf);first | refine E_ ?_ | refine C_ (k6.bg.cellE rfl) (.inl rfl) ?_ | refine C_ (ak.cellE rfl) (.inr rfl) ?_)
 refine yO k6.bg zZ (AV C.v) λG9 E t u=>?_;have a:=k6.put (c2:=Al C.v) E t u;have d:q_ g H G9:=x6.trans (.put t u);clear E t u;refine E_ ?_;refine yO a.bg zZ rfl λG10 F e2 x=>?_;have k8:=a.put (c4:=J_ c2) F e2 x;have x8:q_ g H G10:=d.trans (.put e2 x);clear F e2 x a d;(conv=>whnf);have a8:A_ B H G10:=x8.to k.hB k.gn;exact⟨A.s,C.v,_,_,l.symm,x8,k8.bg,M.up (λ_ h=>.inl h) a8,ae.up (λ_ h=>.inl h) a8⟩};(all_goals refine Ab.mk (GR (e:=g) (c:=88) (p:=p) (wd:=[]) (ok:=zW) (z:=.inl (88,p,[])) rfl (Hu zQ zQ Z)) ?_ ?_;{rintro _ G8 ⟨h,-⟩;cases h};intro y G h;exact h.of x6 λf hf=>by rw[<-l,V];cases hf;first | rfl | (rw[W];rfl))
def sW:v_->Nat | .iface t _=>t | _=>0
def DP:∀{r c:ReM},Al r=Al c->r=c
 | .eps,c,h=>by cases c<;>first | rfl | exact absurd (congrArg sW h) (by simp only[Al,sW];decide)
 | .cls s,c,h=>by
   cases c<;>first | exact absurd (congrArg sW h) (by simp only[Al,sW];decide) | skip
   simp only[Al,Value.iface.injEq,true_and]at h;rw[cX h]
 | .cat a b,c,h | .alt a b,c,h | .and_ a b,c,h | .minus a b,c,h=>by
   cases c<;>first | exact absurd (congrArg sW h) (by simp only[Al,sW];decide) | skip
   simp only[Al,Value.iface.injEq,Value.agg.injEq,Array.mk.injEq,ApZ.injEq,true_and,and_true]at h;rw[DP h.1,DP h.2]
 | .star a,c,h=>by
   cases c<;>first | exact absurd (congrArg sW h) (by simp only[Al,sW];decide) | skip
   simp only[Al,Value.iface.injEq,Value.agg.injEq,Array.mk.injEq,ApZ.injEq,true_and,and_true]at h;rw[DP h]
def W6{b:Option ReM}(h:noV n=noV b):n=b:=by cases n with|none=>{cases b with|none=>rfl|some r=>have⟨T,v,e⟩:=AN r;have a:Value.nilIface=Al r:=h;rw[e]at a;cases a}|some r=>{cases b with|none=>have⟨T,v,e⟩:=AN r;have a:Al r=Value.nilIface:=h;rw[e]at a;cases a|some c=>rw[DP h]}
def AeB{o o':LO}(h:o.s=o'.s):o=o':=by cases o<;>cases o'<;>first | rfl | exact absurd h zQ
def VC{o:CO}(h:o.s=o'.s):o=o':=by cases o<;>cases o'<;>first | rfl | exact absurd h zQ
def MQ{e e':x_}{a:List v_}(h:L_ H g e l)(k:L_ H g e' a):l=a:=by have b:=AkN.inj (h.symm.trans k);injection b with e2 e3 e4;exact congrArg Array.toList e2
def IW{B B':Nat->Prop}{H:Aa}:∀{t c:Tm} {v:v_},((t.isC=zW/\c.isC=zW)\/(t.isL=zW/\c.isL=zW))->Z' B H t v->Z' B' H c v->t=c
 | .txt ..,c,v,h,_,_ | .rx ..,c,v,h,_,_=>by rcases h with⟨h,-⟩ | ⟨h,-⟩<;>cases h
 | .nil,c,v,h,h1,h2=>by
   have m:v= .pointer zV:=h1;subst m;cases c with
   | nil=>rfl
   | txt=>rcases h with⟨-,h⟩ | ⟨-,h⟩<;>cases h
   | rx=>rcases h with⟨-,h⟩ | ⟨-,h⟩<;>cases h
   | ca=>obtain⟨g,va,vb,e,-⟩:=h2;cases e
   | le=>obtain⟨g,vq,va,vb,e,-⟩:=h2;cases e
 | .ca p op n to back a b,c,v,h,h1,h2=>by
   obtain⟨g,va,vb,rfl,-,r,u,w,x,d⟩:=h1;cases c with
   | nil=>cases h2
   | txt=>cases h2
   | rx=>cases h2
   | le=>rcases h with⟨-,h⟩ | ⟨h,-⟩<;>cases h
   | ca y z J K A a' b'=>
     obtain⟨L,C,D,e,-,E,f,j,k,l⟩:=h2;cases e;have:=MQ r E;simp only[qJ,ApZ.injEq,Value.int.injEq,Value.string.injEq,true_and,and_true]at this;obtain⟨M,e2,F,rfl,rfl,rfl,rfl⟩:=this;obtain rfl:=VC e2;obtain rfl:=W6 F;obtain rfl:p=y:=zO
     rw[IW (.inl ⟨u,f⟩) x k,IW (.inl ⟨w,j⟩) d l]
 | .le p op n s q a b,c,v,h,h1,h2=>by
   obtain⟨g,vq,va,vb,rfl,-,r,N,u,w,O,x,d⟩:=h1;cases c with
   | nil=>cases h2
   | txt=>cases h2
   | rx=>cases h2
   | ca=>rcases h with⟨h,-⟩ | ⟨-,h⟩<;>cases h
   | le y z J Q R a' b'=>
     obtain⟨L,P,C,D,e,-,E,G,f,j,I,k,l⟩:=h2;cases e;have:=MQ r E;simp only[wZ,ApZ.injEq,Value.int.injEq,Value.string.injEq,true_and,and_true]at this;obtain⟨M,e2,F,rfl,rfl,rfl,rfl⟩:=this;obtain rfl:=AeB e2;obtain rfl:=W6 F;obtain rfl:p=y:=zO
     rw[IW (.inl ⟨N,G⟩) O I,IW (.inr ⟨u,f⟩) x k,IW (.inr ⟨w,j⟩) d l]
def HT(B:Nat->Prop)(H:Aa)(mb b:Nat):Prop:=∃md:Nat->Option v_,Ew zD H mb md/\∀a v,md a=zY v->∃t L,Z' B H t (zD a)/\t.isLe=zW/\Dg b t= .inr L/\LnV B H L v
def HT.up{B':Nat->Prop}{H':Aa}(h:HT B H mb b)(c:∀k,B k->B' k)(d:A_ B H H')(e:H'[mb]?=H[mb]?):HT B' H' mb b:=by have⟨f,g,j⟩:=h;refine⟨f,g.agr (S:=λk=>k=mb) (λk l=>by rw[l];exact e) rfl,λa v m=>?_⟩;have⟨t,L,n,p,q,r⟩:=j a v m;exact⟨t,L,n.up c d,p,q,r.up c d⟩
def HT.put{a:Nat}{f:Nat->Option v_}{v:v_}{L:LnM}(g:Ew zD H mb (put f a (zY v)))(h:∀a v,f a=zY v->∃t L,Z' B H t (zD a)/\t.isLe=zW/\Dg b t= .inr L/\LnV B H L v)(j:Z' B H t (zD a))(k:t.isLe=zW)(l:Dg b t= .inr L)(m:LnV B H L v):HT B H mb b:=by refine⟨_,g,λc u e=>?_⟩;by_cases d:c=a;{subst d;rw[BU]at e;cases e;exact⟨t,L,j,k,l,m⟩};rw[D3 d]at e;exact h c u e
structure PtI(B:Nat->Prop)(H:Aa)(b mb g gt:Nat)(T:Nat->Prop)(G:Aa)(Q:QuM)(A C:LnM)(vQ vA vC:v_):Prop where
 tB:∀k,B k->T k
 tn:∀k,T k->B k\/H.size<=k
 tl:∀k,T k->k<G.size
 gn:¬T g
 mbn:¬T mb
 mb0:mb<H.size
 g0:H.size<=g
 ax:q_ mb H G
 bg:L_ G g 39 [J_ gt,.nilIface,.nilIface,.pointer zV,.pointer zV,vQ,vA,vC]
 dn:HT T G mb b
 qq:QuV T G Q vQ
 qa:LnV T G A vA
 qc:LnV T G C vC
def PtI.gs(k:PtI B H b mb g gt T G Q A C vQ vA vC):g≠mb:=by have:=k.mb0;have:=k.g0;omega
def PtI.check(k:PtI B H b mb g gt T G Q A C vQ vA vC)(a:q_ mb G G')(d:HT (s_ T G G') G' mb b):PtI B H b mb g gt (s_ T G G') G' Q A C vQ vA vC:=by have e:A_ T G G':=a.to k.tl k.mbn;have f:=k.bg.lt;have l:=yQ k.mb0 k.ax.sz;refine⟨λj c=>.inl (k.tB j c),λj c=>c.elim (k.tn j) λh=>.inr (V' k.ax.sz h.1),λj c=>c.elim (λh=>yQ (k.tl j h) a.sz) λh=>h.2,λc=>c.elim k.gn λh=>zO,λc=>c.elim k.mbn λh=>zO,k.mb0,k.g0,k.ax.trans a,k.bg.agr a.ag ⟨f,k.gs⟩,d,k.qq.up (λ_ h=>.inl h) e,k.qa.up (λ_ h=>.inl h) e,k.qc.up (λ_ h=>.inl h) e⟩
def PtI.call(k:PtI B H b mb g gt T G Q A C vQ vA vC)(a:A_ (F_ G) G G'):PtI B H b mb g gt (s_ T G G') G' Q A C vQ vA vC:=k.check (.old a) (k.dn.up (λ_ h=>.inl h) (a.mono k.tl) (a mb (yQ k.mb0 k.ax.sz)))
def PtI.put{A' C':LnM}{c d f:v_}(k:PtI B H b mb g gt T G Q A C vQ vA vC)(n:L_ G' g 39 [J_ gt,.nilIface,.nilIface,.pointer zV,.pointer zV,c,d,f])(a:A_ (λj=>j≠g) G G')(hs:G'.size=G.size)(p:QuV T G Q' c) (q:LnV T G A' d) (r:LnV T G C' f):PtI B H b mb g gt T G' Q' A' C' c d f:=by have m:A_ T G G':=a.mono λj l e=>k.gn (by rw[<-e];exact l);refine⟨k.tB,k.tn,λj l=>by rw[hs];exact k.tl j l,k.gn,k.mbn,k.mb0,k.g0,⟨k.ax.ag.trans (a.mono λj l e=>?_),by rw[hs];exact k.ax.sz⟩,n,k.dn.up (λ_ h=>h) m (a mb (Ne.symm k.gs)),p.up (λ_ h=>h) m,q.up (λ_ h=>h) m,r.up (λ_ h=>h) m⟩;have:=k.g0;have:=l.1;omega
def LcR(B:Nat->Prop)(H:Aa)(b mb:Nat)(t:Tm)(u:v_)(H':Aa):Prop:=∃L,Dg b t= .inr L/\q_ mb H H'/\LnV (s_ B H H') H' L u/\HT (s_ B H H') H' mb b
def rQ(b:Nat)(t:Tm):Prop:=t.wf=zW->t.isLe=zW->t.sz<=2000->t.maxT->∀(B:Nat->Prop) (H:Aa) (m mb:Nat) (v:v_),(∀k,B k->k<H.size)->¬B mb->m≠mb->mb<H.size->Ny B H->L_ H m 59 [B_ b,.map (zY mb)]->HT B H mb b->Z' B H t v->
    Aw prog 16 #[J_ m,v] H (LcR B H b mb t) (LnE mb H (Dg b t))
def Ws(h:t.isL=zW)(a:t.isLe=zU):t= .nil:=by cases t<;>first | rfl | (cases h;done) | (cases a;done)
def ZA{m:Nat}{q y:Tm}{α:Type}(h1:1<=b)(h2:b<=4096)(a0:rQ b x)(a8:rQ b y)(a9:ws=op.s)(R:q.wf=zW)(ab:x.wf=zW)(ad:y.wf=zW)(S:C0 op=4\/C0 op=5->q.isCa=zW)(zq:q.sz<=2000)(zx:x.sz<=2000)(zy:y.sz<=2000)(mq:q.maxT)(mx:x.maxT)(my:y.maxT)(kx:x.isL=zW)(ky:y.isL=zW)(P:m≠mb) (hB:∀k,B k->k<H.size) (E:Ny B H) (I:L_ H m 59 [B_ b,.map (zY mb)]) (tB:B gt) (bt:L_ H gt 105 [B_ p,.string ws,noV n,.string w,a1,a2,a4]) (W:Z' B H q a1) (tx:Z' B H x a2) (ty:Z' B H y a4){Y:QuM->LnM->LnM->QuM->F3 ⊕ α} {X:F3 ⊕ α} (r:l_ (uC b op.isLeft q) (λQ1=>l_ (Dg b x) λA=>l_ (Dg b y) λC=>l_ (uC b op.isRight q) λQ2=>Y Q1 A C Q2)=X)(k:PtI B H b mb g gt T G .nil .nil .nil (.pointer zV) (.pointer zV) (.pointer zV)):Aw prog 26 #[J_ m,J_ g] G (λ_ G'=>∃T Q1 A C Q2 vQ vA vC,uC b op.isLeft q= .inr Q1/\Dg b x= .inr A/\Dg b y= .inr C/\uC b op.isRight q= .inr Q2/\PtI B H b mb g gt T G' (if op.isLeft then Q1 else Q2) A C vQ vA vC) (LnE mb H X):=by
 have T_:=HW a9;have ae:¬B mb:=λh=>k.mbn (k.tB mb h);have d:∀{T G Q A C vQ vA vC},PtI B H b mb g gt T G Q A C vQ vA vC->A_ B H G:=λk=>k.ax.to hB ae;have Z:op.isLeft=zT (C0 op=4):=by cases op<;>rfl
 have lR:op.isRight=zT (C0 op=5):=by cases op<;>rfl
 refine Aw.of_vc func26 rfl (call26 _) (E_ ?_);refine C_ (k.bg.cellE rfl) zA (Ah.cut [] (λ_:Unit=>[]) (λ_ G=>∃T Q1 vQ,uC b op.isLeft q= .inr Q1/\PtI B H b mb g gt T G Q1 .nil .nil vQ (.pointer zV) (.pointer zV)) ?_ ?_);{
 repeat ((conv=>whnf);first | refine Ah.run ?_ | refine E_ ?_ | refine C_ ((bt.agr (d k) tB).cellE rfl) zA ?_)
 by_cases t:C0 op=4;{
 refine Av.tt (T_.t4.trans (a_ t)) ?_;have a:=S (.inl t);obtain⟨U,rfl⟩:∃U,a1=Value.pointer (zY U):=by{
 have:=W;cases q<;>first | cases a | skip
 obtain⟨g',_,_,e,-⟩:=this;exact⟨_,e⟩};repeat ((conv=>whnf);first | refine Ah.run ?_ | refine E_ ?_ | refine C_ ((bt.agr (d k) tB).cellE rfl) zA ?_)
 refine Ab.mk (iR h1 h2 R a zq mq k.tl (E.up k.tB (d k)).1 (W.up k.tB (d k)) (I.agr k.ax.ag ⟨I.lt,P⟩)) ?_ ?_;rotate_left
 {intro y G h;exact h.ln k.ax λf J=>by rw[<-r];exact(Bj (by rw[Z,a_ t];exact J))};rintro u G3 ⟨Q,hQ,a3,z⟩;have c:=k.call a3;obtain⟨pu,rfl⟩:=z.ptr;refine E_ ?_;refine yO c.bg zZ rfl λG4 K M N=>?_;have O:=c.put K M N z c.qa c.qc;(conv=>whnf);exact⟨rfl,(),rfl,_,Q,_,by rw[Z,a_ t];exact hQ,O⟩};refine Av.ff (T_.t4.trans (b_ t)) ?_;repeat (refine Ah.run ?_)
 (conv=>whnf);exact⟨rfl,(),rfl,_,.nil,_,by rw[Z,b_ t];rfl,k⟩};clear k;rintro _ G1 ah ⟨T1,Q1,vQ,D,j⟩;rw[D]at r;replace r:l_ (Dg b x) (λA=>_)=X:=r;refine Ah.cut [] (λ_:Unit=>[]) (λ_ G=>∃T L v,Dg b x= .inr L/\PtI B H b mb g gt T G Q1 L .nil vQ v (.pointer zV)) ?_ ?_;{
 cases a:x.isLe;{obtain rfl:x= .nil:=Ws kx a;obtain rfl:a2= .pointer zV:=tx;(repeat ((conv=>whnf);first | refine Ah.run ?_ | refine E_ ?_ | refine C_ ((bt.agr (d j) tB).cellE rfl) zA ?_ | refine Te underlying33 ?_));exact⟨rfl,(),rfl,_,.nil,_,rfl,j⟩};obtain⟨V,rfl⟩:∃V,a2=Value.pointer (zY V):=by{
 have:=tx;cases x<;>first | cases a | skip
 obtain⟨g',_,_,_,e,-⟩:=this;exact⟨_,e⟩};repeat ((conv=>whnf);first | refine Ah.run ?_ | refine E_ ?_ | refine C_ ((bt.agr (d j) tB).cellE rfl) zA ?_ | refine PO underlying33 ?_)
 refine Ab.mk (a0 ab a zx mx _ _ m mb _ j.tl j.mbn P (yQ j.mb0 j.ax.sz) (E.up j.tB (d j)) (I.agr j.ax.ag ⟨I.lt,P⟩) j.dn (tx.up j.tB (d j))) ?_ ?_;rotate_left
 {intro y G h;exact h.of j.ax λf J=>by rw[<-r];exact Bj J};rintro u G3 ⟨L,hL,a3,z,hd⟩;have c:=j.check a3 hd;obtain⟨pu,rfl⟩:=z.ptr;refine E_ ?_;refine yO c.bg zZ rfl λG4 K M N=>?_;have O:=c.put K M N c.qq z c.qc;(conv=>whnf);exact⟨rfl,(),rfl,_,L,_,hL,O⟩};clear j;rintro _ G2 ai ⟨T2,A,vA,hA,l⟩;rw[hA]at r;replace r:l_ (Dg b y) (λC=>_)=X:=r;refine Ah.cut [] (λ_:Unit=>[]) (λ_ G=>∃T L v,Dg b y= .inr L/\PtI B H b mb g gt T G Q1 A L vQ vA v) ?_ ?_;{
 cases a:y.isLe;{obtain rfl:y= .nil:=Ws ky a;obtain rfl:a4= .pointer zV:=ty;(repeat ((conv=>whnf);first | refine Ah.run ?_ | refine E_ ?_ | refine C_ ((bt.agr (d l) tB).cellE rfl) zA ?_ | refine Te underlying33 ?_));exact⟨rfl,(),rfl,_,.nil,_,rfl,l⟩};obtain⟨V,rfl⟩:∃V,a4=Value.pointer (zY V):=by{
 have:=ty;cases y<;>first | cases a | skip
 obtain⟨g',_,_,_,e,-⟩:=this;exact⟨_,e⟩};repeat ((conv=>whnf);first | refine Ah.run ?_ | refine E_ ?_ | refine C_ ((bt.agr (d l) tB).cellE rfl) zA ?_ | refine PO underlying33 ?_)
 refine Ab.mk (a8 ad a zy my _ _ m mb _ l.tl l.mbn P (yQ l.mb0 l.ax.sz) (E.up l.tB (d l)) (I.agr l.ax.ag ⟨I.lt,P⟩) l.dn (ty.up l.tB (d l))) ?_ ?_;rotate_left
 {intro y G h;exact h.of l.ax λf J=>by rw[<-r];exact Bj J};rintro u G3 ⟨L,hL,a3,z,hd⟩;have F:=l.check a3 hd;obtain⟨pu,rfl⟩:=z.ptr;refine E_ ?_;refine yO F.bg zZ rfl λG4 K M N=>?_;have O:=F.put K M N F.qq F.qa z;(conv=>whnf);exact⟨rfl,(),rfl,_,L,_,hL,O⟩};clear l;rintro _ G3 aj ⟨T3,C,vC,hC,c⟩;rw[hC]at r;replace r:l_ (uC b op.isRight q) (λQ2=>_)=X:=r;repeat ((conv=>whnf);first | refine Ah.run ?_ | refine E_ ?_ | refine C_ ((bt.agr (d c) tB).cellE rfl) zA ?_)
 by_cases t:C0 op=5;{
 refine Av.tt (T_.t5.trans (a_ t)) ?_;have a:=S (.inr t);obtain⟨U,rfl⟩:∃U,a1=Value.pointer (zY U):=by{
 have:=W;cases q<;>first | cases a | skip
 obtain⟨g',_,_,e,-⟩:=this;exact⟨_,e⟩};repeat ((conv=>whnf);first | refine Ah.run ?_ | refine E_ ?_ | refine C_ ((bt.agr (d c) tB).cellE rfl) zA ?_)
 refine Ab.mk (iR h1 h2 R a zq mq c.tl (E.up c.tB (d c)).1 (W.up c.tB (d c)) (I.agr c.ax.ag ⟨I.lt,P⟩)) ?_ ?_;rotate_left
 {intro y G h;exact h.ln c.ax λf J=>by rw[<-r];exact(Bj (by rw[lR,a_ t];exact J))};rintro u G3 ⟨Q,hQ,a3,z⟩;have k5:=c.call a3;obtain⟨pu,rfl⟩:=z.ptr;refine E_ ?_;refine yO k5.bg zZ rfl λG4 K M N=>?_;have O:=k5.put K M N z k5.qa k5.qc;(conv=>whnf);exact⟨_,Q1,A,C,Q,_,_,_,D,hA,hC,by rw[lR,a_ t];exact hQ,by rw[Z,j_];exact O⟩};refine Av.ff (T_.t5.trans (b_ t)) ?_;repeat (refine Ah.run ?_)
 (conv=>whnf);refine⟨T3,Q1,A,C,.nil,vQ,vA,vC,D,hA,hC,by rw[lR,b_ t];rfl,?_⟩;cases hl:op.isLeft;{rw[hl]at D;cases D;exact c};exact c
def fF:D4 prog 57 33 29 (.pointer zV):=⟨rfl,rfl⟩
def fM:Qy prog 33 105:=⟨rfl,_,rfl,zQ⟩
def iZ{a:Nat}(h:Z' B H t (zD a))(b:t.isLe=zW):Er H 105 a:=by obtain⟨g,p,op,n,s,q,x,y,vq,vx,vy,rfl,e,d,c,-⟩:=Wy h b;cases e;exact⟨_,c⟩
def OQ{s v:ReM}{r:ReM×ReM}(h:typ b p s v= .inr r):r=(s,v):=(OP h).1
def Jd:∀{t:Tm} {b:Nat} {L:LnM},t.wf=zW->t.isLe=zW->Dg b t= .inr L->L.s.nodes<=t.sz/\L.v.nodes<=t.sz
 | .txt ..,b,L,_,h,_ | .rx ..,b,L,_,h,_ | .ca ..,b,L,_,h,_ | .nil,b,L,_,h,_=>by cases h
 | .le p op n w q x y,b,L,hw,_,h=>by
   simp only[Dg]at h;have⟨Q1,u,h⟩:=Ax h;have⟨A,z,h⟩:=Ax h;have⟨C,B,h⟩:=Ax h;have⟨Q2,D,h⟩:=Ax h;have⟨r,c,h⟩:=Ax h;cases h;unfold Tm.wf at hw;simp only[o_]at hw;obtain⟨⟨⟨a,g⟩,k⟩,l⟩:=hw;have e:=λm=>Jd (t:=x) k m z;have j:=λm=>Jd (t:=y) l m B;rw[Mp];show r.1.nodes<=_/\r.2.nodes<=_;cases op
   case copy | key=>
    simp only[zR]at c;obtain rfl:=OQ c;obtain⟨r,rfl⟩:∃r,n=zY r:=by cases n<;>first | exact⟨_,rfl⟩ | cases a
    simp only[DJ,nO,Am6];exact⟨zO,zO⟩
   case ins=>
    simp only[zR]at c;obtain rfl:=OQ c;rw[Lf];simp only[LO.isI,if_true,ReM.nodes];exact⟨zO,zO⟩
   case del=>
    simp only[zR]at c;have⟨G,d,f⟩:=Ax c;obtain⟨_,-,E⟩:=Ax f;cases E;obtain rfl:=OQ d;obtain⟨r,rfl⟩:∃r,n=zY r:=by cases n<;>first | exact⟨_,rfl⟩ | cases a
    simp only[DJ,nO,Am6,ReM.nodes];exact⟨zO,zO⟩
   case alt | cat | swap=>
    simp only[zR,catT]at c;obtain⟨_,-,d⟩:=Ax c;obtain⟨_,-,f⟩:=Ax d;obtain rfl:=OQ f;simp at a;have e:=e a.1;have j:=j a.2;simp only[ReM.nodes];exact⟨zO,zO⟩
   case star | keyed=>
    simp only[zR]at c;obtain⟨_,-,d⟩:=Ax c;obtain⟨_,-,f⟩:=Ax d;obtain rfl:=OQ f;have e:=e a;simp only[ReM.nodes];exact⟨zO,zO⟩
   case left=>
    simp only[zR]at c;obtain⟨_,-,d⟩:=Ax c;cases d;simp at a;have F:=FW g a.1 (show D5 b q= .inr Q1 from u);have e:=e a.2;exact⟨by show Q1.o.nodes<=_;omega,by show A.v.nodes<=_;omega⟩
   case right=>
    simp only[zR]at c;obtain⟨_,-,d⟩:=Ax c;cases d;simp at a;have F:=FW g a.1 (show D5 b q= .inr Q2 from D);have e:=e a.2;exact⟨by show A.s.nodes<=_;omega,by show Q2.o.nodes<=_;omega⟩
   case default_=>
    simp only[zR]at c;obtain⟨_,-,d⟩:=Ax c;cases d;have e:=e a;exact⟨by show A.s.nodes<=_;omega,by show A.v.nodes<=_;omega⟩
   case chain=>
    simp only[zR]at c;obtain⟨_,-,d⟩:=Ax c;obtain⟨_,-,f⟩:=Ax d;cases f;simp at a;have e:=e a.1;have j:=j a.2;exact⟨by show A.s.nodes<=_;omega,by show C.v.nodes<=_;omega⟩
def q_.two(h:q_ mb H G)(k:q_ g G G')(b:H.size<=g):q_ mb H G':=⟨h.ag.trans (k.ag.mono λj a=>⟨yQ a.1 h.sz,by have:=a.1;omega⟩),V' h.sz k.sz⟩
def LnE.two{α β:Type}{x:F3 ⊕ α}{X:F3 ⊕ β}{y:v_}(h:LnE g G x y G')(a:q_ mb H G)(b:H.size<=g)(d:∀f,x= .inl f->X= .inl f):LnE mb H X y G':=by have⟨c,p,w,e,j,k,l⟩:=h;exact⟨c,p,w,d _ e,j,a.two k b,l⟩
def jI(E:1<=b)(F:b<=4096){q y:Tm}(b7:rQ b x)(b8:rQ b y):rQ b (.le p op n w q x y):=by
 intro M _ hz b9 B H m mb v hB a8 mm a9 ab U dn ht;have ad:=ht;obtain⟨g,vq,vx,vy,rfl,hg,D,kq,kx,ky,tq,tx,ty⟩:=ht;obtain⟨ws,d⟩:∃ws,ws=op.s:=⟨_,rfl⟩;replace D:L_ H g 105 [B_ p,.string ws,noV n,.string w,vq,vx,vy]:=by rw[d];exact D
 have T_:=HW d;have c6:=M;unfold Tm.wf at M;simp only[o_]at M;obtain⟨⟨⟨k,bd⟩,ae⟩,ah⟩:=M;have⟨K,hw,mq,mx,my⟩:=b9;have V:=hz;rw[Mp]at V;have ai:∀r,n=zY r->r.nodes<=2000:=λr hr=>by{subst hr;simp only[DJ]at V;omega};have aj:C0 op=2->(AH (zI w)).nodes<=2000:=λh=>by{have:op= .ins:=by{cases op<;>first | rfl | cases h};subst this;rw[Lf];simp only[LO.isI,if_true]at V;omega};have hn:C0 op=0\/C0 op=1\/C0 op=3->n.isSome=zW:=λh=>by{cases op<;>first | exact k | (exact absurd h zQ)};have ak:C0 op=4\/C0 op=5->q.isCa=zW:=λh=>by{cases op<;>first | (simp at k;exact k.1) | (exact absurd h zQ)};have am:4<=C0 op->x.isLe=zW:=λh=>by{cases op<;>first | exact k | (simp at k;exact k.1) | (simp at k;exact k.2) | (exact absurd h zQ)};have ao:9<=C0 op->y.isLe=zW:=λh=>by{cases op<;>first | (simp at k;exact k.2) | (exact absurd h zQ)};obtain⟨X,I⟩:∃X,Dg b (.le p op n w q x y)=X:=⟨_,rfl⟩;have N:=I;simp only[Dg]at I;have ap:=dn;have⟨md,be,hd⟩:=dn;have aq:Aw prog 16 #[J_ m,J_ g] H (λu H'=>∃L,X= .inr L/\q_ mb H H'/\LnV (s_ B H H') H' L u/\HT (s_ B H H') H' mb b) (LnE mb H X):=by{
 refine Aw.of_vc func16 rfl (call16 _) (E_ ?_);refine lT (U.cellE rfl) ?_;refine ST fF fM be ⟨_,D⟩ (λa v hv=>by obtain⟨t,L,c,k2,-⟩:=hd a v hv;exact⟨iZ c k2,trivial⟩) zA zA ?_;cases bf:md g with|some v'=>{have⟨t',L,c,k2,k3,k4⟩:=hd g v' bf;have et:Tm.le p op n w q x y=t':=IW (.inr ⟨rfl,by cases t'<;>first | rfl | cases k2⟩) ad c;subst et;(repeat (refine Ah.run ?_));(conv=>whnf);exact⟨L,by rw[<-N];exact k3,.refl,k4.up (λ_ h=>.inl h) (A_.refl _ _),ap.up (λ_ h=>.inl h) (A_.refl _ _) rfl⟩}|none=>{
 repeat (refine Ah.run ?_)
 refine Ad underlying39 rfl _ rfl [J_ g,.nilIface,.nilIface,.pointer zV,.pointer zV,.pointer zV,.pointer zV,.pointer zV] zX (BF [J_ g,.nilIface,.nilIface,.pointer zV,.pointer zV,.pointer zV,.pointer zV,.pointer zV] rfl ?_);intro l H1 hq bh P au;have a1:A_ (F_ H) H H1:=au.mono λj J=>by unfold F_ at J;omega
 have k0:PtI B H b mb l g B H1 .nil .nil .nil (.pointer zV) (.pointer zV) (.pointer zV):=⟨λ_ h=>h,λ_ h=>.inl h,λj J=>Ak a1 (hB j J),λh=>by have:=hB l h;omega,a8,a9,zO,.old a1,P,ap.up (λ_ h=>h) (a1.mono hB) (a1 mb a9),rfl,rfl,rfl⟩;clear hq bh P au;refine Ab.mk (ZA (α:=LnM) (Y:=λQ1 A C Q2=>l_ (zR b p op n w (if op.isLeft then Q1 else Q2) A C) λr=>.inr (LnM.mk (.le p op n w q x y) r.1 r.2 (if op.isLeft then Q1 else Q2) A C)) E F b7 b8 d bd ae ah ak zO zO zO mq mx my kx ky mm hB ab U hg D tq tx ty I k0) ?_ (λ_ _ h=>h);rintro _ G1 ⟨T,Q1,A,C,Q2,vQ,vA,vC,W,hA,hC,Z,c⟩;obtain⟨Q,O⟩:∃Q,(if op.isLeft then Q1 else Q2)=Q:=⟨_,rfl⟩;rw[O]at c;replace I:l_ (zR b p op n w Q A C) (λr=>.inr (LnM.mk (.le p op n w q x y) r.1 r.2 Q A C))=X:=by{rw[<-I,Cd W,Cd hA,Cd hC,Cd Z,O]};have z:4<=C0 op->A≠ .nil:=λh=>by{obtain⟨_,_,_,_,_,e⟩:=Jc hA (am h);rw[e];exact nofun};have a0:9<=C0 op->C≠ .nil:=λh=>by{obtain⟨_,_,_,_,_,e⟩:=Jc hC (ao h);rw[e];exact nofun};have aw:C0 op=4\/C0 op=5->Q≠ .nil:=λh=>by{
 have hq:=ak h;rw[<-O];rcases h with h | h<;>cases op<;>first | (cases h;done) | skip
 {obtain⟨_,_,_,_,e⟩:=K9 (show D5 b q= .inr Q1 from W) hq;show Q1≠ .nil;rw[e];exact nofun};obtain⟨_,_,_,_,e⟩:=K9 (show D5 b q= .inr Q2 from Z) hq;show Q2≠ .nil;rw[e];exact nofun};have R:4<=C0 op->A.s.nodes<=x.sz/\A.v.nodes<=x.sz:=λh=>Jd ae (am h) hA;have sC:9<=C0 op->C.s.nodes<=y.sz/\C.v.nodes<=y.sz:=λh=>Jd ah (ao h) hC;have aB:A_ B H G1:=c.ax.to hB a8;have bj:m≠l:=by have:=U.lt;have:=c.g0;omega
 have kI:LnI T G1 b m mb l g p ws n w [vq,vx,vy] Q A C .nilIface .nilIface (.pointer zV) (.pointer zV) vQ vA vC:=⟨c.tl,c.gn,bj,c.tB g hg,c.bg,D.agr aB hg,U.agr c.ax.ag ⟨U.lt,mm⟩,ab.up c.tB aB,c.qq,c.qa,c.qc⟩;have S:=D.agr aB hg;clear k0 W Z O;refine Ah.cut [] (λ_:Unit=>[]) (λ_ G=>LnR T G1 l g vQ vA vC (zR b p op n w Q A C) (.tuple #[]) G) ?_ ?_;{
 repeat ((conv=>whnf);first | refine Ah.run ?_ | refine E_ ?_ | refine C_ (S.cellE rfl) zA ?_)
 cases op;(all_goals
 first | refine Av.tt (T_.t0.trans rfl) ?_ | (refine Av.ff (T_.t0.trans rfl) ?_;(repeat (refine Ah.run ?_));(conv=>whnf);first | refine Av.tt (T_.t1.trans rfl) ?_ | (refine Av.ff (T_.t1.trans rfl) ?_;(repeat (refine Ah.run ?_));(conv=>whnf);first | refine Av.tt (T_.t3.trans rfl) ?_ | (refine Av.ff (T_.t3.trans rfl) ?_;(repeat (refine Ah.run ?_));(conv=>whnf);first | refine Av.tt (T_.t2.trans rfl) ?_ | (refine Av.ff (T_.t2.trans rfl) ?_;(repeat (refine Ah.run ?_));(conv=>whnf);first | refine Av.tt (T_.t10.trans rfl) ?_ | (refine Av.ff (T_.t10.trans rfl) ?_;(repeat (refine Ah.run ?_));(conv=>whnf);first | refine Av.tt (T_.t11.trans rfl) ?_ | (refine Av.ff (T_.t11.trans rfl) ?_;(repeat (refine Ah.run ?_));(conv=>whnf);first | refine Av.tt (T_.t9.trans rfl) ?_ | (refine Av.ff (T_.t9.trans rfl) ?_;(repeat (refine Ah.run ?_));(conv=>whnf);first | refine Av.tt (T_.t8.trans rfl) ?_ | (refine Av.ff (T_.t8.trans rfl) ?_;(repeat (refine Ah.run ?_));(conv=>whnf);first | refine Av.tt (T_.t7.trans rfl) ?_ | refine Av.ff (T_.t7.trans rfl) ?_))))))))
 repeat (refine Ah.run ?_)
 (conv=>whnf)
 first
 | refine Ab.mk (Wu E F K d hw zQ (λh=>hn zQ) ai aj kI) ?_ ?_
 | refine Ab.mk (Wu E F K d hw zQ (λh=>absurd rfl h) ai aj kI) ?_ ?_
 | refine Ab.mk (Ae4 E F K d hw zQ (z zQ) (λ_=>aw zQ) kI) ?_ ?_
 | refine Ab.mk (ZB E F K d hw zQ (z zQ) (λ_=>aw zQ) kI) ?_ ?_
 | refine Ab.mk (AiR E F K d hw zQ (z zQ) kI) ?_ ?_
 | refine Ab.mk (Z7 E F K d hw zQ (z zQ) (a0 zQ) kI) ?_ ?_
 | refine Ab.mk (Wv (op:=.keyed) E F K zQ (z zQ) (by have:=R zQ;simp only[ReM.nodes];omega) (by have:=R zQ;simp only[ReM.nodes];omega) kI) ?_ ?_
 | refine Ab.mk (Wv (op:=.star) E F K zQ (z zQ) (by have:=R zQ;simp only[ReM.nodes];omega) (by have:=R zQ;simp only[ReM.nodes];omega) kI) ?_ ?_
 | refine Ab.mk (Z8 E F K d zQ (z zQ) (a0 zQ) (by have:=R zQ;have:=sC zQ;simp only[ReM.nodes];omega) (by have:=R zQ;have:=sC zQ;simp only[ReM.nodes];omega) kI) ?_ ?_
 | refine Ab.mk (Z9 E F K d zQ (z zQ) (a0 zQ) (by have:=R zQ;have:=sC zQ;simp only[ReM.nodes];omega) (by have:=R zQ;have:=sC zQ;simp only[ReM.nodes];omega) kI) ?_ ?_
 rotate_left
 {intro y G h;exact h.two c.ax c.g0 λf hf=>by rw[<-I];exact Bj hf};intro u G h;(conv=>whnf);exact⟨rfl,(),rfl,h⟩)};rintro _ G2 bn ⟨s,v',va,vb,hx,x2,ay,bo,bp⟩;rw[hx]at I;replace I: .inr (LnM.mk (.le p op n w q x y) s v' Q A C)=X:=I;have az:q_ mb H G2:=c.ax.two x2 c.g0;have aT:A_ T G1 G2:=x2.to c.tl c.gn;have bq:=U.agr az.ag ⟨U.lt,mm⟩;have b0:=S.agr aT (c.tB g hg);have g0:=c.g0;have s1:=c.ax.sz;have s2:=x2.sz;have dU:HT (s_ T G1 G2) G2 mb b:=c.dn.up (λ_ h=>.inl h) aT (x2.ag mb ⟨zO,zO⟩);have⟨br,bu,b4⟩:=dU;repeat ((conv=>whnf);first | refine Ah.run ?_ | refine E_ ?_ | refine C_ (bq.cellE rfl) zA ?_)
 refine ZT fF fM bu ⟨_,b0⟩ (λa v hv=>by obtain⟨t,L,bv,bw,-⟩:=b4 a v hv;exact iZ bv bw) ?_;intro G3 bx a3 z3;(conv=>whnf);have c7:=ay.lt;have bz:∀j,(s_ T G1 G2 j\/j=l)->j≠mb:=λj J=>by{rcases J with(h | h) | h;{exact λe=>c.mbn (by rw[<-e];exact h)};{omega};omega};have Uf:∀j,(s_ T G1 G2 j\/j=l)->s_ B H G3 j:=λj J=>by{rcases J with(h | h) | h;{have:=c.tl j h;rcases c.tn j h with h' | h';{exact .inl h'};exact .inr ⟨h',zO⟩};{exact .inr ⟨zO,zO⟩};exact .inr ⟨zO,zO⟩};have aU:A_ (λj=>s_ T G1 G2 j\/j=l) G2 G3:=a3.mono bz;have b5:Z' (λj=>s_ T G1 G2 j\/j=l) G2 (.le p op n w q x y) (J_ g):=ad.up (λj J=>.inl (.inl (c.tB j J))) (aB.trans (aT.mono c.tB));have b6:LnV (λj=>s_ T G1 G2 j\/j=l) G2 (LnM.mk (.le p op n w q x y) s v' Q A C) (J_ l):=⟨l,_,va,vb,vQ,vA,vC,rfl,.inr rfl,ay,b5,rfl,bo.up (λ_ h=>.inl h) (A_.refl _ _),bp.up (λ_ h=>.inl h) (A_.refl _ _),c.qq.up (λ_ h=>.inl (.inl h)) aT,c.qa.up (λ_ h=>.inl (.inl h)) aT,c.qc.up (λ_ h=>.inl (.inl h)) aT⟩;have c5:∀a v,br a=zY v->∃t L,Z' (λj=>s_ T G1 G2 j\/j=l) G3 t (zD a)/\t.isLe=zW/\Dg b t= .inr L/\LnV (λj=>s_ T G1 G2 j\/j=l) G3 L v:=λa v hv=>by{have⟨t,L,c1,c2,c3,c4⟩:=b4 a v hv;exact⟨t,L,(c1.up (λ_ h=>.inl h) (A_.refl _ _)).up (λ_ h=>h) aU,c2,c3,(c4.up (λ_ h=>.inl h) (A_.refl _ _)).up (λ_ h=>h) aU⟩};exact⟨_,I.symm,az.trans ⟨a3.mono λj J=>J.2,zO⟩,b6.up Uf aU,(HT.put bx c5 (b5.up (λ_ h=>h) aU) rfl (N.trans I.symm) (b6.up (λ_ h=>h) aU)).up Uf (A_.refl _ _) rfl⟩}};refine aq.mono ?_ ?_;{rintro u H' ⟨L,h,h'⟩;exact⟨L,by rw[N];exact h,h'⟩};intro y H' h;rw[N];exact h
def UM{b:Nat}(a:1<=b)(c:b<=4096):∀t:Tm,rQ b t | .txt .. | .rx .. | .ca .. | .nil=>λ_ h=>by cases h | .le p op n w q x y=>jI a c (UM a c x) (UM a c y)
def ZH{v:v_}:AT prog 14 #[.iface 33 v] H (.tuple #[v,.bool zW]):=by refine Am.of_vc func14 rfl (call14 _) (TS ?_);(conv=>whnf);exact⟨rfl,A_.refl _ _⟩
abbrev Mr(q2 q3:Nat)(v:v_)(l:List v_):List Pc:=[pB 29 q2 [v],pB 24 q3 l]
def Ae9{a:Nat}(k:K H):BX prog 15 #[J_ a,J_ b] .returning .returning H K:=by refine BX.mk (R:=λH'=>H'=H) (Ce (R:=λH'=>H'=H) func15 rfl ⟨⟨_,rfl⟩,rfl,rfl,rfl,rfl,rfl⟩ .ret rfl ?_) (λH' h=>by rw[h];exact k);(conv=>whnf);refine⟨rfl,?_⟩;refine L9 underlying20 ?_;(conv=>whnf)
def Ae8{H0:Aa}{a c:Nat}{v:v_}(g:l.length=3)(j:D_ B H0 H (Mr a b v l++ps))(k:∀H',D_ B H0 H' (Mr a b (.pointer zV) (t_ c e w)++ps)->K H'):BX prog 15 #[J_ a,J_ b] (.panicking (pe (uW c e w))) (.panicking [{v:=uW c e w,recovered:=zW}]) H K:=by refine BX.mk (R:=λH'=>D_ B H0 H' (Mr a b (.pointer zV) (t_ c e w)++ps)) (Ce (R:=λH'=>D_ B H0 H' (Mr a b (.pointer zV) (t_ c e w)++ps)) func15 rfl ⟨⟨_,rfl⟩,rfl,rfl,rfl,rfl,rfl⟩ (.pan _) rfl ?_) k;(conv=>whnf);refine⟨rfl,?_⟩;refine Mm underlying20 (Ap.held (λ_=>False) 3 (sq [0,1] (.f 2 (.f 3 .e))) rfl zX (He underlying24 (λp h=>by cases h) (Bc j 0 rfl zZ rfl λH1 st1=>(⟨λk m=>m.elim,?_⟩))));refine AB (cs:=t_ c e w) st1 1 rfl rfl (by rw[g];exact I_ _) rfl λH3 d=>?_;(conv=>whnf);have n:As l 0 (t_ c e w)=t_ c e w:=BC g.symm;rw[n]at d;exact d
def gB(B:Nat->Prop)(H:Aa)(R:v_)(H':Aa):F3 ⊕ LnM->Prop | .inl (c,p,w)=>R= .tuple #[.pointer zV,tY c p (bA w)]/\FtW c p w | .inr L=>∃v,R= .tuple #[v,tY 0 0 nx]/\LnV (s_ B H H') H' L v
def Qg{H0 H':Aa}(a:D_ B H0 H ps)(x:q_ e H H')(f:¬B e)(m:∀p∈ps,∃g b l,p=pB g b l/\b≠e):D_ B H0 H' ps:=by refine⟨a.old.trans (x.to (λk j=>a.up j) f),a.lt0,V' a.size x.sz,λp d=>?_,λp d k j=>?_,a.dis⟩;{obtain⟨g,b,l,rfl,n⟩:=m p d;have h:=a.oks _ d;have c:L_ H b g l:=h;exact c.agr x.ag ⟨c.lt,n⟩};have:=a.rng p d k j;exact⟨this.1,yQ this.2 x.sz⟩
def X8(G:1<=b)(I:b<=4096)(hw:t.wf=zW)(J:t.isLe=zW)(hz:t.sz<=2000)(K:t.maxT){v:v_}(n:∀k,B k->k<H.size)(q:Ny B H)(ht:Z' B H t v):Am prog 9 #[.iface 33 v,B_ b] H λR H'=>A_ (F_ H) H H'/\gB B H R H' (Dg b t):=by
 refine Am.of_rest func9 rfl (call9 _) (Bn.seq (Aq (.pointer zV) [.pointer zV] rfl rfl ?_));intro E H1 M N r O;have st1:=(St.nil H).box M N r O;refine Aq (Bb 0 0) (Ae 0 0) BY rfl ?_;intro P H2 Q S x T;have U:D_ (F_ H) H H2 (Mr E P (.pointer zV) (t_ 0 0 nx)):=st1.box Q S x T;refine Bn.seq ?_;have d1:zT ((b:Int)<1)=zU:=j_;have d2:zT ((4096:Int)<(b:Int))=zU:=j_;repeat ((conv=>whnf);first | rw[d1] | rw[d2] | refine AC.run ?_ | refine X4 underlying42 ?_)
 refine Bn.seq (Af ZH λH3 a3=>?_);have f:=U.call a3;refine Bn.seq ?_;repeat (refine AC.run ?_)
 refine Bn.defer_ ⟨rfl,rfl,rfl,⟨_,rfl⟩,rfl,rfl⟩ (λvs w=>call15 _ w) (⟨rfl,?_⟩);refine SU (enc:=zD) ?_;intro mb Hm V ae W X;have am:=X.new V;have Y:=f.call am;refine Ad underlying59 rfl _ rfl [B_ b,.map (zY mb)] zX (BF [B_ b,.map (zY mb)] rfl ?_);intro m H4 Z ah a0 a8;have a4:=a8.new Z;have d:=Y.call a4;have b2:=(f.blk 0 rfl).lt;have b3:=(f.blk 1 rfl).lt;have z3:=Ay f.old;have z:=W.agr a4 (show F_ Hm mb by unfold F_;omega);have a9:∀k,B k->k<H4.size:=λk g=>d.up (n k g);have ad:H.size<=E:=zO;have e:¬F_ H mb:=λh=>by unfold F_ at h;omega
 have A:∀p∈Mr E P (.pointer zV) (t_ 0 0 nx),∃e' b l,p=pB e' b l/\b≠mb:=λp hp=>by{rcases J'.1 hp with rfl | hp;{exact⟨_,_,_,rfl,zO⟩};obtain rfl:=Q_.1 hp;exact⟨_,_,_,rfl,zO⟩};refine Ab.mk (UM G I t hw J hz K B H4 m mb v a9 (λh=>e (n mb h)) zO zO (q.up (λ_ h=>h) (d.old.mono n)) a0 ⟨_,z,λa v h=>by cases h⟩ (ht.up (λ_ h=>h) (d.old.mono n))) ?_ ?_;rotate_left
 {rintro y H5 ⟨c,p,w,hx,rfl,F,ab⟩;have j:=Qg d F e A;(conv=>whnf);refine Ae8 (ps:=[]) rfl j λH7 C=>(C_ ((C.blk 0 rfl).cellE rfl) zA (K_ (cs:=t_ c p (bA w)) (FZ (C.blk 1 rfl)) zA ?_));exact⟨C.old,by rw[hx];exact⟨rfl,ab⟩⟩};rintro u H5 ⟨L,hL,F,hu,-⟩;obtain⟨pu,rfl⟩:=hu.ptr;have j:=Qg d F e A;have z5:=F.sz;refine Ad underlying24 rfl _ rfl (Ae 0 0) rfl (M1 j 0 rfl zZ rfl λH7 C j7 n7=>(Bd (cs:=t_ 0 0 nx) C 1 rfl rfl (I_ _) rfl λH8 s8 j8 n8=>(Ae9 (C_ ((s8.blk 0 rfl).cellE rfl) zA (K_ (cs:=t_ 0 0 nx) (FZ (s8.blk 1 rfl)) zA (⟨s8.old,?_⟩))))));rw[hL];refine⟨_,rfl,?_⟩;have h4:H4.size<=H8.size:=zO;have D:∀k,s_ B H4 H5 k->k≠E/\k≠P:=λk g=>by{rcases g with h | h;{have:=n k h;omega};omega};refine hu.up (λk g=>?_) (A_.trans (j7.mono λk g=>(D k g).1) (j8.mono λk g=>(D k g).2));rcases g with h | h;{exact .inl h};exact .inr ⟨zO,zO⟩
end Go.Proofs.YtjbnocjgdmnkoaaGreatDoor
