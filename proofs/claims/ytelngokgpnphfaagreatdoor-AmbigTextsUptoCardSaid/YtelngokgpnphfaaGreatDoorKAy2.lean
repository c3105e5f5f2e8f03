import Derived.Test.YtelngokgpnphfaaGreatDoorKAy1
import Derived.Sort.OwnSortedInts
import Derived.Shelf.Sort.Plain
import Derived.Shelf.Slices.In.SortNone
import Derived.TacticsIn
import Derived.RangeFuncRecord
import Derived.Shelf.Small.Strs
import Derived.Shelf.LaysM
import Derived.Recover
set_option maxHeartbeats 0
open Array renaming replicate -> AoQ, map -> AqG
open BitVec renaming ofInt -> Ap8, twoPow -> AqH
open List renaming replicate -> An8
open Nat renaming reduceMul -> ApH, reducePow -> ApI
set_option maxRecDepth 100000
open Go.Proofs.Tryz
open Go renaming Program -> w_, Value -> v_, TypeId -> x_, Operand -> z_, World -> y_
open Option renaming some -> zY, none -> zV
open Bool renaming true -> zW, false -> zU
open Decidable renaming decide -> zT
set_option linter.unusedVariables false
set_option linter.unusedSimpArgs false
set_option linter.defProp false
namespace Go.Proofs.YtelngokgpnphfaaGreatDoor
variable{P:w_}{B S:Nat->Prop}{H H0:Aa}{K:v_->Prop}{i b c j:Nat}{l cs:List v_}{ps qs:List Pc}{v op m n va z:v_}{e T:x_}{f:FuncId}{x:Int}{o:Oper}{fr:Fr}{a:Act}{Q:Exit->Act->y_->Prop}{w:y_}{N:Act->y_->Prop}{na:Option Addr}{R E' R' V:v_->Aa->Prop}{ds:List Deferred}{E:Fr->v_->Aa->Prop}{vs:Array v_}{X:List (Nat×(Fr->Aa->Prop))}{kr kn:Fr->Aa->Prop}{y Y:Code}{Q':Exit->Fr->Aa->Prop}{t:ByteArray}
def pK{t len e sz:Nat}{k:IntKind}{i:Int}{cs:Array v_}(a:Pr P t len e sz)(d:Gv P e sz)(f:0<=i)(g:i<len)(h:K (.agg (cs.extract (i.toNat*sz) (i.toNat*sz+sz)))):AH P (Instr.index t (.agg cs) (.int k i)) S H K:=by refine AH.mk _ (λw _=>?_) h;cases b:P.info? e with|none=>have:=a.size;simp[b]at this|some c=>have hs:c.size=sz:=by{have:=a.size;simpa [b]using this};simp[Instr.index,asIntOf,run_underlying a.under,f,g,sizeOf,typeInfo,b,hs,dQ d]
def Ag3{x:Nat}(h:x<18446744073709551616):18446744073709551615 ^^^ x=18446744073709551615-x:=by
 have a:(BitVec.ofNat 64 x ^^^ BitVec.allOnes 64).toNat=(~~~(BitVec.ofNat 64 x)).toNat:=by rw[BitVec.xor_allOnes]
 rw[gZ,g',qN,BitVec.toNat_allOnes,uF (by simpa using h),Nat.xor_comm]at a;simpa using a
def Zt{x:Nat}(b:x<18446744073709551616)(k:K (.int .u64 ((18446744073709551615-x:Nat):Int))):AH P (Op.unary .xor (.int .u64 (x:Int))) S H K:=by refine AH.mk _ (λw _=>?_) k;have c:IntKind.u64.max=18446744073709551615:=rfl;have d:IntKind.u64.signed=zU:=rfl;have e:(Ap8 IntKind.u64.bits (18446744073709551615:Int) ^^^ Ap8 IntKind.u64.bits (x:Int)).toNat=18446744073709551615-x:=by{show(Ap8 64 ((18446744073709551615:Nat):Int) ^^^ Ap8 64 (x:Int)).toNat=_;rw[oY,oY,gZ,qN,qN,uF (a:=x) b];exact Ag3 b};have e2:IntKind.wrap .u64 ((18446744073709551615-x:Nat):Int)=((18446744073709551615-x:Nat):Int):=JO ⟨by show(0:Int)<=_;omega,by rw[c];omega⟩;show(pure (Value.int .u64 (IntKind.wrap .u64 ((Ap8 IntKind.u64.bits (if IntKind.u64.signed=zW then(-1:Int)else IntKind.u64.max) ^^^ Ap8 IntKind.u64.bits (x:Int)).toNat:Int))):Sem v_).run P w=_;rw[d,c];simp only[Bool.false_eq_true,if_false];rw[e,e2];rfl
def Us(a:BitVec 256)(i:Nat)(b:i<4):wd (~~~a) i=18446744073709551615-wd a i:=by have c:=a.isLt;unfold wd;rw[g'];match i,b with|0,_=>simp only[ApH,ApI]at*;omega|1,_=>simp only[ApH,ApI]at*;omega|2,_=>simp only[ApH,ApI]at*;omega|3,_=>simp only[ApH,ApI]at*;omega
def nX(a:BitVec 256)(H:Aa):BK prog 120 #[BD a] H (BD (~~~a)):=by have d:∀i,wd a i<18446744073709551616:=λi=>LH a i;refine Ai.of_vc func120 rfl (call120 _) (BI (Ag a) rfl ?_);intro p H1 q l b e;refine Af (BD 0) (Ag 0) rfl rfl ?_;intro r H3 s m f c;replace b:=b.agr c (zO:p<r);refine V' Ct zQ zQ (C_ D6 ((b.cell _).trans rfl) zA (Zt (d _) (V' Ct zQ zQ (C_ D6 ((b.cell _).trans rfl) zA (Zt (d _) (V' Ct zQ zQ (C_ D6 ((b.cell _).trans rfl) zA (Zt (d _) (V' Ct zQ zQ (C_ D6 ((b.cell _).trans rfl) zA (Zt (d _) ?_)))))))))));rw[<-Us a 0 zQ,<-Us a 1 zQ,<-Us a 2 zQ,<-Us a 3 zQ];refine CB Ct (BD 0) rfl (Ag (~~~a)) rfl (Zaa rfl f (zQ:0+4<=4) rfl ?_);intro H4 g h n;refine lN (cs:=Ag (~~~a)) Bn (g.cells (λj v o=>by simpa [Ah,Ag]using o)) ?_;exact⟨rfl,λk t=>by rw[h k zO,c k zO,e k zO]⟩
def AiA(a b:BitVec 256)(H:Aa):BK prog 96 #[BD a,BD b] H (BD (a &&& ~~~b)):=by refine Ai.of_vc func96 rfl (call96 _) (BI (Ag a) rfl ?_);intro p H1 B l m n;have F_:=(St.nil H).box B l m n;refine BI (Ag b) rfl ?_;intro q H2 C o s t;have u:=F_.box C o s t;refine Af (BD 0) (Ag 0) rfl rfl ?_;intro r H3 D w x y;have c:=u.box D w x y;refine Ap.held (H_ H3) 4 (sq [0,1] (.f 2 (.f 3 (.f 4 .e)))) rfl zX ?_;refine L_ (cs:=Ag a) Bn ((c.blk 0 rfl).cells λj v g=>by rw[K_];exact g) (c.blk 0 rfl).lt ?_;refine L_ (cs:=Ag b) Bn ((c.blk 1 rfl).cells λj v g=>by rw[K_];exact g) (c.blk 1 rfl).lt ?_;refine Al (nX b H3) λH4 d=>?_;have z:=c.call d;refine⟨d,?_⟩;refine Al (Xg a (~~~b) H4) λH5 h=>?_;have A:=z.call h;refine⟨d.trans (h.mono λk E=>An d E),?_⟩;refine AI (cs:=Ag (a &&& ~~~b)) A 2 rfl rfl (zQ:0+4<=4) rfl λH6 i=>(L_ (cs:=Ag (a &&& ~~~b)) Bn ((i.blk 2 rfl).cells (λj v g=>by simpa [Ah,Ag]using g)) zA ?_);exact⟨rfl,i.old⟩
def bA(w:List Nat):ByteArray:=⟨(w.map UInt8.ofNat).toArray⟩
def m_(s:ByteArray):List Nat:=s.data.toList.map UInt8.toNat
def OP(s:ByteArray):(m_ s).length=s.size:=by unfold m_;rw[e_];exact sJ
def SJ{s:ByteArray}{b:UInt8}(h:s.data[i]?=zY b):(m_ s)[i]?=zY b.toNat:=by unfold m_;rw[Y',gY,h];rfl
def pH{s:ByteArray}{k:Nat}(h:k<s.size):∃b,s.data[k]?=zY b:=⟨s.data[k]'h,uD h⟩
def Ar{c:List v_}(h:c.length=l.length):Ah l 0 c=c:=by unfold Ah;rw[List.take_zero,List.nil_append,K_,h,List.drop_length,yU]
def sX(x:BitVec 256)(l:List Nat):BitVec 256:=l.foldl (λx b=>x ||| AqH 256 b) x
def kG(s:ByteArray)(hs:s.size<=1048576)(H:Aa):BK prog 150 #[.string s] H (BD (sX 0#256 (m_ s))):=by refine Ai.of_vc func150 rfl (call150 _) (Af (BD 0) (Ag 0) rfl rfl ?_);intro r H1 J q t u;have F_:=(St.nil H).box J q t u;refine Af (BD 0) (Ag 0) rfl rfl ?_;intro p H2 K w y z;have A:=F_.box K w y z;(conv=>whnf);refine A0.mk [7] (λi:Nat=>[A_ i]) (λi H3=>i<=s.size/\St H H3 [pB 108 r (Ag 0),pB 108 p (Ag (sX 0#256 ((m_ s).take i)))]) (λi _=>s.size-i) ?_ ?_;{(conv=>whnf);exact⟨0,rfl,Nat.zero_le _,A⟩};rintro i H3 F ⟨L,d⟩;refine AB.m2 (λh=>?_) (λh=>?_);{have⟨c,B⟩:=pH (s:=s) (k:=i) zO;obtain⟨b,o⟩:∃b,b=c.toNat:=⟨_,rfl⟩;have l:b<256:=by{rw[o];exact UInt8.toNat_lt c};obtain⟨x,G⟩:∃x,x=sX 0#256 ((m_ s).take i):=⟨_,rfl⟩;have m:sX 0#256 ((m_ s).take (i+1))=x ||| AqH 256 b:=by{rw[Ab (SJ B),G,o];unfold sX;rw[List.foldl_append];rfl};rw[<-G]at d;have C:=d.blk 1 rfl;have D:=(d.in_ 1 rfl rfl).2;refine Ap.heldZ (H_ H3) [13] (sq [0,1,2,3,4,5,6,7,8,9,10,11,12] (.f 13 .e)) rfl zX (EJ underlying9 rfl B ?_);rw[<-o];refine oU (b:=6) zQ (V' Ct zO zO ?_);refine C_ D6 (v:=.int .u64 (wd x (b / 64))) (by rw[C.cell,K_,zI];exact VP x b zO) D ?_;refine EJ underlying9 rfl B ?_;rw[<-o];refine Wh (b:=63) (Tu l) (Tu zQ) ?_;have I:2^(b % 64)<2^64:=Nat.pow_lt_pow_right zQ zO;rw[iU];have n:inK .u64 ((1*2^(b % 64):Nat):Int):=hZ zO;refine mT (a:=1) (by simp[IntKind.bits];omega) n ?_;refine rB (Fd x _) n (V' Ct zO zO ?_);refine Bb d 1 D6 rfl (by simp[Ag];omega) rfl λH4 g=>?_;(conv=>whnf);rw[R_ i zO];refine⟨rfl,i+1,zZ,⟨zO,?_⟩,zO⟩;rw[m,<-VQ x b zO];rw[K_,zI,Nat.one_mul]at g;exact g};obtain rfl:i=s.size:=zO;rw[List.take_of_length_le (by rw[OP];exact M_ _)]at d;generalize sX 0#256 (m_ s)=x at*;refine L_ (cs:=Ag x) Bn ((d.blk 1 rfl).cells λj v E=>by rw[K_];exact E) zA ?_;refine AI (cs:=Ag x) d 0 rfl rfl (M_ _) rfl λH4 g=>?_;rw[Ar (show(Ag x).length=(Ag 0).length from rfl)]at g;refine L_ (cs:=Ag x) Bn ((g.blk 0 rfl).cells λj v E=>by rw[K_];exact E) zA ?_;exact⟨rfl,g.old⟩
def Hl(x:BitVec 256)(k:Nat):List v_:=(List.range 256).map λb=>.bool (zT (b<k)&&x.getLsbD b)
def AV(x:BitVec 256):List v_:=Hl x 256
def D0(x:BitVec 256)(k:Nat):(Hl x k).length=256:=by simp[Hl]
def LK(x:BitVec 256)(k:Nat)(h:b<256):(Hl x k)[b]?=zY (.bool (zT (b<k)&&x.getLsbD b)):=by unfold Hl;rw[Y',wJ h];rfl
def IB(x:BitVec 256)(h:b<256):(AV x)[b]?=zY (.bool (x.getLsbD b)):=by unfold AV;rw[LK x 256 h];simp[h]
def AlB(x:BitVec 256){k:Nat}(h:k<256):(Hl x k).set k (.bool (x.getLsbD k))=Hl x (k+1):=by apply yP;intro i;by_cases b:i<256;{rw[LK _ _ b,xV,D0];by_cases a:k=i;{subst a;simp[h]};rw[I_ a,LK _ _ b];have:zT (i<k)=zT (i<k+1):=decide_eq_decide.2 zO;rw[this]};rw[zC (by simp[D0];omega),zC (by simp[D0];omega)]
def tB:Ty (BitVec 256) where
 size:=256
 rep _ _ cs s:=cs=AV s
 len h:=by rw[h];exact D0 _ _
 frame h _:=h
 mono h _:=h
def Bc(x:BitVec 256):(AV x).length=256:=D0 _ _
def IC(x:BitVec 256)(k:Nat):(Hl x k).all (·.oneCell')=zW:=by simp[Hl,Value.oneCell']
def Pq:tB.Ones:=by rintro S H b x rfl u a;exact yC.1 (IC x 256) u a
def Fg(f:Nat->Bool):List v_:=(List.range 256).map λb=>.bool (f b)
def DV(f:Nat->Bool):(Fg f).length=256:=by simp[Fg]
def IJ(f:Nat->Bool)(h:b<256):(Fg f)[b]?=zY (.bool (f b)):=by unfold Fg;rw[Y',wJ h];rfl
def II{f g:Nat->Bool}(h:∀b,b<256->f b=g b):Fg f=Fg g:=by unfold Fg;exact List.map_congr_left λb a=>by rw[h b (yR.1 a)]
def Vh(f:Nat->Bool){k:Nat}(h:k<256):(Fg f).set k (.bool zW)=Fg λb=>zT (b=k)|| f b:=by apply yP;intro i;by_cases c:i<256;{rw[IJ _ c,xV,DV];by_cases a:k=i;{subst a;simp[h]};rw[I_ a,IJ _ c,n_ (Ne.symm a)]<;>rfl};rw[zC (by simp[DV];omega),zC (by simp[DV];omega)]
def N5:Fg (λ_=>zU)=An8 256 (.bool zU):=by unfold Fg;rw[List.map_const',List.length_range]
def tF:Ty (Nat->Bool) where
 size:=256
 rep _ _ cs f:=cs=Fg f
 len h:=by rw[h];exact DV _
 frame h _:=h
 mono h _:=h
def B_.apart2{p:Pc}(e:B_ B H0 H ps){q:Pc}(f:ps[i]?=zY p)(g:ps[j]?=zY q)(d:i≠j):Dis p q:=by have a:=(T_.1 f).1;have b:=(T_.1 g).1;have l:=(T_.1 f).2;have e2:=(T_.1 g).2;intro k m c;rcases Nat.lt_or_gt_of_ne d with h | h;{exact xU.1 e.dis i j a b h k (by rw[l];exact m) (by rw[e2];exact c)};exact xU.1 e.dis j i b a h k (by rw[e2];exact c) (by rw[l];exact m)
abbrev P7{α:Type}(_:α):Prop:=True
def Ir.ofE{kt:x_}{d:TypeDesc}{α:Type}{enc:α->v_}(h:P.underlying kt=zY d)(c:AkV d enc):Ir P kt P7 enc where
 inj:=c.inj
 check w em a _:=Go.MapKept.run_checkKey h (c.isKey a) em 9999
 find w a _ es hes:=by
  have f:∀x∈es,Go.MapKept.IsKey d x.key:=λx k=>by
   obtain⟨b,-,e⟩:=hes x k;rw[e];exact c.isKey b
  rcases Go.MapKept.findNow_spec (c.isKey a) es 0 f with⟨g,i⟩ | ⟨j,e,g,i,l⟩
  ·exact .inl ⟨Go.MapKept.run_findKey h g,i⟩
  ·exact .inr ⟨j,e,by rw[K_]at g;exact Go.MapKept.run_findKey h g,i,l⟩
 stays w a _:=Go.MapKept.run_keyThatStays (c.isKey a)
def yA(e:u_):List v_:=[A_ e.fr,A_ e.to,.bool e.sil,.int .u64 (wd e.set 0),.int .u64 (wd e.set 1),.int .u64 (wd e.set 2),.int .u64 (wd e.set 3)]
def Ym(e:u_):∀(j:Nat) (v:v_),(Ag e.set)[j]?=zY v->(yA e)[3+j]?=zY v:=by intro j v h;rw[(zO:3+j=j+3)];exact h
def u_.Ok(e:u_):Prop:=inK .i64 e.fr/\inK .i64 e.to
def tEd:Ty u_ where
 size:=7
 rep _ _ cs e:=cs=yA e/\e.Ok
 len h:=by rw[h.1];rfl
 frame h _:=h
 mono h _:=h
def KZ(e:u_):(yA e).all (·.oneCell')=zW:=rfl
def DP(e:u_):List v_:=[A_ e.fr,A_ e.to,.bool e.sil]++AV e.set
def Cc(e:u_):(DP e).length=259:=by unfold DP;rw[O_,show(AV e.set).length=256 from D0 _ _];rfl
def DS:Ty u_ where
 size:=259
 rep _ _ cs e:=cs=DP e/\e.Ok
 len h:=by rw[h.1];exact Cc _
 frame h _:=h
 mono h _:=h
def FY(e:u_):(DP e).all (·.oneCell')=zW:=by unfold DP;rw[tS,AV,IC];rfl
def bQ(e:u_)(h:b<256):(DP e)[3+b]?=zY (.bool (e.set.getLsbD b)):=by unfold DP;rw[zL zZ];simpa using IB e.set h
def P_.Rng(a:P_):Prop:=inK .i64 a.st/\inK .i64 a.start/\inK .i64 a.fin
def s_(a:P_)(v:v_):List v_:=[A_ a.st,A_ a.start,A_ a.fin,v]
def sH(S:Nat->Prop)(H:Aa)(v:v_)(a:P_):Prop:=a.Rng/\a.edges.length<=33554432/\∃ea ec,v= .agg (s_ a (.slice ea a.edges.length ec)).toArray/\Y_ tEd S H ea ec a.edges
def qJ(S:Nat->Prop)(H:Aa)(v:v_)(a:P_):Prop:=a.Rng/\a.edges.length<=33554432/\∃ea ec,v= .agg (s_ a (.slice ea a.edges.length ec)).toArray/\Y_ DS S H ea ec a.edges
def LW:(prog.info? 225).bind (·.zero)=zY (.agg #[A_ 0,A_ 0,.bool zU,.int .u64 0,.int .u64 0,.int .u64 0,.int .u64 0]):=rfl
def Gj:(prog.info? 171).bind (·.zero)=zY (.agg #[A_ 0,A_ 0,A_ 0,.slice zV 0 0]):=rfl
def LG:(prog.info? 134).bind (·.zero)=zY (.agg #[A_ 0,A_ 0,A_ 0,.slice zV 0 0]):=rfl
def oL:v_:=Value.agg (([Value.int .i64 0,Value.int .i64 0,Value.bool zU]:List v_)++An8 256 (Value.bool zU)).toArray
def Ah1:List v_:=([Value.int .i64 0,Value.int .i64 0,Value.bool zU]:List v_)++An8 256 (Value.bool zU)
def bS:Ah1.length=259:=by simp[Ah1]
def OV:(prog.info? 189).bind (·.zero)=zY oL:=zX
section
variable{a:P_}{K:v_->Aa->Prop}{t:x_}
def TE(h:sH S H v a)(k:∀c d,v= .agg (s_ a (.slice c a.edges.length d)).toArray->Y_ tEd S H c d a.edges->New H (λb H'=>K (U_ b) H') t (s_ a (.slice c a.edges.length d))):B0 prog (Instr.box t v) H K:=by obtain⟨f,g,c,d,rfl,e⟩:=h;exact BI (s_ a (.slice c a.edges.length d)) rfl (k c d rfl e)
def iA(h:qJ S H v a)(k:∀c d,v= .agg (s_ a (.slice c a.edges.length d)).toArray->Y_ DS S H c d a.edges->New H (λb H'=>K (U_ b) H') t (s_ a (.slice c a.edges.length d))):B0 prog (Instr.box t v) H K:=by obtain⟨f,g,c,d,rfl,e⟩:=h;exact BI (s_ a (.slice c a.edges.length d)) rfl (k c d rfl e)
end
section
variable{a:P_}{pb:Nat}{b:Option Addr}{ec:Nat}{t:x_}
def Lm(d:a.Rng)(e:a.edges.length<=33554432)(f:S_ H pb t (s_ a (.slice b a.edges.length ec)))(c:Gv prog t 4)(g:B pb)(h:Y_ tEd S H b ec a.edges)(k:∀v,sH S H v a->K v):AH prog (Instr.loadAt t (U_ pb)) B H K:=L_ (cs:=s_ a (.slice b a.edges.length ec)) c (f.cells λj v i=>by rw[K_];exact i) g (k _ ⟨d,e,b,ec,rfl,h⟩)
def AiF(d:a.Rng)(e:a.edges.length<=33554432)(f:S_ H pb t (s_ a (.slice b a.edges.length ec)))(c:Gv prog t 4)(g:B pb)(h:Y_ DS S H b ec a.edges)(k:∀v,qJ S H v a->K v):AH prog (Instr.loadAt t (U_ pb)) B H K:=L_ (cs:=s_ a (.slice b a.edges.length ec)) c (f.cells λj v i=>by rw[K_];exact i) g (k _ ⟨d,e,b,ec,rfl,h⟩)
end
def YE{a:P_}{q:Int}(h:sH S H v a):BK prog 143 #[v,A_ q] H (.bool (a.has q)):=by
 refine Ai.of_vc func143 rfl (call143 _) (TE h λl m j n=>?_);subst j;intro p H1 k e b f;have F_:=(St.nil H).box k e b f;by_cases g:0<=q;{
 have c:zT (0<=q)=zW:=r_ g;(conv=>whnf);rw[c];refine fa DN ?_;refine C_ (v:=A_ a.st) E_ (by rw[b.cell];rfl) zA ?_;by_cases i:q<a.st;have d:zT (q<a.st)=zW:=r_ i;(conv=>whnf);rw[d];refine fa DN ?_;refine C_ (v:=A_ a.st) E_ (by rw[b.cell];rfl) zA ?_;rotate_left
 have d:zT (q<a.st)=zU:=n_ i;(conv=>whnf);rw[d];all_goals (conv=>whnf);exact⟨by unfold P_.has;rw[c,d];rfl,F_.old⟩};have c:zT (0<=q)=zU:=n_ g;(conv=>whnf);rw[c];(conv=>whnf);exact⟨by unfold P_.has;rw[c];rfl,F_.old⟩
inductive ReM
 | eps
 | cls (s:BitVec 256)
 | cat (a b:ReM)
 | alt (a b:ReM)
 | star (a:ReM)
 | and_ (a b:ReM)
 | minus (a b:ReM)
def Ax:ReM->v_ | .eps=>.iface 210 (.agg #[])| .cls s=>.iface 239 (BD s)| .cat a b=>.iface 240 (.agg #[Ax a,Ax b])| .alt a b=>.iface 167 (.agg #[Ax a,Ax b])| .star a=>.iface 243 (.agg #[Ax a])| .and_ a b=>.iface 164 (.agg #[Ax a,Ax b])| .minus a b=>.iface 165 (.agg #[Ax a,Ax b])
def K4(r:ReM):∃T v,Ax r= .iface T v:=by cases r<;>exact⟨_,_,rfl⟩
def IN(r:ReM):(Ax r).oneCell'=zW:=by cases r<;>rfl
def ReM.nodes:ReM->Nat | .eps=>1 | .cls _=>1 | .cat a b=>1+a.nodes+b.nodes | .alt a b=>1+a.nodes+b.nodes | .star a=>1+a.nodes | .and_ a b=>1+a.nodes+b.nodes | .minus a b=>1+a.nodes+b.nodes
def ReM.plain:ReM->Bool | .eps=>zW | .cls _=>zW | .cat a b=>a.plain&&b.plain | .alt a b=>a.plain&&b.plain | .star a=>a.plain | .and_ _ _=>zU | .minus _ _=>zU
section
variable{t:x_}{A:x_}{d:TypeDesc}
def GW(a:P.underlying A=zY d)(b:∀c,d≠ .interface c)(k:K (.tuple #[v,.bool zW])):AH P (Instr.typeAssert (.iface A v) t A zW) S H K:=by refine AH.mk _ (λw _=>?_) k;unfold Instr.typeAssert;simp only[Sem.run_bind,run_underlying a,Result.andThen_ok];cases d<;>first | (exact absurd rfl (b _)) | simp
def DI(g:P.underlying A=zY d)(h:∀j,d≠ .interface j)(a:(P.info? A).bind (·.zero)=zY z)(b:T≠A)(k:K (.tuple #[z,.bool zU])):AH P (Instr.typeAssert (.iface T v) t A zW) S H K:=by refine AH.mk _ (λw _=>?_) k;have c:(zeroValue A).run P w= .ok z w:=by{cases e:P.info? A with|none=>rw[e]at a;cases a|some i=>have f:i.zero=zY z:=by{simpa [e]using a};simp[zeroValue,typeInfo,e,f]};unfold Instr.typeAssert;simp only[Sem.run_bind,run_underlying g,Result.andThen_ok];cases d<;>first | (exact absurd rfl (h _)) | simp[b,c]
def JM(f:P.underlying A=zY d)(g:∀h,d≠ .interface h)(a:(P.info? A).bind (·.zero)=zY z)(k:K (.tuple #[z,.bool zU])):AH P (Instr.typeAssert .nilIface t A zW) S H K:=by refine AH.mk _ (λw _=>?_) k;have b:(zeroValue A).run P w= .ok z w:=by{cases c:P.info? A with|none=>rw[c]at a;cases a|some i=>have e:i.zero=zY z:=by{simpa [c]using a};simp[zeroValue,typeInfo,c,e]};unfold Instr.typeAssert;simp only[Sem.run_bind,run_underlying f,Result.andThen_ok];cases d<;>first | (exact absurd rfl (g _)) | simp[b]
end
section
variable{t:x_}{a:Array (String×x_)}
def QC(h:P.underlying t=zY (.interface a))(w:y_):(Op.equal t (.iface T v) .nilIface).run P w= .ok zU w:=by have:∀d:Nat,(Op.equalIn (d+1) t (.iface T v) .nilIface).run P w= .ok zU w:=λd=>by{simp[Op.equalIn,run_underlying h]};exact this 9999
def VN(h:P.underlying t=zY (.interface a))(w:y_):(Op.equal t .nilIface .nilIface).run P w= .ok zW w:=by have:∀d:Nat,(Op.equalIn (d+1) t .nilIface .nilIface).run P w= .ok zW w:=λd=>by{simp[Op.equalIn,run_underlying h]};exact this 9999
end
section
variable{t:x_}{x y:z_}{a:Array (String×x_)}
def lY(h:P.underlying t=zY (.interface a))(k:K (.bool zU)):AH P (do eqGuard .eql t x y (.iface T v) .nilIface;binOp .eql t (.iface T v) .nilIface) S H K:=by refine AH.mk _ (λw _=>?_) k;simp[eqGuard,binOp,QC h]
def YH(h:P.underlying t=zY (.interface a))(k:K (.bool zW)):AH P (do eqGuard .neq t x y (.iface T v) .nilIface;binOp .neq t (.iface T v) .nilIface) S H K:=by refine AH.mk _ (λw _=>?_) k;simp[eqGuard,binOp,QC h]
end
def Tt{t:x_}{x:z_}{a:Array (String×x_)}{c:v_}(h:P.underlying t=zY (.interface a))(k:K (.bool zU)):AH P (do eqGuard .neq t x (.const c) .nilIface .nilIface;binOp .neq t .nilIface .nilIface) S H K:=by refine AH.mk _ (λw _=>?_) k;simp[eqGuard,binOp,VN h]
def Xf(x:v_)(w:y_):(callMethod (.iface 210 x) "Size" #[]).run prog w= .ok (.enter 214 #[x]) w:=zX
def Xe(x:v_)(w:y_):(callMethod (.iface 239 x) "Size" #[]).run prog w= .ok (.enter 216 #[x]) w:=zX
def Xd(x:v_)(w:y_):(callMethod (.iface 240 x) "Size" #[]).run prog w= .ok (.enter 218 #[x]) w:=zX
def Xb(x:v_)(w:y_):(callMethod (.iface 167 x) "Size" #[]).run prog w= .ok (.enter 212 #[x]) w:=zX
def Vs(x:v_)(w:y_):(callMethod (.iface 243 x) "Size" #[]).run prog w= .ok (.enter 220 #[x]) w:=zX
def Xc(x:v_)(w:y_):(callMethod (.iface 164 x) "Size" #[]).run prog w= .ok (.enter 207 #[x]) w:=zX
def T6(x:v_)(w:y_):(callMethod (.iface 165 x) "Size" #[]).run prog w= .ok (.enter 210 #[x]) w:=zX
section
open Go.Sort
structure AbK(P:w_)(f:FuncId):Prop where
 call:∀(args:Array v_) (w:y_),(callFunc f args).run P w= .ok (.enter f args) w
 some_:∀(blk off cap:Nat) (zs:List Int) (w:y_),Holds (Value.int .i64) w blk off zs.toArray->blk<w.heap.size->zs.length<4611686018427387904->
  Calls P f #[.slice (zY ⟨blk,off,zV⟩) zs.length cap] w λe w'=>e= .returned (.tuple #[])/\∃n os,w'=grow (putRow (Value.int .i64) (Sort.ahead w n) blk off (zs.mergeSort λx y=>zT (x<=y)).toArray) os
 none_:∀(p:Option Addr) (cap:Nat) (w:y_),Calls P f #[.slice p 0 cap] w λe w'=>e= .returned (.tuple #[])/\w'=w
def RZ{S:Nat->Prop}{H:Aa}:∀{xs:List Int} {cs:List v_},(E7 .i64).reps S H cs xs->cs=xs.map (Value.int .i64)/\∀x∈xs,inK .i64 x
 | [],_,h=>by cases h;exact⟨rfl,λx b=>by cases b⟩
 | x::xs,_,h=>by
   obtain⟨c,r,rfl,⟨rfl,d⟩,e⟩:=h;obtain⟨rfl,f⟩:=RZ e;refine⟨rfl,λy a=>?_⟩;rcases zM.1 a with rfl | a
   ·exact d
   ·exact f y a
def RG{S:Nat->Prop}{H:Aa}:∀{xs:List Int},(∀x∈xs,inK .i64 x)->(E7 .i64).reps S H (xs.map (Value.int .i64)) xs | [],_=>rfl | x::xs,h=>⟨[A_ x],xs.map (Value.int .i64),rfl,⟨rfl,h x (by simp)⟩,RG λy a=>h y (by simp[a])⟩
def AoT{a:Option Addr}{n cap:Nat}{xs:List Int}{K:v_->Aa->Prop}(C:AbK P f)(p:B_ B H0 H ps)(i:Nat)(q:ps[i]?=zY (pS (E7 .i64) e a n cap xs))(r:xs.length<4611686018427387904)(k:∀H',B_ B H0 H' (ps.set i (pS (E7 .i64) e a n cap (xs.mergeSort λx y=>zT (x<=y))))->K (.tuple #[]) H'):Ae P f #[.slice a n cap] H K:=by obtain⟨s,-⟩:=p.at_ i q;obtain⟨T,⟨N,d⟩,h⟩:=s;obtain⟨rfl,t⟩:=RZ h;refine⟨λw O=>⟨C.call _ w,?_⟩⟩;subst O;rcases d with⟨D,E⟩ | ⟨b,c,l,D,-,F,G,I,m,u⟩;{injection D with e1 e2 e3;subst e1;subst e2;subst e3;obtain rfl:=List.eq_nil_of_length_eq_zero E;refine(C.none_ zV 0 w).mono ?_;rintro _ _ ⟨rfl,rfl⟩;exact⟨_,rfl,l_.refl _,k _ (by rw[show([]:List Int).mergeSort (λx y=>zT (x<=y))=[] by simp];exact p.say i q _ (p.at_ i q) (λk o=>o))⟩};injection D with e1 e2 e3;subst e1;subst e2;subst e3;rw[show xs.length*(E7 .i64).size=xs.length from zI _]at u;rw[show cap*(E7 .i64).size=cap from zI _]at m;have J:=(vM.1 F).1;have v:(xs.mergeSort λx y=>zT (x<=y)).length=xs.length:=List.length_mergeSort _;have Q:Holds (Value.int .i64) w b 0 xs.toArray:=holds_of_blockI (e:=e) (cur:=l.toArray) F (by simpa using u);refine(C.some_ b 0 cap xs w Q J r).mono ?_;rintro _ U ⟨rfl,n,os,rfl⟩;have L:=heap_sortedI (n:=n) (os:=os) (xs.mergeSort λx y=>zT (x<=y)).toArray F;obtain⟨-,-,-,z,A⟩:=grownBy_sortedI (w:=w) (g:=b) (n:=n) (os:=os) (xs.mergeSort λx y=>zT (x<=y)).toArray;refine⟨_,rfl,⟨rfl,rfl,rfl⟩,k _ (p.upd i q (λj M=>A j M.1 λe=>?_) _ ⟨⟨_,⟨?_,.inr ⟨b,cap,(putCells (Value.int .i64) 0 (xs.mergeSort λx y=>zT (x<=y)).toArray l.toArray).toList,?_,Nat.zero_le _,?_,zO,I,?_,?_⟩⟩,RG λx R=>t x (List.mem_mergeSort.1 R)⟩,λk o=>o.elim⟩ (λk o=>.inl o) (λk o=>?_) z)⟩;{cases e;exact M.2 (.inl ⟨0,_,_,rfl⟩)};{rw[e_];exact(zI _).symm};{rw[v]};{show _=_;rw[L]};{rw[sJ];unfold putCells;rw[Array.size_mapIdx];simp only[uE,m];exact(zI _).symm};{rw[show(xs.mergeSort λx y=>zT (x<=y)).length*(E7 .i64).size=(xs.mergeSort λx y=>zT (x<=y)).length from zI _];exact take_putCellsI l.toArray _ (by rw[v];simpa [m]using G)};have S:=(p.in_ i q o).2;exact wV S z
end
def AfH:Go.Shelf.Ren:=⟨fun | 189=>134 | 125=>148 | 257=>147 | 128=>163 | 129=>164 | 294=>154 | 295=>155 | 296=>156 | 297=>157 | 298=>158 | 299=>159 | 216=>160 | 300=>161 | 301=>162 | 328=>170 | 329=>171 | 330=>172 | 331=>173 | 332=>174 | 215=>175 | 343=>182 | n=>n,fun | 28=>39 | 3=>3 | 46=>162 | 0=>0 | 51=>286 | 53=>106 | 4=>4 | 183=>279 | 182=>278 | 131=>153 | 5=>5 | 9=>9 | 218=>292 | 222=>296 | 228=>305 | 229=>191 | n=>n,fun | n=>n⟩
def YK:Go.Proofs.Lays.n189 prog AfH:={
 mixed:=zX
 f125:=func148.trans (congrArg zY zX)
 f128:=func163.trans (congrArg zY zX)
 f129:=func164.trans (congrArg zY zX)
 f189:=func134.trans (congrArg zY zX)
 f215:=func175.trans (congrArg zY zX)
 f216:=func160.trans (congrArg zY zX)
 f257:=func147.trans (congrArg zY zX)
 f294:=func154.trans (congrArg zY zX)
 f295:=func155.trans (congrArg zY zX)
 f296:=func156.trans (congrArg zY zX)
 f297:=func157.trans (congrArg zY zX)
 f298:=func158.trans (congrArg zY zX)
 f299:=func159.trans (congrArg zY zX)
 f300:=func161.trans (congrArg zY zX)
 f301:=func162.trans (congrArg zY zX)
 f328:=func170.trans (congrArg zY zX)
 f329:=func171.trans (congrArg zY zX)
 f330:=func172.trans (congrArg zY zX)
 f331:=func173.trans (congrArg zY zX)
 f332:=func174.trans (congrArg zY zX)
 f343:=func182.trans (congrArg zY zX)
 t0:=underlying0
 a0:=isAgg0
 z0:=sizeOf0
 v0:=zeroValue0
 t3:=underlying3
 a3:=isAgg3
 z3:=sizeOf3
 v3:=zeroValue3
 t4:=underlying4
 a4:=isAgg4
 z4:=sizeOf4
 v4:=zeroValue4
 t5:=underlying5
 a5:=isAgg5
 z5:=sizeOf5
 v5:=zeroValue5
 t9:=underlying9
 a9:=isAgg9
 z9:=sizeOf9
 v9:=zeroValue9
 t28:=underlying39
 a28:=isAgg39
 z28:=sizeOf39
 v28:=zeroValue39
 t46:=underlying162
 a46:=isAgg162
 z46:=sizeOf162
 v46:=zeroValue162
 t51:=underlying286
 a51:=isAgg286
 z51:=sizeOf286
 v51:=zeroValue286
 t53:=underlying106
 a53:=isAgg106
 z53:=sizeOf106
 v53:=zeroValue106
 t131:=underlying153
 a131:=isAgg153
 z131:=sizeOf153
 v131:=zeroValue153
 t182:=underlying278
 a182:=isAgg278
 z182:=sizeOf278
 v182:=zeroValue278
 t183:=underlying279
 a183:=isAgg279
 z183:=sizeOf279
 v183:=zeroValue279
 t218:=underlying292
 a218:=isAgg292
 z218:=sizeOf292
 v218:=zeroValue292
 t222:=underlying296
 a222:=isAgg296
 z222:=sizeOf296
 v222:=zeroValue296
 t228:=underlying305
 a228:=isAgg305
 z228:=sizeOf305
 v228:=zeroValue305
 t229:=underlying191
 a229:=isAgg191
 z229:=sizeOf191
 v229:=zeroValue191}
def AmO:AbK prog 134 where
 call:=call134
 some_:=λblk b cap d w e a c=>Any.slices_Sort_int YK blk b cap d w e a c
 none_:=λp cap w=>Any.slices_Sort_int_none YK p cap w
def FW(ro:Option Nat):Fence:={Fence.wide with round:=ro}
def Vv(ds:List Nat):List Deferred:=ds.map λD=>{target:=.collected D,args:= #[]}
structure AtD(ds:List Nat)(fr:Fr)(a:Act):Prop where
 tmps:a.tmps.toList=fr
 defers:a.defers=Vv ds
structure Al2(P:w_)(l:Nat)(args:Array v_)(H:Aa)(K:v_->Aa->Prop):Prop where
 in_::
 out_:∀w:y_,w.heap=H->∃f tmps assign body,(Instr.yield l args).run P w= .ok (.round l f tmps assign body) w/\RoundIn (FW zV) 0 P l f tmps assign body w λe w'=>∃v,e= .returned v/\l_ w w'/\K v w'.heap
def yK(P:w_)(o:Oper)(fr:Fr)(H:Aa)(K:v_->Aa->Prop):Prop:=match o.op with
 | .call {callee:=.value f,args, .. }=>zH fr f λg=>match g with
   | .func (.yield l) first cap=>Jl fr args.toList λvs=>Al2 P l (first.toList++vs).toArray H K
   | _=>wR P zU (λ_=>True) o fr H K
 | .defer _=>False
 | _=>wR P zU (λ_=>True) o fr H K
def Ap5(P:w_)(o:Oper)(want:Bool)(t:Nat)(fr:Fr)(H:Aa)(K:Fr->Aa->Prop):Prop:=yJ fr t λv=>match v with
  | .bool b=>AB b
    (xL fr t (.bool zW) λfr1=>match want with
     | true=>yK P o fr1 H λv H'=>Di o.dst fr1 v λfr'=>xY K fr' H'
     | false=>Di o.dst fr1 undef λfr'=>xY K fr' H)
    (xL fr t (.bool zU) λfr1=>match want with
     | false=>yK P o fr1 H λv H'=>Di o.dst fr1 v λfr'=>xY K fr' H'
     | true=>Di o.dst fr1 undef λfr'=>xY K fr' H)
  | .tuple _=>Di o.dst fr undef λfr'=>xY K fr' H
  | _=>False
abbrev KD:=Fr->List Nat->Aa->Prop
def AjW(w0:y_)(Q:Exit->Fr->List Nat->Aa->Prop):Exit->Act->y_->Prop | .panic _,_,_=>False | .outgrown,_,_=>False | e,a,w=>∃fr ds,AtD ds fr a/\l_ w0 w/\Q e fr ds w.heap
def jN(X:List (Nat×KD))(id:Nat)(fr:Fr)(ds:List Nat)(H:Aa):Prop:=match X with
 | []=>False
 | (j,k)::X=>match Nat.beq j id with
   | true=>k fr ds H
   | false=>jN X id fr ds H
def QxD(kn:KD)(X:List (Nat×KD))(kr:KD)(e:Exit)(fr:Fr)(ds:List Nat)(H:Aa):Prop:=match e with
 | .normal=>kn fr ds H
 | .exit id=>jN X id fr ds H
 | .ret=>kr fr ds H
 | _=>False
structure VLoopD(P:w_)(ro:Option Nat)(c:Code)(fr:Fr)(ds:List Nat)(H:Aa)(X:List (Nat×KD))(kr:KD):Prop where
 in_::
 out_:∀(n:Nat) (a:Act) (w:y_),AtD ds fr a->w.heap=H->(Code.loop c).wpIn (FW ro) n P (AjW w (QxD (λ_ _ _=>False) X kr)) a w
structure VRF(P:w_)(g:z_)(ps:Array Tmp)(assign body:Code)(fr:Fr)(ds:List Nat)(H:Aa)(kn:KD)(X:List (Nat×KD))(kr:KD):Prop where
 in_::
 out_:∀(n:Nat) (a:Act) (w:y_),AtD ds fr a->w.heap=H->(Code.rangeFunc g ps assign body).wpIn (FW zV) n P (AjW w (QxD kn X kr)) a w
section
variable(P:w_)(ro:Option Nat)(a b:Code)(fr:Fr)(ds:List Nat)(H:Aa)(kn:KD)(X:List (Nat×KD))(kr:KD)
end
structure VRet(P:w_)(rs:List ResultVar)(R:v_->Aa->Prop)(fr:Fr)(ds:List Nat)(H:Aa):Prop where
 in_::
 nd:ds.Nodup
 open_:∀D∈ds,H[D]?=zY (.deferred (zY []))
 res:∀H',D_ (λk=>k∉ds) H H'->H'.size=H.size->Ro P rs fr H' R
def B_.perm(a:B_ B H0 H ps)(h:ps.Perm qs):B_ B H0 H qs:=⟨a.old,a.lt0,a.size,λp b=>a.oks p (h.mem_iff.2 b),λp b=>a.rng p (h.mem_iff.2 b),(h.pairwise_iff fun{x y} c k e d=>c k d e).1 a.dis⟩
def B_.sub(a:B_ B H0 H ps)(h:qs.Sublist ps):B_ B H0 H qs:=⟨a.old,a.lt0,a.size,λp b=>a.oks p (h.subset b),λp b=>a.rng p (h.subset b),a.dis.sublist h⟩
def B_.pickN(b:B_ B H0 H ps)(n:Nat)(is:List Nat)(f:is.Nodup):B_ B H0 H ((is.filterMap λi=>(ps.take n)[i]?)++ps.drop n):=by have e:=List.take_append_drop n ps;rw[<-e]at b;generalize ps.take n=qs at*;generalize ps.drop n=o at*;have⟨p,g,h⟩:=tC.1 b.dis;have F_:B_ B H0 H qs:=b.sub (List.sublist_append_left _ _);have c:=F_.pick is f;have j:∀q,q∈is.filterMap (λi=>qs[i]?)->q∈qs:=λq a=>by{obtain⟨i,-,l⟩:=List.mem_filterMap.1 a;exact d_ l};refine⟨b.old,b.lt0,b.size,λq a=>?_,λq a k d=>?_,tC.2 ⟨c.dis,g,λq a r m=>h q (j q a) r m⟩⟩;{rcases k_.1 a with a | a;{exact c.oks q a};exact b.oks q (k_.2 (.inr a))};rcases k_.1 a with a | a;{exact c.rng q a k d};exact b.rng q (k_.2 (.inr a)) k d
abbrev kI:Int->v_:=Value.int .i64
def YJ:Ir prog 3 (P7 (α:=Int)) kI:=Ir.ofE underlying3 (kA .i64)
def YL:Hg prog 247 3 3 (.int .i64 0):=⟨rfl,rfl⟩
abbrev Dom(mm:Int->Option v_):Int->Prop:=λq=>(mm q).isSome=zW
abbrev a_:Ty Int:=E7 .i64
def HC:∀(n:Nat) (l:List Int),l.Nodup->(∀x∈l,0<=x/\x<(n:Int))->l.length<=n
 | 0,l,_,h=>by
   cases l with
   | nil=>exact M_ _
   | cons x l=>have:=h x xI;omega
 | n+1,l,hd,h=>by
   have c:=HC n (l.filter λx=>zT (x<(n:Int))) (hd.filter _) (λx a=>by
    have⟨c,d⟩:=List.mem_filter.1 a;exact⟨(h x c).1,by simpa using d⟩)
   have d:l.length<=(l.filter λx=>zT (x<(n:Int))).length+1:=by
    clear c
    induction l with
    | nil=>simp
    | cons x l f=>
      rw[List.nodup_cons]at hd;by_cases a:x<(n:Int)
      ·rw[wY (by simpa using a)];have:=f hd.2 (λy b=>h y (yH _ b));simp only[b_];omega
      ·rw[vN (by simpa using a)];have g:x=(n:Int):=by have:=h x xI;omega
       have:l.filter (λx=>zT (x<(n:Int)))=l:=List.filter_eq_self.2 λy b=>by
        have i:=h y (yH _ b);have:y≠x:=λe=>hd.1 (e ▸ b);rw[z'];omega
       rw[this];simp
   omega
def Hw(h:0<=x/\x<65536):inK .i64 x:=⟨by simp[IntKind.min,IntKind.signed,IntKind.bits];omega,by simp[IntKind.max,IntKind.signed,IntKind.bits];omega⟩
def X5{d:List Int}(h:d.Nodup):(d.mergeSort λx y=>zT (x<=y)).Pairwise (·<·):=by have e:(d.mergeSort λx y=>zT (x<=y)).Pairwise (·<=·):=(List.pairwise_mergeSort (λa b c e f=>by simp only[z']at*;omega) (λa b=>by simp only[vU,z'];omega) _).imp λh=>of_decide_eq_true h;have f:(d.mergeSort λx y=>zT (x<=y)).Nodup:=(List.mergeSort_perm _ _).nodup_iff.2 h;exact(e.and f).imp λ⟨g,i⟩=>zO
def o_:ReM->Nat | .eps=>2 | .cls _=>2 | .cat a b=>o_ a+o_ b | .alt a b=>o_ a+o_ b+2 | .star a=>o_ a+2 | .and_ _ _=>0 | .minus _ _=>0
def AK(p q:Nat):u_:=⟨p,q,zW,0#256⟩
def C3(p q:Nat)(s:BitVec 256):u_:=⟨p,q,zU,s⟩
def Bj:ReM->Nat->Nat×Nat×List u_ | .eps,n=>(n,n+1,[AK n (n+1)])| .cls s,n=>(n,n+1,[C3 n (n+1) s])| .cat a b,n=>((Bj a n).1,(Bj b (n+o_ a)).2.1,(Bj a n).2.2++(Bj b (n+o_ a)).2.2++[AK (Bj a n).2.1 (Bj b (n+o_ a)).1])| .alt a b,n=>(n,n+1+o_ a+o_ b,(Bj a (n+1)).2.2++(Bj b (n+1+o_ a)).2.2++ [AK n (Bj a (n+1)).1,AK n (Bj b (n+1+o_ a)).1,AK (Bj a (n+1)).2.1 (n+1+o_ a+o_ b),AK (Bj b (n+1+o_ a)).2.1 (n+1+o_ a+o_ b)])| .star a,n=>(n,n+1+o_ a,(Bj a (n+1)).2.2++[AK n (Bj a (n+1)).1,AK n (n+1+o_ a),AK (Bj a (n+1)).2.1 (Bj a (n+1)).1,AK (Bj a (n+1)).2.1 (n+1+o_ a)])| .and_ _ _,n=>(n,n,[])| .minus _ _,n=>(n,n,[])
def Kc:∀(r:ReM),r.plain=zW->∀n,(Bj r n).2.2.length+1<=2*o_ r
 | .eps,_,n=>by simp[Bj,o_]
 | .cls _,_,n=>by simp[Bj,o_]
 | .cat a b,h,n=>by
   simp only[ReM.plain,X']at h;have c:=Kc a h.1 n;have d:=Kc b h.2 (n+o_ a);simp only[Bj,o_,O_,b_,i_];omega
 | .alt a b,h,n=>by
   simp only[ReM.plain,X']at h;have c:=Kc a h.1 (n+1);have d:=Kc b h.2 (n+1+o_ a);simp only[Bj,o_,O_,b_,i_];omega
 | .star a,h,n=>by
   have c:=Kc a h (n+1);simp only[Bj,o_,O_,b_,i_];omega
 | .and_ _ _,h,_=>by cases h
 | .minus _ _,h,_=>by cases h
def EK:∀(r:ReM),r.plain=zW->∀n,n<=(Bj r n).1/\(Bj r n).1<n+o_ r/\n<=(Bj r n).2.1/\(Bj r n).2.1<n+o_ r
 | .eps,_,n=>by simp only[Bj,o_];omega
 | .cls _,_,n=>by simp only[Bj,o_];omega
 | .cat a b,h,n=>by
   simp only[ReM.plain,X']at h;have c:=EK a h.1 n;have d:=EK b h.2 (n+o_ a);simp only[Bj,o_];omega
 | .alt a b,h,n=>by simp only[Bj,o_];omega
 | .star a,h,n=>by simp only[Bj,o_];omega
 | .and_ _ _,h,_=>by cases h
 | .minus _ _,h,_=>by cases h
abbrev vK:x_:=215
def Sg(p q:Nat)(k:K (.agg (yA (AK p q)).toArray)):AH prog (Instr.build 225 [(0,A_ p),(1,A_ q),(2,.bool zW)].toArray) S H K:=by have e:yA (AK p q)=[A_ p,A_ q,.bool zW,.int .u64 0,.int .u64 0,.int .u64 0,.int .u64 0]:=by{have h:∀i,wd 0#256 i=0:=λi=>by{unfold wd;simp};simp[yA,AK,h]};rw[e]at k;exact Au underlying225 rfl _ LW _ zX k
def Af7(x y:Int)(w0 a b c:v_)(d:w0.oneCell'=zW)(e:a.oneCell'=zW)(f:b.oneCell'=zW)(g:c.oneCell'=zW)(k:K (.agg [A_ x,A_ y,.bool zU,w0,a,b,c].toArray)):AH prog (Instr.build 225 [(0,A_ x),(1,A_ y),(3,.agg [w0,a,b,c].toArray)].toArray) S H K:=Au underlying225 rfl _ LW [A_ x,A_ y,.bool zU,w0,a,b,c] zX k
def Se(p q:Nat)(s:BitVec 256)(k:K (.agg (yA (C3 p q s)).toArray)):AH prog (Instr.build 225 [(0,A_ p),(1,A_ q),(3,.agg (Ag s).toArray)].toArray) S H K:=by unfold C3 yA at k;unfold Ag;exact Af7 _ _ _ _ _ _ rfl rfl rfl rfl k
def Ln:(prog.info? 210).bind (·.zero)=zY (.agg #[]):=rfl
def Lo:(prog.info? 239).bind (·.zero)=zY (.agg #[.int .u64 0,.int .u64 0,.int .u64 0,.int .u64 0]):=rfl
def MQ:(prog.info? 240).bind (·.zero)=zY (.agg #[.nilIface,.nilIface]):=rfl
def Ph:(prog.info? 167).bind (·.zero)=zY (.agg #[.nilIface,.nilIface]):=rfl
def TG:(prog.info? 243).bind (·.zero)=zY (.agg #[.nilIface]):=rfl
def Wk(all:List Oper)(o:Oper)(fr:Fr)(yes no:Fr->Prop):Prop:=match o.guard with
 | none=>yes fr
 | some (j,want)=>match(all[j]?).bind (·.dst)with
   | none=>False
   | some t=>yJ fr t λv=>match v with
     | .bool b=>AB b
       (xL fr t (.bool zW) λfr1=>match want with
        | true=>yes fr1
        | false=>no fr1)
       (xL fr t (.bool zU) λfr1=>match want with
        | false=>yes fr1
        | true=>no fr1)
     | .tuple _=>no fr
     | _=>False
def O8{all:List Oper}{d no:Fr->Prop}(e:At fr a)(h:Wk all o fr d no):(Region.wanted o (yielded all.toArray a.tmps)=zW/\d fr)\/(Region.wanted o (yielded all.toArray a.tmps)=zU/\no fr):=by unfold Wk at h;split at h;{rename_i c;exact .inl ⟨by simp[Region.wanted,c],h⟩};rename_i j f c;split at h;{exact h.elim};rename_i t k;rw[E6]at h;split at h;{rename_i b g;have i:=JQ e k g;have hs:fr.set t (.bool b)=fr:=EZ g (by simp[undef]);cases b<;>cases f<;>simp only[AB,GE,hs]at h;{exact .inl ⟨by simp[Region.wanted,c,i],h⟩};{exact .inr ⟨by simp[Region.wanted,c,i],h⟩};{exact .inr ⟨by simp[Region.wanted,c,i],h⟩};exact .inl ⟨by simp[Region.wanted,c,i],h⟩};{rename_i vs g;exact .inr ⟨by simp[Region.wanted,c,JR e k g],h⟩};exact h.elim
def VW(o:Oper)(H:Aa)(K:Fr->Aa->Prop)(fr:Fr):Prop:=Di o.dst fr undef λfr'=>xY K fr' H
def Xu(P:w_)(S:Nat->Prop)(o:Oper)(H:Aa)(K:Fr->Aa->Prop)(fr:Fr):Prop:=match On o&&HX P o with
 | true=>Rg P S o fr H λv=>Di o.dst fr v λfr'=>xY K fr' H
 | false=>False
def eF(P:w_)(S:Nat->Prop)(z:Bool)(H0:Aa)(o:Oper)(H:Aa)(K:Fr->Aa->Prop)(fr:Fr):Prop:=match z with
 | true=>wR P zU (λ_=>True) o fr H λv H'=>Di o.dst fr v λfr'=>xY K fr' H'
 | false=>wR P zU (λ_=>True) o fr H λv H'=>D_ S H0 H'/\Di o.dst fr v λfr'=>xY K fr' H'
def O7(P:w_)(S:Nat->Prop)(Z:List Nat)(H0:Aa)(all:List Oper)(i:Nat)(fr:Fr)(H:Aa)(next:Fr->Aa->Prop):Prop:=match all[i]? with
 | none=>False
 | some o=>Wk all o fr (eF P S (Z.contains i) H0 o H next) (VW o H next)
def Fc{Z:List Nat}{w0:y_}{all:List Oper}{next:Fr->Aa->Prop}(d:At fr a) (m:l_ w0 w) (n:Z.contains i=zU->xQ w0 S w) (h:O7 P S Z w0.heap all i fr w.heap next)(p:∀f a' e,At f a'->l_ w0 e->(Z.contains i=zU->xQ w0 S e)->next f e.heap->N a' e):wpOp P all.toArray Q i N a w:=by
 unfold O7 at h;split at h;{exact h.elim};rename_i o q;have g:all.toArray[i]?=zY o:=by simpa using q
 rcases O8 d h with⟨b,h⟩ | ⟨b,h⟩;{unfold wpOp;rw[g];dsimp only;rw[J_ b];unfold eF at h;split at h;{rename_i r;refine .inl (Oper.wp_mono ?_ (DA d h _));rintro a' e ⟨v,rfl,c,j⟩;rw[Cx]at j;exact p _ _ _ (d.put o.dst v) (m.trans c) (λk=>by rw[r]at k;cases k) j};refine .inl (Oper.wp_mono ?_ (DA d h _));rintro a' e ⟨v,rfl,c,l,j⟩;rw[Cx]at j;exact p _ _ _ (d.put o.dst v) (m.trans c) (λ_=>⟨m.trans c,l⟩) j};unfold wpOp;rw[g];dsimp only;rw[I_ (by rw[b];exact Bool.false_ne_true)];unfold VW at h;rw[Cx]at h;exact p _ _ _ (d.put o.dst undef) m n h
def kM(a:P_)(q:Int)(e:u_):Bool:=a.has e.fr&&a.has e.to&&zT (e.fr=q)
def outE(a:P_)(q:Int):List u_:=a.edges.filter (kM a q)
structure FromV(B:Nat->Prop)(H0:Aa)(mb:Nat)(a:P_):Prop where
 ex:∃m,HM P7 kI H0 mb m/\∀q,∃ad cap,EG m q= .slice ad (outE a q).length cap/\Y_ tEd B H0 ad cap (outE a q)
 at_:B mb
structure StlR(a:P_)(X:PS)(q:Int)(Y:PS):Prop where
 sub:∀p,X p->Y p
 own:Y q
 new:∀p,Y p->X p\/AbJ a q p
 shut:∀p,Y p->¬X p->∀e∈a.edges,e.sil=zW->e.fr=p->a.has e.to=zW->Y e.to
open Classical in
noncomputable def mss(X:PS):Nat:=(CV λp=>¬X p).length
def jS{p q:Int->Bool}:∀(l:List Int),(∀x,p x=zW->q x=zW)->(l.filter p).length<=(l.filter q).length | [],_=>M_ _ | x::l,h=>by have c:=jS l h;cases a:p x with
   | true=>rw[wY a,wY (h x a),b_,b_];omega
   | false=>
     rw[vN (by rw[a];decide)];cases b:q x with
     | true=>rw[wY b,b_];omega
     | false=>rw[vN (by rw[b];decide)];exact c
def jT{p q:Int->Bool}{y:Int}:∀(l:List Int),(∀x,p x=zW->q x=zW)->y∈l->p y=zU->q y=zW->(l.filter p).length<(l.filter q).length
 | [],_,hy,_,_=>by cases hy
 | x::l,h,hy,h1,h2=>by
   have le:=jS l h;by_cases a:x=y
   ·subst a;rw[vN (by rw[h1];decide),wY h2,b_];omega
   ·have b:y∈l:=by
     rcases zM.1 hy with e | e
     ·exact absurd e.symm a
     ·exact e
    have f:=jT l h b h1 h2;cases c:p x with
    | true=>rw[wY c,wY (h x c),b_,b_];omega
    | false=>
      rw[vN (by rw[c];decide)];cases d:q x with
      | true=>rw[wY d,b_];omega
      | false=>rw[vN (by rw[d];decide)];exact f
def AmA{X Y:PS}{q:Int}(h:∀p,X p->Y p)(d:0<=q)(e:q<65536)(a:¬X q)(c:Y q):mss Y<mss X:=by unfold mss CV;refine jT (y:=q) _ (λp b=>?_) (List.mem_map.2 ⟨q.toNat,yR.2 zO,zO⟩) ?_ ?_;{simp only[z']at b ⊢;exact λa=>b (h p a)};{simp[c]};simp[a]
def GP{a:Int->Option v_}{q:Int}(p:Int):Dom (put a q (zY v)) p↔Dom a p\/p=q:=by unfold Dom;by_cases h:p=q;{subst h;rw[D8];simp};rw[GA h];simp[h]
structure GthR(a:P_)(L out:List Int):Prop where
 nd:out.Nodup
 sub:∀q∈L,q∈out
 cl:∀q∈out,clS a (·∈L) q
def nW:ReM->x_ | .eps=>210 | .cls _=>239 | .cat _ _=>240 | .alt _ _=>167 | .star _=>243 | .and_ _ _=>164 | .minus _ _=>165
def GI:ReM->v_ | .eps=>.agg #[]| .cls s=>BD s | .cat a b=>.agg #[Ax a,Ax b]| .alt a b=>.agg #[Ax a,Ax b]| .star a=>.agg #[Ax a]| .and_ a b=>.agg #[Ax a,Ax b]| .minus a b=>.agg #[Ax a,Ax b]
def Ql(r:ReM):Ax r= .iface (nW r) (GI r):=by cases r<;>rfl
def IX:ReM->FuncId | .eps=>214 | .cls _=>216 | .cat _ _=>218 | .alt _ _=>212 | .star _=>220 | .and_ _ _=>207 | .minus _ _=>210
def HJ(r:ReM)(w:y_):(callMethod (.iface (nW r) (GI r)) "Size" #[]).run prog w= .ok (.enter (IX r) #[GI r]) w:=by cases r with|eps=>exact Xf _ w|cls=>exact Xe _ w|cat=>exact Xd _ w|alt=>exact Xb _ w|star=>exact Vs _ w|and_=>exact Xc _ w|minus=>exact T6 _ w
def JK(r:ReM)(H:Aa):BK prog 208 #[Ax r] H (.iface (nW r) (GI r)):=by rw[Ql];refine Ai.of_vc func208 rfl (call208 _) (lY underlying24 ?_);(conv=>whnf);exact⟨rfl,D_.refl _ _⟩
def iL:∀(r:ReM),r.nodes<=1000000000->∀(H:Aa),BK prog (IX r) #[GI r] H (.int .i64 (r.nodes:Int)):=λr=>by
 induction r with
 | eps=>
   intro y H;refine Ai.of_vc func214 rfl (call214 _) (BI [] rfl ?_);intro x H1 w l c m;have F_:=(St.nil H).box w l c m;(conv=>whnf);exact⟨rfl,F_.old⟩
 | cls s=>
   intro y H;refine Ai.of_vc func216 rfl (call216 _) (BI (Ag s) rfl ?_);intro x H1 w l c m;have F_:=(St.nil H).box w l c m;(conv=>whnf);exact⟨rfl,F_.old⟩
 | cat a b o q=>
   intro y H;simp only[ReM.nodes]at y;refine Ai.of_vc func218 rfl (call218 _) (BI [Ax a,Ax b] rfl ?_);intro x H1 w l c m;have F_:=(St.nil H).box w l c m;have n:=c.lt;refine Ap.heldZ (H_ H1) [] (sq [0,1,5,6] (.f 2 (.f 3 (sq [4] (.f 7 (.f 8 (sq [9] (.f 10 .e)))))))) rfl zX (fa Y1 ?_);refine C_ (v:=Ax a) F0 (by rw[c.cell];rfl) n ?_;refine fa Tc ?_;refine C_ (v:=Ax b) F0 (by rw[c.cell];rfl) n ?_;refine Al (JK a H1) λH2 d=>(⟨d,?_⟩);refine L0.mk (IX a) #[GI a] (HJ a) (o zO H2) ?_;rintro _ H3 ⟨rfl,p⟩;have g:=d.trans (p.mono λk h=>An d h);refine⟨g,?_⟩;(conv=>whnf);rw[W_ (x:=1+(a.nodes:Int)) zO];refine Al (JK b H3) λH4 t=>?_;have i:=g.trans (t.mono λk h=>An g h);refine⟨i,?_⟩;refine L0.mk (IX b) #[GI b] (HJ b) (q zO H4) ?_;rintro _ H5 ⟨rfl,u⟩;have j:=i.trans (u.mono λk h=>An i h);refine⟨j,?_⟩;(conv=>whnf);rw[W_ (x:=1+(a.nodes:Int)+(b.nodes:Int)) zO];refine⟨j,?_⟩;(conv=>whnf);exact⟨by simp only[ReM.nodes];simp,F_.old.trans (j.mono λk h=>F_.up h)⟩
 | alt a b o q=>
   intro y H;simp only[ReM.nodes]at y;refine Ai.of_vc func212 rfl (call212 _) (BI [Ax a,Ax b] rfl ?_);intro x H1 w l c m;have F_:=(St.nil H).box w l c m;have n:=c.lt;refine Ap.heldZ (H_ H1) [] (sq [0,1,5,6] (.f 2 (.f 3 (sq [4] (.f 7 (.f 8 (sq [9] (.f 10 .e)))))))) rfl zX (fa Yy ?_);refine C_ (v:=Ax a) F0 (by rw[c.cell];rfl) n ?_;refine fa SY ?_;refine C_ (v:=Ax b) F0 (by rw[c.cell];rfl) n ?_;refine Al (JK a H1) λH2 d=>(⟨d,?_⟩);refine L0.mk (IX a) #[GI a] (HJ a) (o zO H2) ?_;rintro _ H3 ⟨rfl,p⟩;have g:=d.trans (p.mono λk h=>An d h);refine⟨g,?_⟩;(conv=>whnf);rw[W_ (x:=1+(a.nodes:Int)) zO];refine Al (JK b H3) λH4 t=>?_;have i:=g.trans (t.mono λk h=>An g h);refine⟨i,?_⟩;refine L0.mk (IX b) #[GI b] (HJ b) (q zO H4) ?_;rintro _ H5 ⟨rfl,u⟩;have j:=i.trans (u.mono λk h=>An i h);refine⟨j,?_⟩;(conv=>whnf);rw[W_ (x:=1+(a.nodes:Int)+(b.nodes:Int)) zO];refine⟨j,?_⟩;(conv=>whnf);exact⟨by simp only[ReM.nodes];simp,F_.old.trans (j.mono λk h=>F_.up h)⟩
 | star a o=>
   intro y H;simp only[ReM.nodes]at y;refine Ai.of_vc func220 rfl (call220 _) (BI [Ax a] rfl ?_);intro x H1 w l c m;have F_:=(St.nil H).box w l c m;refine fa Y2 ?_;refine C_ (v:=Ax a) F0 (by rw[c.cell];rfl) zA ?_;refine Al (JK a H1) λH2 d=>?_;have z:=F_.call d;refine L0.mk (IX a) #[GI a] (HJ a) (o zO H2) ?_;rintro _ H3 ⟨rfl,p⟩;have A:=z.call p;(conv=>whnf);rw[W_ (x:=1+(a.nodes:Int)) zO];(conv=>whnf);exact⟨by simp only[ReM.nodes];simp,A.old⟩
 | and_ a b o q=>
   intro y H;simp only[ReM.nodes]at y;refine Ai.of_vc func207 rfl (call207 _) (BI [Ax a,Ax b] rfl ?_);intro x H1 w l c m;have F_:=(St.nil H).box w l c m;have n:=c.lt;refine Ap.heldZ (H_ H1) [] (sq [0,1,5,6] (.f 2 (.f 3 (sq [4] (.f 7 (.f 8 (sq [9] (.f 10 .e)))))))) rfl zX (fa Yu ?_);refine C_ (v:=Ax a) F0 (by rw[c.cell];rfl) n ?_;refine fa Yv ?_;refine C_ (v:=Ax b) F0 (by rw[c.cell];rfl) n ?_;refine Al (JK a H1) λH2 d=>(⟨d,?_⟩);refine L0.mk (IX a) #[GI a] (HJ a) (o zO H2) ?_;rintro _ H3 ⟨rfl,p⟩;have g:=d.trans (p.mono λk h=>An d h);refine⟨g,?_⟩;(conv=>whnf);rw[W_ (x:=1+(a.nodes:Int)) zO];refine Al (JK b H3) λH4 t=>?_;have i:=g.trans (t.mono λk h=>An g h);refine⟨i,?_⟩;refine L0.mk (IX b) #[GI b] (HJ b) (q zO H4) ?_;rintro _ H5 ⟨rfl,u⟩;have j:=i.trans (u.mono λk h=>An i h);refine⟨j,?_⟩;(conv=>whnf);rw[W_ (x:=1+(a.nodes:Int)+(b.nodes:Int)) zO];refine⟨j,?_⟩;(conv=>whnf);exact⟨by simp only[ReM.nodes];simp,F_.old.trans (j.mono λk h=>F_.up h)⟩
 | minus a b o q=>
   intro y H;simp only[ReM.nodes]at y;refine Ai.of_vc func210 rfl (call210 _) (BI [Ax a,Ax b] rfl ?_);intro x H1 w l c m;have F_:=(St.nil H).box w l c m;have n:=c.lt;refine Ap.heldZ (H_ H1) [] (sq [0,1,5,6] (.f 2 (.f 3 (sq [4] (.f 7 (.f 8 (sq [9] (.f 10 .e)))))))) rfl zX (fa Yw ?_);refine C_ (v:=Ax a) F0 (by rw[c.cell];rfl) n ?_;refine fa Yx ?_;refine C_ (v:=Ax b) F0 (by rw[c.cell];rfl) n ?_;refine Al (JK a H1) λH2 d=>(⟨d,?_⟩);refine L0.mk (IX a) #[GI a] (HJ a) (o zO H2) ?_;rintro _ H3 ⟨rfl,p⟩;have g:=d.trans (p.mono λk h=>An d h);refine⟨g,?_⟩;(conv=>whnf);rw[W_ (x:=1+(a.nodes:Int)) zO];refine Al (JK b H3) λH4 t=>?_;have i:=g.trans (t.mono λk h=>An g h);refine⟨i,?_⟩;refine L0.mk (IX b) #[GI b] (HJ b) (q zO H4) ?_;rintro _ H5 ⟨rfl,u⟩;have j:=i.trans (u.mono λk h=>An i h);refine⟨j,?_⟩;(conv=>whnf);rw[W_ (x:=1+(a.nodes:Int)+(b.nodes:Int)) zO];refine⟨j,?_⟩;(conv=>whnf);exact⟨by simp only[ReM.nodes];simp,F_.old.trans (j.mono λk h=>F_.up h)⟩
def qX:(prog.info? 215).bind (·.zero)=zY (.agg #[A_ 0,A_ 0,A_ 0,.slice zV 0 0,.nilFunc,A_ 0]):=rfl
structure h_ where
 op:Int
 set:BitVec 256
 l:Int
 r:Int
 m:Int
 n:Int
def Bw(op:v_)(bits:List v_)(a b m n:v_):List v_:=[op]++(bits++[a,b,m,n])
def j_(d:h_):List v_:=Bw (.int .i64 d.op) (AV d.set) (.int .i64 d.l) (.int .i64 d.r) (.int .i64 d.m) (.int .i64 d.n)
def AS(d:h_):(j_ d).length=261:=by unfold j_ Bw;simp[Bc]
def Fv(d:h_):(j_ d)[0]?=zY (.int .i64 d.op):=rfl
def JC(d:h_):(j_ d)[257]?=zY (.int .i64 d.l):=by unfold j_ Bw;rw[zL zZ,zL (by simp[Bc])];simp[Bc]
def VH(d:h_):(j_ d)[258]?=zY (.int .i64 d.r):=by unfold j_ Bw;rw[zL zZ,zL (by simp[Bc])];simp[Bc]
def TZ(d:h_):∀(j:Nat) (v:v_),(AV d.set)[j]?=zY v->(j_ d)[1+j]?=zY v:=by
 intro j v h;have a:j<256:=by have:=(T_.1 h).1;rwa [Bc]at this
 unfold j_ Bw;rw[zL zZ,yB (by rw[Bc];simp;omega)];simpa using h
def h_.Ok(d:h_):Prop:=inK .i64 d.op/\inK .i64 d.l/\inK .i64 d.r/\inK .i64 d.m/\inK .i64 d.n
def wD:Ty h_ where
 size:=261
 rep _ _ cs d:=cs=j_ d/\d.Ok
 len h:=by rw[h.1];exact AS _
 frame h _:=h
 mono h _:=h
def D3(d:h_):(j_ d).all (·.oneCell')=zW:=by unfold j_ Bw;rw[tS,tS,AV,IC];rfl
def rnZ:List v_:=Bw (.int .i64 0) (An8 256 (.bool zU)) (.int .i64 0) (.int .i64 0) (.int .i64 0) (.int .i64 0)
def Cq:rnZ.length=261:=by simp[rnZ,Bw]
def OJ:(prog.info? 77).bind (·.zero)=zY (.agg rnZ.toArray):=zX
def Je:AV 0#256=An8 256 (.bool zU):=by apply yP;intro i;by_cases a:i<256;{rw[IB _ a,List.getElem?_replicate,J_ a];simp};rw[zC (by rw[Bc];omega),zC (by simp;omega)]
def mC{a b:v_}:Ah (Bw op l a b m n) 0 [v]=Bw v l a b m n:=rfl
def AmK{a b:v_}(h:l.length=256)(c:cs.length=256):Ah (Bw op l a b m n) 1 cs=Bw op cs a b m n:=by unfold Ah Bw;rw[show([op]++(l++[a,b,m,n])).take 1=[op]from rfl,c,(zO:1+256=256+1),show([op]++(l++[a,b,m,n])).drop (256+1)=(l++[a,b,m,n]).drop 256 from rfl,List.drop_left' h,zS]
def pX{a a' b:v_}(h:l.length=256):Ah (Bw op l a b m n) 257 [a']=Bw op l a' b m n:=by unfold Ah Bw;have c:([op]++(l++[a,b,m,n])).take 257=[op]++l:=by{rw[show([op]++(l++[a,b,m,n])).take (256+1)=op::(l++[a,b,m,n]).take 256 from rfl,List.take_left' h];rfl};have e2:([op]++(l++[a,b,m,n])).drop (257+1)=[b,m,n]:=by{rw[show([op]++(l++[a,b,m,n])).drop (257+1)=(l++[a,b,m,n]).drop 257 from rfl,show(257:Nat)=l.length+1 by omega,rG];rfl};rw[c,show 257+[a'].length=257+1 from rfl,e2];simp
def kV{a b:v_}(h:l.length=256):Ah (Bw op l a b m n) 258 [v]=Bw op l a v m n:=by unfold Ah Bw;have c:([op]++(l++[a,b,m,n])).take 258=[op]++(l++[a]):=by{rw[show([op]++(l++[a,b,m,n])).take (257+1)=op::(l++[a,b,m,n]).take 257 from rfl,show(257:Nat)=l.length+1 by omega,List.take_length_add_append];rfl};have e2:([op]++(l++[a,b,m,n])).drop (258+1)=[m,n]:=by{rw[show([op]++(l++[a,b,m,n])).drop (258+1)=(l++[a,b,m,n]).drop 258 from rfl,show(258:Nat)=l.length+2 by omega,rG];rfl};rw[c,show 258+[v].length=258+1 from rfl,e2];simp
def Fa{a b:v_}(h:l.length=256):(Bw op l a b m n).length=261:=by unfold Bw;simp[h]
def NJ(x:Int)(s:BitVec 256)(k:K (.agg (j_ ⟨x,s,0,0,0,0⟩).toArray)):AH prog (Instr.build 77 [(0,A_ x),(1,.agg (AV s).toArray)].toArray) S H K:=by refine Au underlying77 rfl (.agg rnZ.toArray) OJ (j_ ⟨x,s,0,0,0,0⟩) ?_ k;have a:(An8 256 (Value.bool zU)).length=256:=sL;refine(BQ (i:=0) (off:=0) (size:=1) zX rfl (by show _<=rnZ.toArray.size;rw[uE,Cq];decide)).trans ?_;have c:Ah (Value.agg rnZ.toArray).cells.toList 0 (Value.int .i64 x).cells.toList=Bw (.int .i64 x) (An8 256 (.bool zU)) (.int .i64 0) (.int .i64 0) (.int .i64 0) (.int .i64 0):=mC;rw[c];have b:(Value.agg (AV s).toArray).cells=(AV s).toArray:=rfl;refine(BQ (i:=1) (off:=1) (size:=256) zX (by rw[b,uE,Bc]) (by rw[uE,Fa a];decide)).trans ?_;rw[b,vE,vE,AmK a (Bc s)];rfl
def Sb(x y z:Int)(k:K (.agg (j_ ⟨x,0#256,y,z,0,0⟩).toArray)):AH prog (Instr.build 77 [(0,A_ x),(2,A_ y),(3,A_ z)].toArray) S H K:=by refine Au underlying77 rfl (.agg rnZ.toArray) OJ (j_ ⟨x,0#256,y,z,0,0⟩) ?_ k;have a:(An8 256 (Value.bool zU)).length=256:=sL;refine(BQ (i:=0) (off:=0) (size:=1) zX rfl (by show _<=rnZ.toArray.size;rw[uE,Cq];decide)).trans ?_;have b:Ah (Value.agg rnZ.toArray).cells.toList 0 (Value.int .i64 x).cells.toList=Bw (.int .i64 x) (An8 256 (.bool zU)) (.int .i64 0) (.int .i64 0) (.int .i64 0) (.int .i64 0):=mC;rw[b];refine(BQ (i:=2) (off:=257) (size:=1) zX rfl (by rw[uE,Fa a];decide)).trans ?_;rw[vE,show(Value.int IntKind.i64 y).cells.toList=[Value.int .i64 y]from rfl,pX a];refine(BQ (i:=3) (off:=258) (size:=1) zX rfl (by rw[uE,Fa a];decide)).trans ?_;rw[vE,show(Value.int IntKind.i64 z).cells.toList=[Value.int .i64 z]from rfl,kV a];unfold j_;rw[show(h_.mk x 0#256 y z 0 0).set=0#256 from rfl,Je];rfl
def AO(ns:List h_):ReM->Nat->Prop | .eps,i=>∃d,ns[i]?=zY d/\d.op=0 | .cls s,i=>∃d,ns[i]?=zY d/\d.op=1/\d.set=s | .cat a b,i=>∃d j k:_,ns[i]?=zY d/\d.op=2/\d.l=((j:Nat):Int)/\d.r=((k:Nat):Int)/\AO ns a j/\AO ns b k | .alt a b,i=>∃d j k:_,ns[i]?=zY d/\d.op=3/\d.l=((j:Nat):Int)/\d.r=((k:Nat):Int)/\AO ns a j/\AO ns b k | .star a,i=>∃d j:_,ns[i]?=zY d/\d.op=4/\d.l=((j:Nat):Int)/\AO ns a j | .and_ a b,i=>∃d j k:_,ns[i]?=zY d/\d.op=5/\d.l=((j:Nat):Int)/\d.r=((k:Nat):Int)/\AO ns a j/\AO ns b k | .minus a b,i=>∃d j k:_,ns[i]?=zY d/\d.op=6/\d.l=((j:Nat):Int)/\d.r=((k:Nat):Int)/\AO ns a j/\AO ns b k
def mN:ReM->Int | .eps=>0 | .cls _=>1 | .cat _ _=>2 | .alt _ _=>3 | .star _=>4 | .and_ _ _=>5 | .minus _ _=>6
def IK{α:Type}{l m:List α}{x:α}(h:l[i]?=zY x):(l++m)[i]?=zY x:=by rw[yB (T_.1 h).1];exact h
variable{ns:List h_}
def AO.more{c:List h_}:∀{r:ReM} {i:Nat},AO ns r i->AO (ns++c) r i | .eps,_,⟨d,h1,h2⟩=>⟨d,IK h1,h2⟩ | .cls _,_,⟨d,h1,h2⟩=>⟨d,IK h1,h2⟩ | .cat a b,_,⟨d,j,k,h1,h2,h3,h4,h5,h6⟩=>⟨d,j,k,IK h1,h2,h3,h4,h5.more,h6.more⟩ | .alt a b,_,⟨d,j,k,h1,h2,h3,h4,h5,h6⟩=>⟨d,j,k,IK h1,h2,h3,h4,h5.more,h6.more⟩ | .star a,_,⟨d,j,h1,h2,h3,h5⟩=>⟨d,j,IK h1,h2,h3,h5.more⟩ | .and_ a b,_,⟨d,j,k,h1,h2,h3,h4,h5,h6⟩=>⟨d,j,k,IK h1,h2,h3,h4,h5.more,h6.more⟩ | .minus a b,_,⟨d,j,k,h1,h2,h3,h4,h5,h6⟩=>⟨d,j,k,IK h1,h2,h3,h4,h5.more,h6.more⟩
def zR(v:v_)(Ao:Int):List v_:=[v,A_ Ao]
def ReV(S:Nat->Prop)(H:Aa)(v:v_)(ns:List h_)(Ao:Int):Prop:=ns.length<=4194304/\∃na nc,v= .agg (zR (.slice na ns.length nc) Ao).toArray/\Y_ wD S H na nc ns
def ReV.frame{H':Aa}{Ao:Int}(h:ReV S H v ns Ao)(k:D_ S H H'):ReV S H' v ns Ao:=by have⟨a,na,nc,b,c⟩:=h;exact⟨a,na,nc,b,c.frame k⟩
def ReV.mono{S':Nat->Prop}{Ao:Int}(h:ReV S H v ns Ao)(k:∀i,S i->S' i):ReV S' H v ns Ao:=by have⟨a,na,nc,b,c⟩:=h;exact⟨a,na,nc,b,c.mono k⟩
def iI{Ao:Int}{K:v_->Aa->Prop}{t:x_}(h:ReV S H v ns Ao)(k:∀na nc,v= .agg (zR (.slice na ns.length nc) Ao).toArray->Y_ wD S H na nc ns->New H (λb H'=>K (U_ b) H') t (zR (.slice na ns.length nc) Ao)):B0 prog (Instr.box t v) H K:=by obtain⟨c,na,nc,rfl,a⟩:=h;exact BI (zR (.slice na ns.length nc) Ao) rfl (k na nc rfl a)
def DO{Ao:Int}{pb:Nat}{nc:Nat}{t:x_}(b:ns.length<=4194304)(c:S_ H pb t (zR (.slice na ns.length nc) Ao))(a:Gv prog t 2)(d:B pb)(e:Y_ wD S H na nc ns)(k:∀v,ReV S H v ns Ao->K v):AH prog (Instr.loadAt t (U_ pb)) B H K:=L_ (cs:=zR (.slice na ns.length nc) Ao) a (c.cells λj v f=>by rw[K_];exact f) d (k _ ⟨b,na,nc,rfl,e⟩)
variable{r:ReM}
def AO.hd0(h:AO ns r i):∃d,ns[i]?=zY d/\d.op=mN r:=by cases r with|eps=>exact h|cls t=>obtain⟨d,h,c,-⟩:=h;exact⟨d,h,c⟩|star a=>obtain⟨d,j,h,c,-⟩:=h;exact⟨d,h,c⟩|_ a b=>obtain⟨d,j,k,h,c,-⟩:=h;exact⟨d,h,c⟩
def iK{d d':h_}(h:ns[i]?=zY d)(a:ns[i]?=zY d'):d=d':=Option.some.inj (h.symm.trans a)
def Aj2:∀(N:Nat) (r:ReM),r.nodes<=N->r.nodes<=1000000000->∀{S:Nat->Prop} {H:Aa} {v:v_} {ns:List h_} {Ao:Int} {i:Nat},(∀k,S k->k<H.size)->ReV S H v ns Ao->AO ns r i->
  BK prog 55 #[v,A_ i] H (.int .i64 (r.nodes:Int)):=by
 intro N
 induction N with
 | zero=>intro r h;cases r<;>simp[ReM.nodes]at h
 | succ N F=>
 intro r Y Z S H v ns Ao i t hv G;have⟨d,I,u⟩:=G.hd0;obtain⟨J,na,nc,rfl,E⟩:=hv;refine Ai.of_vc func55 rfl (call55 _) (BI (zR (.slice na ns.length nc) Ao) rfl ?_);intro p H1 hp K L M;have F_:=(St.nil H).box hp K L M;refine fa E2 ?_;refine lT (v:=.slice na ns.length nc) FB ((F_.blk 0 rfl).ce rfl) ?_;refine U' (i:=i) HP (E.frame (F_.old.mono t)) I rfl ?_;rintro b2 o2 c2 a0 O ⟨rfl,a1⟩;refine L_ (cs:=j_ d) (by rw[AS];exact Rd) O zA ?_;refine Af _ rnZ OJ rfl ?_;intro x H3 hx P Q R;have T:=F_.box hx P Q R;refine AI (cs:=j_ d) T 1 (by rw[AS];rfl) rfl (by rw[AS,Cq];decide) (D3 d) λH4 c=>?_;rw[Ar (show(j_ d).length=rnZ.length by rw[AS,Cq])]at c;have g:=c.blk 1 rfl;have n:=c.blk 0 rfl;have B:=g.lt;have C:=n.lt;refine fa Dq ?_;refine C_ (v:=A_ d.op) E_ (by rw[g.cell];exact Fv d) zA ?_;(conv=>whnf);rw[u];cases r with
 | eps=>
   (conv=>whnf);exact⟨rfl,c.old⟩
 | cls s=>
   (conv=>whnf);exact⟨rfl,c.old⟩
 | star a=>
   simp only[ReM.nodes]at Z Y;obtain⟨d',j,w,-,y,z⟩:=G;obtain rfl:=iK I w;refine fa Dq ?_;refine C_ (v:=A_ d.op) E_ (by rw[g.cell];exact Fv d) zA ?_;(conv=>whnf);rw[u];refine DO J n Dv zA (E.frame (c.old.mono t)) λv5 A=>(fa Db ?_);refine C_ (v:=A_ d.l) E_ (by rw[g.cell,K_];exact JC d) zA ?_;(conv=>whnf);rw[y];refine Al (F a zO zO (λk o=>c.up (t k o)) A z) λH5 m=>?_;have q:=c.call m;(conv=>whnf);rw[W_ (x:=1+(a.nodes:Int)) zO];(conv=>whnf);exact⟨by simp only[ReM.nodes];simp,q.old⟩
 | _ a b=>
   simp only[ReM.nodes]at Z Y;obtain⟨d',j,k,w,-,y,U,z,V⟩:=G;obtain rfl:=iK I w;refine fa Dq ?_;refine C_ (v:=A_ d.op) E_ (by rw[g.cell];exact Fv d) zA ?_;(conv=>whnf);rw[u];refine Ap.heldZ (H_ H4) [] (sq [0,1,2,5,6,7] (.f 3 (sq [4] (.f 8 (sq [9] (.f 10 .e)))))) rfl zX (DO J n Dv C (E.frame (c.old.mono t)) λv5 A=>(fa Db ?_));refine C_ (v:=A_ d.l) E_ (by rw[g.cell,K_];exact JC d) B ?_;(conv=>whnf);rw[y];refine DO J n Dv C (E.frame (c.old.mono t)) λv6 W=>(fa Jt ?_);refine C_ (v:=A_ d.r) E_ (by rw[g.cell,K_];exact VH d) B ?_;(conv=>whnf);rw[U];refine Al (F a zO zO (λk o=>c.up (t k o)) A z) λH5 m=>?_;have q:=c.call m;refine⟨m,?_⟩;(conv=>whnf);rw[W_ (x:=1+(a.nodes:Int)) zO];refine Al (F b zO zO (λk o=>q.up (t k o)) (W.frame (m.mono λk o=>c.up (t k o))) V) λH6 D=>?_;have X:=q.call D;have g6:D_ (H_ H4) H4 H6:=m.trans (D.mono λk o=>An m o);refine⟨g6,?_⟩;(conv=>whnf);rw[W_ (x:=1+(a.nodes:Int)+(b.nodes:Int)) zO];refine⟨g6,?_⟩;(conv=>whnf);exact⟨by simp only[ReM.nodes];simp,X.old⟩
def Aj3(r:ReM):r.nodes<=1000000000->∀{S:Nat->Prop} {H:Aa} {v:v_} {ns:List h_} {Ao:Int} {i:Nat},(∀k,S k->k<H.size)->ReV S H v ns Ao->AO ns r i->BK prog 55 #[v,A_ i] H (.int .i64 (r.nodes:Int)):=Aj2 _ r (M_ _)
section
open Go.Shelf Go.Proofs
def Vq:Go.Shelf.Ren:=⟨fun | 137=>169 | 217=>181 | 266=>187 | n=>n,fun | 9=>9 | 5=>5 | 3=>3 | n=>n,fun | n=>n⟩
def AhZ:Go.Proofs.Lays.n137 prog Vq:={
 mixed:=zX
 f137:=func169.trans (congrArg zY zX)
 f217:=func181.trans (congrArg zY zX)
 f266:=func187.trans (congrArg zY zX)
 t3:=underlying3
 a3:=isAgg3
 z3:=sizeOf3
 v3:=zeroValue3
 t5:=underlying5
 a5:=isAgg5
 z5:=sizeOf5
 v5:=zeroValue5
 t9:=underlying9
 a9:=isAgg9
 z9:=sizeOf9
 v9:=zeroValue9}
open Go.RowKit in
theorem strings_IndexByte(s:ByteArray)(c:Int)(w:y_):
  Calls prog 169 #[.string s,.int .u8 c] w λe a=>e= .returned (.int .i64 (Lib.indexByte s.data.toList c.toNat.toUInt8))/\a=w:=Any.strings_IndexByte AhZ s c w
open Go.Lib in
theorem Tv(s:ByteArray)(c:Nat)(H:Aa):BK prog 169 #[.string s,.int .u8 (c:Int)] H (.int .i64 (indexByte s.data.toList (UInt8.ofNat c))):=by intro w a;refine⟨call169 _ w,?_⟩;refine(strings_IndexByte s (c:Int) w).mono ?_;rintro _ _ ⟨rfl,rfl⟩;exact⟨_,rfl,l_.refl _,rfl,by subst a;exact D_.refl _ _⟩
end
open Go.Lib
def wT(s:ByteArray)(c:Nat):Bool:=zT (0<=indexByte s.data.toList (UInt8.ofNat c))
def Ad0:List v_:=[.int .u8 110,.int .u8 10,.int .u8 114,.int .u8 13,.int .u8 116,.int .u8 9]
def I6(H:Aa):Prop:=Bi H 0 0 Ad0/\0<H.size
def AnW:(prog.info? 303).bind (·.zero)=zY (.agg #[.int .u8 0,.int .u8 0]):=zX
def Aj9{s:ByteArray}:(zT (indexByte s.data.toList (UInt8.ofNat c)>=0))=wT s c:=rfl
def SQ(i:Nat):Nat×Nat:=match i with
 | 0=>(110,10)
 | 1=>(114,13)
 | _=>(116,9)
section
variable{s:ByteArray}
def AmP(h:s.data.toList[i]?=zY (UInt8.ofNat c)):wT s c=zW:=by unfold wT;rw[z'];have a:=indexByte_ge s.data.toList (UInt8.ofNat c);apply Classical.byContradiction;intro b;exact absurd h (indexByte_none zO i)
def Aj8(h:∀i:Nat,s.data.toList[i]? ≠zY (UInt8.ofNat c)):wT s c=zU:=by unfold wT;rw[qT];intro a;have⟨o,b⟩:=xR a;exact h o (indexByte_some b).1
def pI(hs:s.size<=1048576)(q:c<256):BK prog 104 #[.string s,.int .u8 (c:Int)] H (.bool (wT s c)):=by
 refine Ai.of_vc func104 rfl (call104 _) ?_;have o:s.data.toList.length=s.size:=rfl;(conv=>whnf);refine A0.mk [5] (λi:Nat=>[A_ i]) (λi H1=>i<=s.size/\(∀j,j<i->s.data.toList[j]? ≠zY (UInt8.ofNat c))/\St H H1 []) (λi _=>s.size-i) ?_ ?_
 ·(conv=>whnf);exact⟨0,rfl,zO,λj a=>zO,St.nil H⟩
 ·rintro i H1 d ⟨r,b,F_⟩;refine AB.m2 (λp=>?_) (λp=>?_)
  ·have⟨x,f⟩:=Ac (l:=s.data.toList) (k:=i) zO;have g:s.data[i]?=zY x:=by rw[<-gY];exact f
   refine EJ underlying9 rfl g ?_;by_cases h:x.toNat=c
   ·have m:((x.toNat:Int)==(c:Int))=zW:=by rw[h];exact beq_self_eq_true _
    have n:x=UInt8.ofNat c:=by rw[<-h];simp
    rw[AmP (i:=i) (by rw[<-n];exact f)];(conv=>whnf);rw[m];(conv=>whnf);exact⟨rfl,F_.old⟩
   ·have m:((x.toNat:Int)==(c:Int))=zU:=beq_eq_false_iff_ne.2 zO;(conv=>whnf);rw[m];(conv=>whnf);rw[R_ i zO];refine⟨rfl,i+1,zZ,⟨zO,λj a=>?_,F_⟩,zO⟩;rcases fF (fG a)with a | rfl
    ·exact b j a
    ·rw[f];intro e;injection e with e
     apply h;rw[e,UInt8.toNat_ofNat'];omega
  ·obtain rfl:i=s.size:=zO
   (conv=>whnf);rw[Aj8 λj=>by
    by_cases a:j<s.size
    ·exact b j a
    ·rw[zC zO];exact λe=>by cases e]
   exact⟨rfl,F_.old⟩
end
def Fy:ByteArray:=⟨#[40,41,91,93,123,125,124,38,45,42,43,63,46,92,47,94]⟩
def Hu:ByteArray:=⟨#[92,93,91,45,94,47]⟩
def dS(b:c<256):BK prog 77 #[.int .u8 (c:Int)] H (.bool (wT Fy c)):=by refine Ai.of_vc func77 rfl (call77 _) (Al (pI (s:=Fy) zQ b) λH1 a=>?_);(conv=>whnf);exact⟨rfl,a⟩
def AhV(b:c<256):BK prog 76 #[.int .u8 (c:Int)] H (.bool (wT Hu c)):=by refine Ai.of_vc func76 rfl (call76 _) (Al (pI (s:=Hu) zQ b) λH1 a=>?_);(conv=>whnf);exact⟨rfl,a⟩
abbrev pe(x:v_):List PanicEntry:=[{v:=x,recovered:=zU}]
def XM(R E:v_->Aa->Prop):Ending->Aa->Prop | .returned v,H=>R v H | .panicked c,H=>∃x,c=pe x/\E x H | .outgrown,_=>False
def XM.mono{E:v_->Aa->Prop}{e:Ending}(h:XM R E e H)(a:∀v H,R v H->R' v H)(b:∀v H,E v H->E' v H):XM R' E' e H:=by cases e with|returned v=>exact a v H h|panicked c=>have⟨x,d,f⟩:=h;exact⟨x,d,b x H f⟩|outgrown=>exact h
def Cf(P:w_)(f:FuncId)(args:Array v_)(H:Aa)(R E:v_->Aa->Prop):Prop:=∀w:y_,w.heap=H->(callFunc f args).run P w= .ok (.enter f args) w/\Calls P f args w λe w'=>l_ w w'/\XM R E e w'.heap
section
variable{a:Array v_}{E:v_->Aa->Prop}
def Cf.mono(h:Cf P f a H R E)(c:∀v H,R v H->R' v H)(d:∀v H,E v H->E' v H):Cf P f a H R' E':=λw b=>
 ⟨(h w b).1,(h w b).2.mono λe j ⟨g,i⟩=>⟨g,i.mono c d⟩⟩
def Ai.pan(h:Ai P f a H R):Cf P f a H R E:=λw b=>
 ⟨(h w b).1,(h w b).2.mono λe i ⟨v,c,d,g⟩=>by subst c;exact⟨d,g⟩⟩
end
structure As(P:w_)(f:FuncId)(args:Array v_)(H:Aa)(K E:v_->Aa->Prop):Prop where
 in_::
 out_:Cf P f args H K E
section
variable{a:Array v_}{K E:v_->Aa->Prop}
def As.mk(h:Cf P f a H R E')(k:∀v H',R v H'->K v H')(e:∀v H',E' v H'->E v H'):As P f a H K E:=⟨h.mono k e⟩
def As.of(h:Ae P f a H K):As P f a H K E:=⟨h.out_.pan⟩
end
structure AtX(ds:List Deferred)(fr:Fr)(a:Act):Prop where
 tmps:a.tmps.toList=fr
 defers:a.defers=ds
def AtX.at_(h:AtX [] fr a):At fr a:=⟨h.tmps,h.defers⟩
def AtX.bare(h:AtX ds fr a):At fr {tmps:=a.tmps,defers:=[]}:=⟨h.tmps,rfl⟩
def AtX.evalF(h:AtX ds fr a):a.eval=yI fr:=by rw[<-h.bare.evalF];funext x;cases x<;>rfl
def AtX.put(h:AtX ds fr a)(b:Option Tmp)(v:v_):AtX ds (match b with | none=>fr | some d=>fr.set d v) (a.put b v):=by obtain⟨rfl,c⟩:=h;cases b with|none=>exact⟨rfl,c⟩|some d=>exact⟨by simp[Act.put],c⟩
def oQ{b:Option Tmp}{c:v_}(h:({tmps:=a.tmps,defers:=[]}:Act).put b v=({tmps:=a.tmps,defers:=[]}:Act).put b c):a.put b v=a.put b c:=by cases b with|none=>rfl|some d=>have:=congrArg Act.tmps h;simp only[Act.put]at this ⊢;rw[this]
def nP(P:w_)(o:Oper)(a:Act)(w:y_)(K E:v_->Aa->Prop):Prop:=∀Q:Exit->Act->y_->Prop,(∀x w',l_ w w'->E x w'.heap->Q (.panic (pe x)) a w')->o.wp P a w (λa' w'=>∃v,a'=a.put o.dst v/\l_ w w'/\K v w'.heap) Q
def AmD{K E:v_->Aa->Prop}(h:Ws P o {tmps:=a.tmps,defers:=[]} w K):nP P o a w K E:=by
 intro Q _;have b:=h (λe _ w=>Q e a w);unfold Oper.wp at b ⊢;have p:({tmps:=a.tmps,defers:=[]}:Act).eval=a.eval:=by funext x;cases x<;>rfl
 rw[p]at b;revert b;generalize (execOp a.eval o).run P w=r;intro b;cases r with|ok q t=>{cases q with|value v=>have⟨j,e,g,i⟩:=b;exact⟨j,oQ e,g,i⟩|skip=>have⟨j,e,g,i⟩:=b;exact⟨j,oQ e,g,i⟩|defer d=>have⟨j,e,g,i⟩:=b;have:=congrArg Act.defers e;cases k:o.dst<;>rw[k]at this<;>simp[Act.put]at this|enter f l=>{refine Calls.mono b ?_;intro e m g;cases e with|returned v=>have⟨j,e,i,n⟩:=g;exact⟨j,oQ e,i,n⟩|panicked c=>exact g|outgrown=>obtain⟨_,w,i⟩:=g;exact⟨a,w,i⟩}|row row l=>refine Rows.mono b ?_;intro v m g;have⟨j,e,i,n⟩:=g;exact⟨j,oQ e,i,n⟩|_=>exact b.elim}|halt s t=>{cases s<;>first | exact b | exact b.elim}
def jL(P:w_)(f:v_)(args:List v_)(H:Aa)(K E:v_->Aa->Prop):Prop:=match f with
 | .func (.func g) first cap=>As P g (first.toList++args++cap.toList).toArray H K E
 | _=>False
def V5(P:w_)(o:Oper)(fr:Fr)(H:Aa)(K:v_->Aa->Prop)(E:Fr->v_->Aa->Prop):Prop:=match o.op with
 | .panic x=>zH fr x λv=>match v with
   | .iface t y=>E fr (.iface t y) H
   | _=>False
 | .call {callee:=.value f,args, .. }=>zH fr f λg=>Jl fr args.toList λvs=>jL P g vs H K (E fr)
 | _=>wR P zU (λ_=>True) o fr H K
def As.out{a:Array v_}{K E:v_->Aa->Prop}(h:As P f a H K E):Cf P f a H K E:=by exact h.out_
def HD{K:v_->Aa->Prop}(i:AtX ds fr a)(h:V5 P o fr w.heap K E):nP P o a w K (E fr):=by
 unfold V5 at h;split at h;{rename_i x k;rw[Ki]at h;split at h;{rename_i t y l;intro Q m;have:(execOp a.eval o).run P w= .halt (.panic (.iface t y)) w:=by{rw[i.evalF];simp only[execOp,k,l];simp[Instr.panic,goPanic]};unfold Oper.wp;rw[this];exact m _ w (l_.refl w) h};exact h.elim};{
 rename_i f b j k;simp only[Ki,La,<-sK]at h;unfold jL at h;split at h;{
 rename_i g first cap q
 intro Q m;have e:(first.toList++(AqG (yI fr) b).toList++cap.toList).toArray=first++AqG (yI fr) b++cap:=Array.ext' zZ
 have n:=h.out;rw[e]at n;have r:(execOp a.eval o).run P w=(callFunc g (first++AqG (yI fr) b++cap)).run P w:=by{rw[i.evalF];simp only[execOp,k,resolve,q,Deferred.ofValue];simp[invoke]};unfold Oper.wp;rw[r,(n w rfl).1];refine(n w rfl).2.mono ?_;intro e s ⟨d,p⟩;cases e with|returned v=>exact⟨v,rfl,d,p⟩|panicked c=>obtain⟨x,rfl,l⟩:=p;exact m x s d l|outgrown=>exact p.elim};exact h.elim};exact AmD (DA i.bare h)
def Tr(P:w_)(o:Oper)(want:Bool)(t:Nat)(fr:Fr)(H:Aa)(K:Fr->Aa->Prop)(E:Fr->v_->Aa->Prop):Prop:=yJ fr t λv=>match v with
  | .bool b=>AB b
    (xL fr t (.bool zW) λfr1=>match want with
     | true=>V5 P o fr1 H (λv H'=>Di o.dst fr1 v λfr'=>xY K fr' H') E
     | false=>Di o.dst fr1 undef λfr'=>xY K fr' H)
    (xL fr t (.bool zU) λfr1=>match want with
     | false=>V5 P o fr1 H (λv H'=>Di o.dst fr1 v λfr'=>xY K fr' H') E
     | true=>Di o.dst fr1 undef λfr'=>xY K fr' H)
  | .tuple _=>Di o.dst fr undef λfr'=>xY K fr' H
  | _=>False
def Ov(P:w_)(all:List Oper)(E:Fr->v_->Aa->Prop)(l:List Oper):Fr->Aa->(Fr->Aa->Prop)->Prop:=List.rec (motive:=λ_=>Fr->Aa->(Fr->Aa->Prop)->Prop) (λfr H K=>K fr H) (λo _ ih fr H K=>
  match o.guard with
  | none=>V5 P o fr H (λv H'=>Di o.dst fr v λfr'=>ih fr' H' K) E
  | some (j,want)=>match(all[j]?).bind (·.dst)with
    | none=>False
    | some t=>Tr P o want t fr H (λfr' H'=>ih fr' H' K) E) l
def Xn(P:w_)(all rest:List Oper)(o:Oper)(E:Fr->v_->Aa->Prop)(fr:Fr)(H:Aa)(K:Fr->Aa->Prop):Ov P all E (o::rest) fr H K=(match o.guard with | none=>V5 P o fr H (λv H'=>Di o.dst fr v λa=>Ov P all E rest a H' K) E | some (j,want)=>match(all[j]?).bind (·.dst)with | none=>False | some t=>Tr P o want t fr H (λa H'=>Ov P all E rest a H' K) E):=rfl
def Ag5{c:List Oper}(d:AtX ds fr a){t:Nat}(e:(c[j]?).bind (·.dst)=zY t){b:Bool}(f:rd fr t= .bool b):yielded c.toArray a.tmps j=zY b:=JQ d.bare e f
def Wl{b:List Oper}(c:AtX ds fr a){t:Nat}(d:(b[j]?).bind (·.dst)=zY t)(e:rd fr t= .tuple vs):yielded b.toArray a.tmps j=zV:=(JR c.bare d e:)
def K6{P:w_}{all:List Oper}{ds:List Deferred}{E:Fr->v_->Aa->Prop}{Q:Exit->Act->y_->Prop}{w0:y_}(m:∀x fr a' f,AtX ds fr a'->l_ w0 f->E fr x f.heap->Q (.panic (pe x)) a' f):∀(l:List Oper) (fr:Fr) (a:Act) (w:y_) (K:Fr->Aa->Prop),AtX ds fr a->l_ w0 w->
  (∀d a' f,AtX ds d a'->l_ w0 f->K d f.heap->Q .normal a' f)->
  Ov P all E l fr w.heap K->wpList P all.toArray Q l a w
 | [],fr,a,w,K,hat,he,hq,h=>hq fr a w hat he h
 | o::l,fr,a,w,K,hat,he,hq,h=>by
   have go:∀(c:Bool),(c=zW->nP P o a w (λv H'=>Di o.dst fr v λd=>Ov P all E l d H' K) (E fr))->
     (c=zU->Di o.dst fr undef λd=>Ov P all E l d w.heap K)->
     Region.wanted o (yielded all.toArray a.tmps)=c->wpList P all.toArray Q (o::l) a w:=by
    intro c r s u;unfold wpList;rw[u];cases c with
    | true=>
      refine .inl (Oper.wp_mono ?_ (r rfl _ λx f e y=>m x fr a f hat (he.trans e) y));rintro a' f ⟨v,rfl,e,n⟩;rw[Cx]at n;exact K6 m l _ _ _ K (hat.put o.dst v) (he.trans e) hq n
    | false=>
      have p:=s rfl;rw[Cx]at p;exact K6 m l _ _ _ K (hat.put o.dst undef) he hq p
   rw[Xn]at h;split at h
   ·rename_i g;exact go zW (λ_=>HD hat h) (λh=>by cases h) (by simp[Region.wanted,g])
   ·rename_i j c g;split at h
    ·exact h.elim
    ·rename_i t q;unfold Tr at h;simp only[xY]at h;rw[E6]at h;split at h
     ·rename_i b i;have k:=Ag5 hat q i;have hs:fr.set t (.bool b)=fr:=EZ i (by simp[undef]);cases b<;>cases c<;>simp only[AB,GE,hs]at h
      ·exact go zW (λ_=>HD hat h) (λh=>by cases h) (by simp[Region.wanted,g,k])
      ·exact go zU (λh=>by cases h) (λ_=>h) (by simp[Region.wanted,g,k])
      ·exact go zU (λh=>by cases h) (λ_=>h) (by simp[Region.wanted,g,k])
      ·exact go zW (λ_=>HD hat h) (λh=>by cases h) (by simp[Region.wanted,g,k])
     ·rename_i vs i;exact go zU (λh=>by cases h) (λ_=>h) (by simp[Region.wanted,g,Wl hat q i])
     ·exact h.elim
def XL(E:Fr->v_->Aa->Prop)(l:List Oper):Prop:=∀o∈l,∀d,o.dst=zY d->∀fr v x H,E (fr.set d v) x H->E fr x H
def GZ(E:v_->Aa->Prop)(l:List Oper):XL (λ_=>E) l:=λ_ _ _ _ _ _ _ _ h=>h
structure Du(P:w_)(ds:List Deferred)(l:List Oper)(fr:Fr)(H:Aa)(K:Fr->Aa->Prop)(E:Fr->v_->Aa->Prop):Prop where
 in_::
 out_:∀(id:Nat) (Q:Exit->Act->y_->Prop) (a:Act) (w:y_),AtX ds fr a->w.heap=H->(∀x fr a' w',AtX ds fr a'->l_ w w'->E fr x w'.heap->Q (.panic (pe x)) a' w')->
  (XL E l->∀c,∀o∈l,∀v a w,Q (.panic c) (a.put o.dst v) w->Q (.panic c) a w)->
  (∀fr' a' w',AtX ds fr' a'->l_ w w'->K fr' w'.heap->Q .normal a' w')->(Code.region id l.toArray zW).wp P Q a w
def Du.of{l:List Oper}{K:Fr->Aa->Prop}(h:Ap P l fr H K):Du P [] l fr H K E:=by refine⟨λid Q a w b g _ _ i=>?_⟩;refine Code.wp_mono (Q:=λe a w=>Q e a w/\∀c,e≠ .panic c) (λe a w h=>h.1) ?_;exact h.out id _ a w b.at_ g (λc a w h=>h.2 c rfl) λd a' j f k m=>⟨i d a' j ⟨f.tmps,f.defers⟩ k m,λc=>zZ⟩
def qS(P:w_)(S:Nat->Prop)(Z:List Nat)(H0:Aa)(all:List Oper)(E:Fr->v_->Aa->Prop)(i:Nat)(fr:Fr)(H:Aa)(next:Fr->Aa->Prop):Prop:=match all[i]? with
 | none=>False
 | some o=>match o.guard with
   | some _=>False
   | none=>match Z.contains i with
     | true=>V5 P o fr H (λv H'=>Di o.dst fr v λfr'=>next fr' H') E
     | false=>V5 P o fr H (λv H'=>D_ S H0 H'/\Di o.dst fr v λfr'=>next fr' H') E
def YF(P:w_)(S:Nat->Prop)(Z:List Nat)(H0:Aa)(all:List Oper)(E:Fr->v_->Aa->Prop)(s:Sch):Fr->Aa->(Fr->Aa->Prop)->Prop:=Sch.rec (motive:=λ_=>Fr->Aa->(Fr->Aa->Prop)->Prop) (λfr H K=>K fr H)
  (λi _ ih fr H K=>match all[i]? with
   | none=>False
   | some o=>match o.guard with
     | some _=>False
     | none=>match On o&&HX P o with
       | true=>Rg P S o fr H λv=>Di o.dst fr v λfr'=>ih fr' H K
       | false=>False)
  (λi _ ih fr H K=>qS P S Z H0 all E i fr H λfr' H'=>ih fr' H' K)
  (λi _ j _ ih ih' fr H K=>(qS P S Z H0 all E i fr H λfr' H'=>ih fr' H' K)/\qS P S Z H0 all E j fr H λfr' H'=>ih' fr' H' K) s
def AhR(P:w_)(S:Nat->Prop)(Z:List Nat)(H0:Aa)(all:List Oper)(E:Fr->v_->Aa->Prop)(i:Nat)(s:Sch)(fr:Fr)(H:Aa)(K:Fr->Aa->Prop):YF P S Z H0 all E (.q i s) fr H K=(match all[i]? with | none=>False | some o=>match o.guard with | some _=>False | none=>match On o&&HX P o with | true=>Rg P S o fr H λv=>Di o.dst fr v λa=>YF P S Z H0 all E s a H K | false=>False):=rfl
def KI{Z:List Nat}{w0:y_}{all:List Oper}(p:∀x fr a' c,AtX ds fr a'->l_ w0 c->E fr x c.heap->Q (.panic (pe x)) a' c){next:Fr->Aa->Prop}(d:AtX ds fr a) (f:l_ w0 w) (h:qS P S Z w0.heap all E i fr w.heap next)(q:∀g a' c,AtX ds g a'->l_ w0 c->(Z.contains i=zU->xQ w0 S c)->next g c.heap->N a' c):wpOp P all.toArray Q i N a w:=by
 unfold qS at h;split at h;{exact h.elim};rename_i o r;have m:all.toArray[i]?=zY o:=by simpa using r
 split at h;{exact h.elim};rename_i s;have e:Region.wanted o (yielded all.toArray a.tmps)=zW:=by simp[Region.wanted,s]
 unfold wpOp;rw[m];dsimp only;rw[J_ e];split at h;{rename_i t;refine .inl (Oper.wp_mono ?_ (HD d h _ λx c b n=>p x fr a c d (f.trans b) n));rintro a' c ⟨v,rfl,b,j⟩;rw[Cx]at j;exact q _ _ _ (d.put o.dst v) (f.trans b) (λk=>by rw[t]at k;cases k) j};refine .inl (Oper.wp_mono ?_ (HD d h _ λx c b n=>p x fr a c d (f.trans b) n));rintro a' c ⟨v,rfl,b,l,j⟩;rw[Cx]at j;exact q _ _ _ (d.put o.dst v) (f.trans b) (λ_=>⟨f.trans b,l⟩) j
def Xt(a:Act)(b:Option Tmp)(v:v_):(a.put b v).defers=a.defers:=by cases b<;>rfl
def Gc{P:w_}{S:Nat->Prop}{Z:List Nat}{w0:y_}{all:List Oper}{ds:List Deferred}{E:Fr->v_->Aa->Prop}{Q:Exit->Act->y_->Prop}(hs:Region.noSelect all.toArray=zW)
  (z:∀x fr a' m,AtX ds fr a'->l_ w0 m->E fr x m.heap->Q (.panic (pe x)) a' m) (n:∀c,∀o∈all,∀v a w,Q (.panic c) (a.put o.dst v) w->Q (.panic c) a w):∀(l:Sch) (d:Array Bool) (fr:Fr) (a:Act) (w:y_) (K:Fr->Aa->Prop),AtX ds fr a->l_ w0 w->(Wm Z l=zU->xQ w0 S w)->Zac all.toArray d->
  (∀p a' m,AtX ds p a'->l_ w0 m->K p m.heap->Q .normal a' m)->E4 all.toArray Z l d=zW->l.even=zW->
  YF P S Z w0.heap all E l fr w.heap K->Ms P all.toArray Q (xQ w0 S) Z l.len d a w
 | .e,d,fr,a,w,K,hat,he,_,_,hq,hB,_,h=>⟨by simpa [E4]using hB,hq fr a w hat he h⟩
 | .q i s,d,fr,a,w,K,hat,he,A,hsh,hq,hB,hev,h=>by
   have A:=A rfl;simp only[E4,X',vH,yC]at hB;obtain⟨⟨⟨⟨B,g⟩,U⟩,V⟩,r⟩:=hB;rw[AhR]at h;split at h
   ·exact h.elim
   ·rename_i o T;have D:all.toArray[i]?=zY o:=by simpa using T
    have F:i∈Region.ready .any all.toArray d:=by simpa using B
    split at h
    ·exact h.elim
    ·rename_i W;have C:Region.wanted o (yielded all.toArray a.tmps)=zW:=by simp[Region.wanted,W]
     split at h
     ·have⟨v,X,t⟩:=FC h;rw[Cx]at t;refine GX (v:=v) (f:=all.toArray.size) D (Region.noSelect_spec hs) (λc a' m Y=>n c o (d_ T) v a' m Y) U (λj G=>V j (by simpa using G)) s.len d a w hsh (Region.free_spec D g) F
       (.inl ⟨C,λm N=>?_⟩) A ?_
      ·rw[hat.evalF];exact X m λk t=>(N.2 k t).trans (A.2 k t).symm
      ·exact Gc hs z n s _ _ _ w K (hat.put o.dst v) he (λ_=>A) (hsh.put F) hq r hev t
     ·exact h.elim
 | .f i s,d,fr,a,w,K,hat,he,A,hsh,hq,hB,hev,h=>by
   simp only[E4,X',vU,vH,beq_iff_eq]at hB;obtain⟨⟨B,g⟩,r⟩:=hB;refine⟨(λH=>by rw[B]at H;cases H),λj G=>?_⟩;have O:=G;rw[B]at G;obtain rfl:j=i:=by simpa using G
   refine KI z hat he h λp a' m I J u L=>⟨u,Gc hs z n s _ _ _ m K I J (λy=>?_) (hsh.put O) hq r hev L⟩;rcases g with g | g
   ·exact u g
   ·rw[g]at y;cases y
 | .b i s j s',d,fr,a,w,K,hat,he,A,hsh,hq,hB,hev,h=>by
   simp only[E4,X',vU,vH,beq_iff_eq]at hB;obtain⟨⟨⟨B,g⟩,r⟩,R⟩:=hB;simp only[Sch.even,X',beq_iff_eq]at hev;obtain⟨⟨e1,e2⟩,e3⟩:=hev;refine⟨(λH=>by rw[B]at H;cases H),λk t=>?_⟩;have M:=t;rw[B]at t;rcases zM.1 t with rfl | t
   ·refine KI z hat he h.1 λp a' m I J u L=>⟨u,Gc hs z n s _ _ _ m K I J (λy=>?_) (hsh.put M) hq r e1 L⟩;rcases g with g | g
    ·exact u g.1
    ·rw[g.1]at y;cases y
   ·obtain rfl:k=j:=by simpa using t
    rw[e3];refine KI z hat he h.2 λp a' m I J u L=>⟨u,Gc hs z n s' _ _ _ m K I J (λy=>?_) (hsh.put M) hq R e2 L⟩;rcases g with g | g
    ·exact u g.2
    ·rw[g.2]at y;cases y
def Du.held{l:List Oper}{K:Fr->Aa->Prop}(S:Nat->Prop)(Z:List Nat)(b:Sch)(d:XL E l)(k:P.follows .mixedOrders=zW)(c:(Region.noSelect l.toArray&&(b.len==l.length)&&b.even&&E4 l.toArray Z b (AoQ l.length zU))=zW)(h:YF P S Z H l E b fr H K):Du P ds l fr H K E:=by refine⟨?_⟩;intro id Q a w e m n f p;subst m;simp only[X',beq_iff_eq]at c;refine wp_region_any k (JN (S:=xQ w S) (Z:=Z) _ _ _ _ ?_);have g:Zac l.toArray (AoQ l.length zU):=λj o _ i=>by{rw[Array.getD_eq_getD_getElem?,Array.getElem?_replicate]at i;split at i<;>simp at i};have:=Gc (P:=P) (S:=S) (Z:=Z) (w0:=w) (Q:=Q) c.1.1.1 n (f d) b (AoQ l.length zU) fr a {w with drawn:=w.drawn+1} K e ⟨rfl,rfl,rfl⟩ (λ_=>⟨⟨rfl,rfl,rfl⟩,D_.refl _ _⟩) g p c.2 c.1.2 h;rw[c.1.1.2]at this;simpa using this
def Ep(ds:List Deferred)(w0:y_)(E:Fr->v_->Aa->Prop)(Q:Exit->Fr->Aa->Prop):Exit->Act->y_->Prop | .panic c,a,w=>∃fr,AtX ds fr a/\l_ w0 w/\∃x,c=pe x/\E fr x w.heap | .outgrown,_,_=>False | e,a,w=>∃fr,AtX ds fr a/\l_ w0 w/\Q e fr w.heap
structure Gx(P:w_)(ds:List Deferred)(E:Fr->v_->Aa->Prop)(c:Code)(fr:Fr)(H:Aa)(X:List (Nat×(Fr->Aa->Prop)))(kr:Fr->Aa->Prop):Prop where
 in_::
 out_:∀(a:Act) (w:y_),AtX ds fr a->w.heap=H->(Code.loop c).wp P (Ep ds w E (Qx (λ_ _=>False) X kr)) a w
structure B8(P:w_)(ds:List Deferred)(E:Fr->v_->Aa->Prop)(x y:Code)(fr:Fr)(H:Aa)(kn:Fr->Aa->Prop)(X:List (Nat×(Fr->Aa->Prop)))(kr:Fr->Aa->Prop):Prop where
 in_::
 out_:∀(a:Act) (w:y_),AtX ds fr a->w.heap=H->(Code.seq x y).wp P (Ep ds w E (Qx kn X kr)) a w
def wN(P:w_)(ds:List Deferred)(E:Fr->v_->Aa->Prop)(c:Code):Fr->Aa->(Fr->Aa->Prop)->List (Nat×(Fr->Aa->Prop))->(Fr->Aa->Prop)->Prop:=Code.rec (motive:=λ_=>Fr->Aa->(Fr->Aa->Prop)->List (Nat×(Fr->Aa->Prop))->(Fr->Aa->Prop)->Prop)
  (λfr H kn _ _=>kn fr H)
  (λ_ ops draw fr H kn _ _=>match draw with
   | false=>Ov P ops.toList E ops.toList fr H kn
   | true=>Du P ds ops.toList fr H kn E)
  (λa b iha ihb fr H kn X kr=>match N9 a with
   | true=>B8 P ds E a b fr H kn X kr
   | false=>iha fr H (λfr' H'=>ihb fr' H' kn X kr) X kr)
  (λc _ _ ihx ihy fr H kn X kr=>match c with
   | .tmp t=>yJ fr t λv=>match v with
     | .bool b=>AB b (xL fr t (.bool zW) λfr1=>ihx fr1 H kn X kr) (xL fr t (.bool zU) λfr1=>ihy fr1 H kn X kr)
     | _=>False
   | .const (.bool b)=>AB b (ihx fr H kn X kr) (ihy fr H kn X kr)
   | _=>False)
  (λid _ ih fr H kn X kr=>ih fr H kn ((id,kn)::X) kr)
  (λc _ fr H _ X kr=>Gx P ds E c fr H X kr)
  (λ_ _ _ _ _ _ _ _ _ _ _=>False)
  (λid fr H _ X _=>R9 X id fr H)
  (λ_ _ _ _ _ _ _=>False)
  (λ_ _ _ _ _ _=>False)
  (λ_ _ _ _ _ _=>False)
  (λfr H _ _ kr=>kr fr H)
  (λ_ _ _ _ _ _=>False) c
section
variable(P:w_)(ds:List Deferred)(E:Fr->v_->Aa->Prop)(a b:Code)(fr:Fr)(H:Aa)(kn:Fr->Aa->Prop)(X:List (Nat×(Fr->Aa->Prop)))(kr:Fr->Aa->Prop)
def XJ(id:Nat)(a:Array Oper)(b:Bool):wN P ds E (.region id a b) fr H kn X kr=(match b with | false=>Ov P a.toList E a.toList fr H kn | true=>Du P ds a.toList fr H kn E):=rfl
def AjO:wN P ds E (.seq a b) fr H kn X kr=(match N9 a with | true=>B8 P ds E a b fr H kn X kr | false=>wN P ds E a fr H (λc H'=>wN P ds E b c H' kn X kr) X kr):=rfl
def AfY(c:z_):wN P ds E (.cond c a b) fr H kn X kr=(match c with
   | .tmp t=>yJ fr t λv=>match v with
     | .bool x=>AB x (xL fr t (.bool zW) λd=>wN P ds E a d H kn X kr) (xL fr t (.bool zU) λd=>wN P ds E b d H kn X kr)
     | _=>False
   | .const (.bool x)=>AB x (wN P ds E a fr H kn X kr) (wN P ds E b fr H kn X kr)
   | _=>False):=rfl
def cG(id:Nat):wN P ds E (.block id a) fr H kn X kr=wN P ds E a fr H kn ((id,kn)::X) kr:=rfl
end
def Gx.out{c:Code}(h:Gx P ds E c fr H X kr):∀(a:Act) (w:y_),AtX ds fr a->w.heap=H->(Code.loop c).wp P (Ep ds w E (Qx (λ_ _=>False) X kr)) a w:=by exact h.out_
def B8.out{x:Code}(h:B8 P ds E x y fr H kn X kr):∀(a:Act) (w:y_),AtX ds fr a->w.heap=H->(Code.seq x y).wp P (Ep ds w E (Qx kn X kr)) a w:=by exact h.out_
def Ep.env{w0 d:y_}{Q:Exit->Fr->Aa->Prop}(b:l_ w0 d):∀{e:Exit} {a:Act} {w:y_},Ep ds d E Q e a w->Ep ds w0 E Q e a w | .normal,_,_,⟨fr,h1,h2,h3⟩ | .exit _,_,_,⟨fr,h1,h2,h3⟩ | .goto _,_,_,⟨fr,h1,h2,h3⟩ | .ret,_,_,⟨fr,h1,h2,h3⟩=>⟨fr,h1,b.trans h2,h3⟩ | .panic c,_,_,⟨fr,h1,h2,h3⟩=>⟨fr,h1,b.trans h2,h3⟩
def Ep.mono{w0:y_}{Q:Exit->Fr->Aa->Prop}(b:∀e fr H,Q e fr H->Q' e fr H):∀{e:Exit} {a:Act} {w:y_},Ep ds w0 E Q e a w->Ep ds w0 E Q' e a w | .normal,_,_,⟨fr,h1,h2,h3⟩ | .exit _,_,_,⟨fr,h1,h2,h3⟩ | .goto _,_,_,⟨fr,h1,h2,h3⟩ | .ret,_,_,⟨fr,h1,h2,h3⟩=>⟨fr,h1,h2,b _ _ _ h3⟩ | .panic c,_,_,h=>h
def NL{x:Code}{d:Fr->Aa->Prop}(g:x.wp P (Ep ds w E (Qx d X kr)) a w)(i:∀fr a' b,AtX ds fr a'->l_ w b->d fr b.heap->y.wp P (Ep ds b E (Qx kn X kr)) a' b):(Code.seq x y).wp P (Ep ds w E (Qx kn X kr)) a w:=by refine wp_seq (Code.wp_mono ?_ g);intro e a' b h;cases e with|normal=>have⟨fr,j,f,k⟩:=h;exact Code.wp_mono (λe a w h=>Ep.env f h) (i fr a' b j f k)|exit id=>exact h|goto l=>exact h|ret=>exact h|panic c=>exact h|outgrown=>exact h
def Cz{P:w_}{ds:List Deferred}{E:Fr->v_->Aa->Prop}:∀(c:Code) (fr:Fr) (kn:Fr->Aa->Prop) (X:List (Nat×(Fr->Aa->Prop))) (kr:Fr->Aa->Prop) (a:Act) (w:y_),AtX ds fr a->
  wN P ds E c fr w.heap kn X kr->c.wp P (Ep ds w E (Qx kn X kr)) a w
 | .skip,fr,kn,X,kr,a,w,hat,h=>wp_skip ⟨fr,hat,l_.refl w,h⟩
 | .region id ops draw,fr,kn,X,kr,a,w,hat,h=>by
   rw[XJ]at h;cases draw with
   | false=>
     have:=wp_region_lit (P:=P) (id:=id) (l:=ops.toList) (K6 (P:=P) (all:=ops.toList) (ds:=ds) (E:=E) (Q:=Ep ds w E (Qx kn X kr)) (w0:=w) (λx fr a' k i j g=>⟨fr,i,j,x,rfl,g⟩) ops.toList fr a w kn hat (l_.refl w) (λf a' k i j g=>⟨f,i,j,g⟩) h);simpa using this
   | true=>
     have:=h.out_ id (Ep ds w E (Qx kn X kr)) a w hat rfl (λx fr a' k i j g=>⟨fr,i,j,x,rfl,g⟩) (λq c o C v a k h=>by
      have⟨D,i,j,x,g,n⟩:=h;have⟨p,u⟩:=i;rw[Xt]at u;refine⟨a.tmps.toList,⟨rfl,u⟩,j,x,g,?_⟩;cases r:o.dst with
      | none=>rw[r]at p;rw[<-p]at n;exact n
      | some d=>
        rw[r]at p;refine q o C d r _ v x _ ?_;rw[<-p]at n;simpa [Act.put]using n) (λf a' k i j g=>⟨f,i,j,g⟩)
     simpa using this
 | .seq x y,fr,kn,X,kr,a,w,hat,h=>by
   rw[AjO]at h;split at h
   ·exact h.out a w hat rfl
   ·exact NL (Cz x fr _ X kr a w hat h) λf a' k i _ g=>Cz y f kn X kr a' k i g
 | .cond c x y,fr,kn,X,kr,a,w,hat,h=>by
   rw[AfY]at h;split at h
   ·rename_i t;rw[E6]at h;split at h
    ·rename_i b z;have hs:fr.set t (.bool b)=fr:=EZ z (by simp[undef]);have A:a.eval (.tmp t)= .bool b:=by rw[hat.evalF];exact z
     cases b<;>simp only[AB,GE,hs]at h
     ·exact wp_cond_false A (Cz y fr kn X kr a w hat h)
     ·exact wp_cond_true A (Cz x fr kn X kr a w hat h)
    ·exact h.elim
   ·rename_i b;cases b<;>simp only[AB]at h
    ·exact wp_cond_false rfl (Cz y fr kn X kr a w hat h)
    ·exact wp_cond_true rfl (Cz x fr kn X kr a w hat h)
   ·exact h.elim
 | .block id c,fr,kn,X,kr,a,w,hat,h=>by
   rw[cG]at h;refine wp_block (Code.wp_mono ?_ (Cz c fr kn _ kr a w hat h));intro e a' k h;cases e with
   | exit s=>
     have⟨f,i,j,g⟩:=h;simp only[Qx,R9]at g;simp only[Exit.inBlock];split at g
     ·rename_i m;have:=Nat.eq_of_beq_eq_true m;rw[J_ this.symm];exact⟨f,i,j,g⟩
     ·rename_i m;have:id≠s:=Nat.ne_of_beq_eq_false m;rw[I_ (Ne.symm this)];exact⟨f,i,j,g⟩
   | normal=>exact h
   | goto l=>exact h
   | ret=>exact h
   | panic c=>exact h
   | outgrown=>exact h
 | .loop c,fr,kn,X,kr,a,w,hat,h=>Code.wp_mono (λe a w=>Ep.mono λe fr H B=>by
   cases e<;>first | exact B | exact B.elim) (h.out a w hat rfl)
 | .exit id,fr,kn,X,kr,a,w,hat,h=>wp_exit ⟨fr,hat,l_.refl w,h⟩
 | .ret,fr,kn,X,kr,a,w,hat,h=>wp_ret ⟨fr,hat,l_.refl w,h⟩
 | .rangeFunc ..,_,_,_,_,_,_,_,h=>h.elim
 | .scope _,_,_,_,_,_,_,_,h=>h.elim
 | .label _,_,_,_,_,_,_,_,h=>h.elim
 | .goto _,_,_,_,_,_,_,_,h=>h.elim
 | .refuse _,_,_,_,_,_,_,_,h=>h.elim
def Gx.mk{c:Code}{α:Type}(j:List Nat)(enc:α->List v_)(I:α->Aa->Prop)(m:α->Aa->Nat)(L:TW fr j λvs=>∃x,vs=enc x/\I x H)(F:∀(x:α) (H1:Aa) (k:Nat->v_),I x H1->Jx k fr (JP c []) λr=>XK r j (enc x) λf=> wN P ds E c f H1 (λd H'=>LF (JP c []) fr d (TW d j λvs=>∃y,vs=enc y/\I y H'/\m y H'<m x H1)) X kr):Gx P ds E c fr H X kr:=by generalize JP c []=G at F;refine⟨?_⟩;intro a w s M;subst M;have o:=L;rw[Ij]at o;have⟨N,t,u⟩:=o;let J (n:Nat) (a':Act) (w':y_):Prop:=∃d x,AtX ds d a'/\l_ w w'/\Ht (λ_=>undef) d G=Ht (λ_=>undef) fr G/\j.map (rd d)=enc x/\I x w'.heap/\m x w'.heap=n;refine O9 J ?_ _ a w ⟨fr,N,s,l_.refl w,rfl,t,u,rfl⟩;rintro n O K ⟨f,Q,p,b,v,z,A,rfl⟩;have h:=F Q K.heap (rd f) A;rw[Dr,Lz,DX v,<-z,Jb j f]at h;refine Code.wp_mono ?_ (Cz c f _ X kr O K p h);intro e U R g;cases e with|normal=>have⟨B,q,i,g⟩:=g;simp only[Qx,LF,Dr,Ij]at g;have⟨C,y,S,D,T⟩:=g;exact⟨m y R.heap,T,B,y,q,b.trans i,C,S,D,rfl⟩|exit id=>exact Ep.env b g|goto l=>exact Ep.env b g|ret=>exact Ep.env b g|panic c=>exact Ep.env b g|outgrown=>exact g
def B8.run{x:Code}(h:wN P ds E x fr H (λb H'=>wN P ds E y b H' kn X kr) X kr):B8 P ds E x y fr H kn X kr:=by refine⟨?_⟩;intro a w c d;subst d;exact NL (Cz x fr _ X kr a w c h) λb a' e f _ g=>Cz y b kn X kr a' e f g
def B8.cut{x:Code}{α:Type}(e:List Nat)(enc:α->List v_)(I:α->Aa->Prop)(h:wN P ds E x fr H (λc H'=>LF (JP x []) fr c (TW c e λvs=>∃y,vs=enc y/\I y H')) X kr)(k:∀(z:α) (H1:Aa) (d:Nat->v_),I z H1->Jx d fr (JP x []) λf=>XK f e (enc z) λb=>wN P ds E y b H1 kn X kr):B8 P ds E x y fr H kn X kr:=by generalize JP x []=r at h k;refine⟨?_⟩;intro a w g l;subst l;refine NL (Cz x fr _ X kr a w g h) λb m i n _ j=>?_;simp only[LF,Dr,Ij]at j;have⟨o,z,p,q⟩:=j;have h:=k z i.heap (rd b) q;rw[Dr,Lz,DX o,<-p,Jb e b]at h;exact Cz y b kn X kr m i n h
def Xy{fn:Func}(b:AtX ds fr a)(h:Ro P fn.results.toList fr w.heap R):∃v,(results fn a.tmps).run P w= .ok v w/\R v w.heap:=Q7 (a:={tmps:=a.tmps,defers:=[]}) b.bare h
def Cf.of_vc{fn:Func}{c:Code}{a:Array v_}{E:v_->Aa->Prop}(n:P.funcs[f]?=zY fn)(o:fn.body=zY c)(i:∀w:y_,(callFunc f a).run P w= .ok (.enter f a) w)(h:Qm (a.toList++An8 (fn.ntmps-a.size) undef) λfr=>wN P [] (λ_=>E) c fr H (λj H'=>Ro P fn.results.toList j H' R) [] (λj H'=>Ro P fn.results.toList j H' R)):Cf P f a H R E:=by intro w p;subst p;refine⟨i w,?_⟩;refine calls_of_wp n o ?_;rw[IP]at h;have m:AtX [] (a.toList++An8 (fn.ntmps-a.size) undef) {tmps:=a++AoQ (fn.ntmps-a.size) undef,defers:=[]}:=⟨zZ,rfl⟩;refine Code.wp_mono ?_ (Cz c _ _ _ _ _ w m h);intro e a' k b;have fin:∀fr,AtX [] fr a'->l_ w k->Ro P fn.results.toList fr k.heap R->a'.defers=[]/\∃v,(results fn a'.tmps).run P k= .ok v k/\l_ w k/\R v k.heap:=by{intro fr g b d;have⟨v,q,r⟩:=Xy g d;exact⟨g.defers,v,q,b,r⟩};cases e with|normal=>have⟨fr,g,b,d⟩:=b;exact fin fr g b d|ret=>have⟨fr,g,b,d⟩:=b;exact fin fr g b d|exit id=>have⟨fr,g,b,d⟩:=b;exact d.elim|goto l=>have⟨fr,g,b,d⟩:=b;exact d.elim|panic c=>have⟨fr,g,d,x,s,t⟩:=b;exact⟨g.defers,d,x,s,t⟩|outgrown=>exact b.elim
def HF(P:w_)(rs:List ResultVar)(fr:Fr)(H:Aa):(List v_->Prop)->Prop:=List.rec (motive:=λ_=>(List v_->Prop)->Prop) (λR=>R []) (λr _ ih R=>match r with
  | .tmp t=>yJ fr t λv=>ih λvs=>R (v::vs)
  | .cell a t=>yJ fr a λp=>uB P t p H λv=>ih λvs=>R (v::vs)) rs
def NI(vs:List v_):v_:=match vs with
 | [v]=>v
 | vs=>.tuple vs.toArray
def JB(tmps:Array v_)(r:ResultVar):Sem v_:=match r with
 | .tmp t=>pure (tmps.getD t undef)
 | .cell a t=>do loadVar t (<-asAddr (tmps.getD a undef))
def Mo{P:w_}{fr:Fr}{a:Act}{w:y_}(b:At fr a):∀(c:List ResultVar) (R:List v_->Prop),HF P c fr w.heap R->
  ∃vs:List v_,(c.mapM (JB a.tmps)).run P w= .ok vs w/\R vs
 | [],R,h=>⟨[],by simp,h⟩
 | .tmp t::c,R,h=>by
   have e:yJ fr t (λv=>HF P c fr w.heap λvs=>R (v::vs)):=h;rw[E6]at e;have⟨vs,i,f⟩:=Mo b c _ e;have d:a.tmps.getD t undef=rd fr t:=b.eval (.tmp t);have g:(JB a.tmps (.tmp t)).run P w= .ok (rd fr t) w:=by simp[JB,d]
   refine⟨rd fr t::vs,?_,f⟩;rw[fE,Sem.run_bind,g];simp only[Result.andThen_ok,Sem.run_bind,i,Sem.run_pure]
 | .cell x t::c,R,h=>by
   have e:yJ fr x (λp=>uB P t p w.heap λv=>HF P c fr w.heap λvs=>R (v::vs)):=h;rw[E6]at e;have⟨p,v,j,k,f⟩:=Hb e;have⟨vs,l,m⟩:=Mo b c _ f;have d:a.tmps.getD x undef=rd fr x:=b.eval (.tmp x);have g:(JB a.tmps (.cell x t)).run P w= .ok v w:=by simp[JB,d,j,asAddr,k]
   refine⟨v::vs,?_,m⟩;rw[fE,Sem.run_bind,g];simp only[Result.andThen_ok,Sem.run_bind,l,Sem.run_pure]
def FQ{fn:Func}{R:v_->Prop}(b:AtX ds fr a)(h:HF P fn.results.toList fr w.heap λvs=>R (NI vs)):∃v,(results fn a.tmps).run P w= .ok v w/\R v:=by
 have⟨vs,c,d⟩:=Mo (a:={tmps:=a.tmps,defers:=[]}) b.bare _ _ h;refine⟨NI vs,?_,d⟩
 have e:results fn a.tmps=(do
  let vs <-fn.results.mapM (JB a.tmps)
  pure (if h:vs.size=1 then vs[0]else .tuple vs)):=rfl
 have e2:(fn.results.mapM (JB a.tmps)).run P w= .ok vs.toArray w:=by{rw[Array.mapM_eq_mapM_toList];have f:(List.toArray <$> fn.results.toList.mapM (JB a.tmps))=(fn.results.toList.mapM (JB a.tmps) >>= λl=>pure l.toArray):=rfl;rw[f,Sem.run_bind,c];simp};rw[e,Sem.run_bind,e2];simp only[Result.andThen_ok,Sem.run_pure];match vs with|[]=>rfl|[v]=>rfl|_::_::_=>rfl
def kS(o0 o1:Oper)(t0 t1:Nat):Prop:=(∃ats,o0.op= .call {callee:=.builtin .recover,args:= #[],argTypes:=ats})/\o0.guard=zV/\o0.dst=zY t0/\o1.op= .assign (.tmp t0)/\o1.guard=zV/\o1.dst=zY t1
inductive AkZ:FrameMode->FrameMode->v_->Prop
 | ret:AkZ .returning .returning .nilIface
 | pan (x:v_):AkZ (.panicking (pe x)) (.panicking [{v:=x,recovered:=zW}]) x
def Jh{g:FuncId}{fn:Func}{D:Nat}{b i:Oper}{r N:Nat}{rest:Code}{a:Array v_}{u s:FrameMode}{R:Aa->Prop}(Q:P.funcs[g]?=zY fn)(S:fn.body=zY (.seq (.region D #[b,i] zU) rest))(T:kS b i r N) (U:AkZ u s op) (z:fn.results= #[])(h:Qm (a.toList++An8 (fn.ntmps-a.size) undef) λfr=>yJ fr r λ_=>yJ (fr.set r op) r λv=>v=op/\xL fr r op λE=>xL E N op λF=>vc P rest F H (λ_ H'=>R H') [] (λ_ H'=>R H')):∀w:y_,w.heap=H->CallsD P g a u w λe n d=>e= .returned (.tuple #[])/\n=s/\l_ w d/\R d.heap:=by
 intro w V;subst V;rw[IP]at h;simp only[E6,GE]at h;have⟨G,h⟩:=h;obtain⟨⟨W,X⟩,Y,I,Z,b4,O⟩:=T;refine callsD_of_wpS Q S ?_;intro j k J;let o:Act:={tmps:=a++AoQ (fn.ntmps-a.size) undef,defers:=[]};have A:At (a.toList++An8 (fn.ntmps-a.size) undef) o:=⟨by simp[o],rfl⟩;refine wpS_seq (wpS_region ?_);have t:(execOp o.eval b).run P w= .ok .recover w:=by{simp only[execOp,X,resolve];simp[invoke,builtin]};have B:∀(C:Frame),{j with mode:=s}=C->wpOpsS P #[b,i] (Exit.thenS (rest.wpS P (bodyPostS P fn j k λe n d=>e= .returned (.tuple #[])/\n=s/\l_ w d/\R d.heap)) (bodyPostS P fn j k λe n d=>e= .returned (.tuple #[])/\n=s/\l_ w d/\R d.heap)) [1] (o.put b.dst op) (C::k) w:=by{intro C K;have p:=A.put b.dst op;have x:(execOp (o.put b.dst op).eval i).run P w= .ok (.value op) w:=by{rw[p.evalF,I];simp only[execOp,Z];have:yI ((a.toList++An8 (fn.ntmps-a.size) undef).set r op) (.tmp r)=op:=G;simp[this]};have L:Region.wanted i (yielded #[b,i] (o.put b.dst op).tmps)=zW:=by{simp[Region.wanted,b4]};unfold wpOpsS;have g1:(#[b,i]:Array Oper)[1]?=zY i:=rfl;rw[g1];simp only[L,if_true,x];simp only[Oper.upon,wpOpsS,Exit.thenS];refine wpS_of_wp ?_;have q:=p.put i.dst op;rw[I,O]at q;rw[I,O];refine Code.wp_mono ?_ (Cw rest _ _ _ _ _ w q h);intro e a' d f;have fin:∀fr,At fr a'->l_ w d->R d.heap->a'.defers=[]/\∃n,C::k={j with mode:=n}::k/\∃v,(results fn a'.tmps).run P d= .ok v d/\Ending.returned v= .returned (.tuple #[])/\n=s/\l_ w d/\R d.heap:=by{intro fr y f m;refine⟨y.defers,s,by rw[K],.tuple #[],?_,rfl,rfl,f,m⟩;simp[results,z]};cases e with|normal=>have⟨fr,y,f,m⟩:=f;exact fin fr y f m|ret=>have⟨fr,y,f,m⟩:=f;exact fin fr y f m|exit id=>have⟨fr,y,f,m⟩:=f;exact m.elim|goto l=>have⟨fr,y,f,m⟩:=f;exact m.elim|panic c=>exact f.elim|outgrown=>exact f.elim};have M:Region.wanted b (yielded #[b,i] o.tmps)=zW:=by simp[Region.wanted,Y]
 show wpOpsS P #[b,i] _ [0,1] o (j::k) w;unfold wpOpsS;have g0:(#[b,i]:Array Oper)[0]?=zY b:=rfl;rw[g0];simp only[M,if_true,t];cases U with|ret=>have:recoverD (j::k)=zV:=by{simp[recoverD,J]};rw[this];exact B j (by rw[<-J])|pan=>{have:recoverD (j::k)=zY (op,{j with mode:=.panicking [{v:=op,recovered:=zW}]}::k):=by{simp[recoverD,J]};rw[this];exact B _ rfl}
structure FS(P:w_)(g:FuncId)(args:Array v_)(u u':FrameMode)(H:Aa)(K:Aa->Prop):Prop where
 in_::
 out_:∀w:y_,w.heap=H->CallsD P g args u w λe u2 w'=>e= .returned (.tuple #[])/\u2=u'/\l_ w w'/\K w'.heap
def FS.mk{g:FuncId}{a:Array v_}{u c:FrameMode}{K R:Aa->Prop}(h:∀w:y_,w.heap=H->CallsD P g a u w λe d b=>e= .returned (.tuple #[])/\d=c/\l_ w b/\R b.heap)(k:∀H',R H'->K H'):FS P g a u c H K:=⟨λw f=>(h w f).mono λe d b ⟨i,j,l,m⟩=>⟨i,j,l,k _ m⟩⟩
def lU(o1 o2:Oper)(tc:Nat)(g:FuncId)(cap:Array z_):Prop:=o1.op= .makeFunc (.func g) #[] cap/\o1.guard=zV/\o1.dst=zY tc/\(∃ats,o2.op= .defer {callee:=.value (.tmp tc),args:= #[],argTypes:=ats})/\o2.guard=zV/\o2.dst=zV
abbrev pC(g:FuncId)(vs:List v_):Deferred:={target:=.fn (.func g) vs.toArray,args:= #[]}
def Ai.of_defer{fn:Func}{A B:Code}{Z:Nat}{r t:Oper}{y:Nat}{g:FuncId}{cap:Array z_}{b:Array v_}(hf:P.funcs[f]?=zY fn)
  (hb:fn.body=zY (.seq Y (.seq A (.seq (.region Z #[r,t] zU) B)))) (D:∀w:y_,(callFunc f b).run P w= .ok (.enter f b) w) (hD:lU r t y g cap) (hg:∀(vs:Array v_) (w:y_),(callFunc g vs).run P w= .ok (.enter g vs) w)
  (h:Qm (b.toList++An8 (fn.ntmps-b.size) undef) λfr=>
   vc P Y fr H (λL H1=>vc P A L H1 (λa H2=>Jl a cap.toList λvs=>xL a y (.func (.func g) #[] vs.toArray) λM=>yJ M y λfv=>fv= .func (.func g) #[] vs.toArray/\
    wN P [pC g vs] (λd x H4=>FS P g vs.toArray (.panicking (pe x)) (.panicking [{v:=x,recovered:=zW}]) H4 λH5=>HF P fn.results.toList d H5 λj=>R (NI j) H5) B M H2
     (λd H4=>FS P g vs.toArray .returning .returning H4 λH5=>HF P fn.results.toList d H5 λj=>R (NI j) H5) []
     (λd H4=>FS P g vs.toArray .returning .returning H4 λH5=>HF P fn.results.toList d H5 λj=>R (NI j) H5))
    [] (λd H4=>HF P fn.results.toList d H4 λj=>R (NI j) H4)) [] (λd H4=>HF P fn.results.toList d H4 λj=>R (NI j) H4)):
  Ai P f b H R:=by
 intro w hw;subst hw;refine⟨D w,?_⟩;rw[IP]at h;obtain⟨d1,d2,d3,⟨a7,d4⟩,d5,d6⟩:=hD;refine calls_of_wp_defers hf hb ?_
 let a0:Act:={tmps:=b++AoQ (fn.ntmps-b.size) undef,defers:=[]}
 have N:At (b.toList++An8 (fn.ntmps-b.size) undef) a0:=⟨by simp[a0],rfl⟩;have m:∀(fr:Fr) (a':Act) (k:y_),At fr a'->l_ w k->(HF P fn.results.toList fr k.heap λj=>R (NI j) k.heap)->Leaves P fn a'.tmps (λe k=>∃v,e= .returned v/\l_ w k/\R v k.heap) a'.defers .returning k:=by
  intro fr a' k q z h3;rw[q.defers];have⟨v,O,e2⟩:=FQ (fn:=fn) (ds:=[]) (R:=λv=>R v k.heap) ⟨q.tmps,q.defers⟩ h3;exact⟨v,O,v,rfl,z,e2⟩
 refine wp_seq (Code.wp_mono ?_ (Cw Y _ _ _ _ a0 w N h));intro e a1 X q;cases e with
 | ret=>have⟨fr,Q,G,E⟩:=q;exact m fr a1 X Q G E
 | exit id=>have⟨fr,Q,G,E⟩:=q;exact E.elim
 | goto l=>have⟨fr,Q,G,E⟩:=q;exact E.elim
 | panic c=>exact q.elim
 | outgrown=>exact q.elim
 | normal=>
 have⟨L,Q,G,E⟩:=q;refine wp_seq (Code.wp_mono ?_ (Cw A _ _ _ _ a1 X Q E));intro e I F z;cases e with
 | ret=>have⟨fr,J,S,n⟩:=z;exact m fr I F J (G.trans S) n
 | exit id=>have⟨fr,J,S,n⟩:=z;exact n.elim
 | goto l=>have⟨fr,J,S,n⟩:=z;exact n.elim
 | panic c=>exact z.elim
 | outgrown=>exact z.elim
 | normal=>
 have⟨a,J,S,n⟩:=z;have n:Jl a cap.toList _:=n;rw[La]at n;simp only[GE,E6]at n;have⟨m4,m5⟩:=n;have T:=G.trans S;have a3:(execOp I.eval r).run P F= .ok (.value (.func (.func g) #[] (cap.toList.map (yI a)).toArray)) F:=by
  rw[J.evalF];simp only[execOp,d1];simp only[<-sK,Array.toArray_toList];simp[Instr.makeFunc]
 have i:=J.put r.dst (.func (.func g) #[] (cap.toList.map (yI a)).toArray);rw[d3]at i;have a4:(execOp (I.put r.dst (.func (.func g) #[] (cap.toList.map (yI a)).toArray)).eval t).run P F= .ok (.defer (pC g (cap.toList.map (yI a)))) F:=by
  rw[d3,i.evalF];simp only[execOp,d4,resolve];have:yI (a.set y (.func (.func g) #[] (cap.toList.map (yI a)).toArray)) (.tmp y)= .func (.func g) #[] (cap.toList.map (yI a)).toArray:=m4;simp[this,Deferred.ofValue]
 refine wp_seq (wp_region_lit (l:=[r,t]) ?_);have X:Region.wanted r (yielded #[r,t] I.tmps)=zW:=by simp[Region.wanted,d2]
 have a6:∀tm,Region.wanted t (yielded #[r,t] tm)=zW:=λtm=>by simp[Region.wanted,d5]
 unfold wpList;simp only[X,if_true];refine .inl ?_;unfold Oper.wp;rw[a3];simp only[Oper.upon];unfold wpList;simp only[a6,if_true];refine .inl ?_;unfold Oper.wp;rw[a4];simp only[Oper.upon,wpList,Exit.then];rw[d3];have U:AtX [pC g (cap.toList.map (yI a))] (a.set y (.func (.func g) #[] (cap.toList.map (yI a)).toArray)) ({(I.put (zY y) (.func (.func g) #[] (cap.toList.map (yI a)).toArray))with defers:=pC g (cap.toList.map (yI a))::(I.put (zY y) (.func (.func g) #[] (cap.toList.map (yI a)).toArray)).defers}.put t.dst undef):=by
  rw[d6];exact⟨i.tmps,by show _::_=_;rw[i.defers]⟩
 refine Code.wp_mono ?_ (Cz B _ _ _ _ _ F U m5);intro e V C K;have W:∀w:y_,(invoke (.fn (.func g) (cap.toList.map (yI a)).toArray) #[]).run P w= .ok (.enter g (cap.toList.map (yI a)).toArray) w:=λw=>by
  simp only[invoke];rw[Array.empty_append];exact hg _ w
 have fin:∀fr,AtX [pC g (cap.toList.map (yI a))] fr V->l_ F C->(FS P g (cap.toList.map (yI a)).toArray .returning .returning C.heap λH5=>HF P fn.results.toList fr H5 λj=>R (NI j) H5)->
   Leaves P fn V.tmps (λe k=>∃v,e= .returned v/\l_ w k/\R v k.heap) V.defers .returning C:=by
  intro fr o s p;rw[o.defers];refine leaves_cons (λh=>by cases h) (W C) ((p.out_ C rfl).mono ?_);rintro e u w6 ⟨rfl,rfl,q1,q2⟩;have⟨v,O,e2⟩:=FQ (fn:=fn) (R:=λv=>R v w6.heap) o q2;exact⟨v,O,v,rfl,(T.trans s).trans q1,e2⟩
 cases e with
 | normal=>have⟨fr,o,s,p⟩:=K;exact fin fr o s p
 | ret=>have⟨fr,o,s,p⟩:=K;exact fin fr o s p
 | exit id=>have⟨fr,o,s,p⟩:=K;exact p.elim
 | goto l=>have⟨fr,o,s,p⟩:=K;exact p.elim
 | outgrown=>exact K.elim
 | panic c=>
   obtain⟨fr,o,s,x,rfl,p⟩:=K;show Leaves P fn V.tmps _ V.defers (.panicking (pe x)) C;rw[o.defers];refine leaves_cons (λh=>by cases h) (W C) ((p.out_ C rfl).mono ?_);rintro e u w6 ⟨rfl,rfl,q1,q2⟩;have⟨v,O,e2⟩:=FQ (fn:=fn) (R:=λv=>R v w6.heap) o q2;exact⟨v,O,v,rfl,(T.trans s).trans q1,e2⟩
def iM:ResultVar->Nat | .tmp t=>t | .cell a _=>a
def RW{d t:Nat}(h:d≠t):rd (fr.set d v) t=rd fr t:=by unfold rd;rw[xA,xA,yX h]
def Q8{P:w_}{fr:Fr}{d:Nat}{v:v_}{H:Aa}:∀{b:List ResultVar} {R:List v_->Prop},(∀r∈b,d≠iM r)->HF P b (fr.set d v) H R->HF P b fr H R
 | [],R,_,h=>h
 | .tmp t::b,R,hd,h=>by
   have c:yJ (fr.set d v) t (λa=>HF P b (fr.set d v) H λvs=>R (a::vs)):=h;show yJ fr t (λa=>HF P b fr H λvs=>R (a::vs));rw[E6]at c ⊢;have f:d≠t:=hd _ xI;rw[RW f]at c;exact Q8 (λr g=>hd r (yH _ g)) c
 | .cell x t::b,R,hd,h=>by
   have c:yJ (fr.set d v) x (λp=>uB P t p H λa=>HF P b (fr.set d v) H λvs=>R (a::vs)):=h;show yJ fr x (λp=>uB P t p H λa=>HF P b fr H λvs=>R (a::vs));rw[E6]at c ⊢;have f:d≠x:=hd _ xI;rw[RW f]at c;have e:(λa=>HF P b (fr.set d v) H λvs=>R (a::vs))=λa=>HF P b (fr.set d v) H λvs=>R (a::vs):=rfl;revert c;unfold uB;generalize rd fr x=p;intro c;split at c
   ·have⟨a,i,e2⟩:=c.out_;exact⟨⟨a,i,Q8 (λr g=>hd r (yH _ g)) e2⟩⟩
   ·exact c.elim
def Wz{g:FuncId}{b:List ResultVar}{l:List Oper}(e:(l.all λo=>match o.dst with | none=>zW | some d=>b.all λr=> !(d==iM r))=zW):XL (λa x H4=>FS P g vs (.panicking (pe x)) (.panicking [{v:=x,recovered:=zW}]) H4 λH5=>HF P b a H5 λf=>R (NI f) H5) l:=by intro o i d j fr v x H h;have c:=yC.1 e o i;rw[j]at c;refine FS.mk h.out_ λH' k=>Q8 (λr m=>?_) k;have:=yC.1 c r m;simpa using this
def Ai.of_vcL{fn:Func}{c:Code}{a:Array v_}(p:P.funcs[f]?=zY fn)(q:fn.body=zY c)(j:∀w:y_,(callFunc f a).run P w= .ok (.enter f a) w)(h:Qm (a.toList++An8 (fn.ntmps-a.size) undef) λfr=>vc P c fr H (λk H'=>HF P fn.results.toList k H' λm=>R (NI m) H') [] (λk H'=>HF P fn.results.toList k H' λm=>R (NI m) H')):Ai P f a H R:=by intro w r;subst r;refine⟨j w,?_⟩;refine calls_of_wp p q ?_;rw[IP]at h;have n:At (a.toList++An8 (fn.ntmps-a.size) undef) {tmps:=a++AoQ (fn.ntmps-a.size) undef,defers:=[]}:=⟨zZ,rfl⟩;refine Code.wp_mono ?_ (Cw c _ _ _ _ _ w n h);intro e a' i b;have fin:∀fr,At fr a'->l_ w i->(HF P fn.results.toList fr i.heap λm=>R (NI m) i.heap)->a'.defers=[]/\∃v,(results fn a'.tmps).run P i= .ok v i/\∃o,Ending.returned v= .returned o/\l_ w i/\R o i.heap:=by{intro fr d b g;have⟨v,s,t⟩:=FQ (fn:=fn) (ds:=[]) (R:=λv=>R v i.heap) ⟨d.tmps,d.defers⟩ g;exact⟨d.defers,v,s,v,rfl,b,t⟩};cases e with|normal=>have⟨fr,d,b,g⟩:=b;exact fin fr d b g|ret=>have⟨fr,d,b,g⟩:=b;exact fin fr d b g|exit id=>have⟨fr,d,b,g⟩:=b;exact g.elim|goto l=>have⟨fr,d,b,g⟩:=b;exact g.elim|panic c=>exact b.elim|outgrown=>exact b.elim
section
variable{α:Type}
def sD{ps qs:List α}{p:α}(h:ps[i]?=zY p):(ps++qs)[i]?=zY p:=by rw[yB (T_.1 h).1];exact h
def nL{ps qs:List α}{p q:α}(h:ps[i]?=zY p):(ps++qs).set i q=ps.set i q++qs:=fC _ _ (T_.1 h).1
def X_(ps l:List α)(j:Nat):(ps++l)[ps.length+j]?=l[j]? :=by rw[zL (oZ _ _)];congr 1;omega
def zG(ps l:List α)(j:Nat)(x:α):(ps++l).set (ps.length+j) x=ps++l.set j x:=by rw[tD _ _ (oZ _ _)];congr 2;omega
def tM{ps:List α}{p q:α}(h:ps[i]?=zY p):(ps.set i q)[i]?=zY q:=yQ (T_.1 h).1
def kC{ps:List α}{p:α}(h:ps[i]?=zY p):ps.set i p=ps:=by refine yP λj=>?_;by_cases a:i=j;{subst a;rw[tM h,h]};rw[yX a]
def Gh(ps l:List α):(ps++l)[ps.length]?=l[0]? :=X_ ps l 0
def T4(ps l:List α)(x:α):(ps++l).set ps.length x=ps++l.set 0 x:=zG ps l 0 x
end
def B_.lft(a:B_ B H0 H (ps++qs)):B_ B H0 H ps:=⟨a.old,a.lt0,a.size,λp b=>a.oks p (yO _ b),λp b=>a.rng p (yO _ b),(tC.1 a.dis).1⟩
def B_.subl(a:B_ B H0 H ps)(h:List.Sublist qs ps):B_ B H0 H qs:=⟨a.old,a.lt0,a.size,λp b=>a.oks p (h.subset b),λp b=>a.rng p (h.subset b),a.dis.sublist h⟩
section
variable{t o:Nat}{K:Aa->Prop}
def BH(f:B_ B H0 H ps)(i:Nat)(m:(P.info? t).map (·.size)=zY cs.length)(g:ps[i]?=zY (pB e b l))(n:o+cs.length<=l.length)(p:cs.all (·.oneCell')=zW)(k:∀H',B_ B H0 H' (ps.set i (pB e b (Ah l o cs)))->D_ (λk=>k≠b) H H'->H'.size=H.size->K H'):Co P (Instr.storeAt t (.pointer (zY ⟨b,o,zV⟩)) (.agg cs.toArray)) H K:=by refine Zaa m (f.at_ i g) n p ?_;intro H' h a c;exact k H' (f.upd i g (a.mono λk d j=>d.2 j) _ h (λk d=>.inl d) (λk d=>by rw[c];exact(f.in_ i g d).2) zO) a c
def Zl(f:B_ B H0 H ps)(i:Nat)(m:BM P t)(g:ps[i]?=zY (pB e b l))(n:o<l.length)(p:v.oneCell'=zW)(k:∀H',B_ B H0 H' (ps.set i (pB e b (l.set o v)))->D_ (λk=>k≠b) H H'->H'.size=H.size->K H'):Co P (Instr.storeAt t (.pointer (zY ⟨b,o,zV⟩)) v) H K:=by refine uU m (f.at_ i g) n p ?_;intro H' h a c;exact k H' (f.upd i g (a.mono λk d j=>d.2 j) _ h (λk d=>.inl d) (λk d=>by rw[c];exact(f.in_ i g d).2) zO) a c
end
def Bo(h:cs.length=l.length):Ah l 0 cs=cs:=by unfold Ah;simp[h]
def bt(t:ByteArray)(i:Nat):Nat:=match t.data[i]? with
 | some b=>b.toNat
 | none=>256
def Es(h:i<t.size):∃b,t.data[i]?=zY b/\bt t i=b.toNat/\bt t i<256:=by have a:i<t.data.size:=h;refine⟨t.data[i],uD a,?_,?_⟩;{unfold bt;rw[uD a]};unfold bt;rw[uD a];exact UInt8.toNat_lt _
def DD(h:¬i<t.size):bt t i=256:=by have a:¬i<t.data.size:=h;unfold bt;rw[Array.getElem?_eq_none zO]
def EU(h:bt t i≠256):i<t.size:=by apply Classical.byContradiction;intro a;exact h (DD a)
def DQ(c:Nat):Option Nat:=if 48<=c/\c<=57 then zY (c-48)else if 97<=c/\c<=102 then zY (c-87)else zV
def Jy{v:Nat}(h:DQ c=zY v):v<16:=by unfold DQ at h;split at h;{cases h;omega};split at h;{cases h;omega};cases h
def AhT:ByteArray:=⟨#[48,49,50,51,52,53,54,55,56,57,97,98,99,100,101,102]⟩
def WW(c:Nat)(a:c<256):indexByte AhT.data.toList (UInt8.ofNat c)=match DQ c with | some v=>(v:Int) | none=> -1:=by
 have:∀c:Fin 256,indexByte AhT.data.toList (UInt8.ofNat c.1)=match DQ c.1 with | some v=>(v:Int) | none=> -1:=by decide+kernel
 exact this ⟨c,a⟩
def IF(t:ByteArray)(i:Nat):Sum Nat (Nat×Nat):=if bt t i=256 then .inl i else if bt t i=110 then .inr (10,i+1)else if bt t i=114 then .inr (13,i+1)else if bt t i=116 then .inr (9,i+1)
 else if bt t i=120 then match DQ (bt t (i+1))with
  | none=>.inl (i+1)
  | some a=>match DQ (bt t (i+2))with
    | none=>.inl (i+2)
    | some b=>.inr (16*a+b,i+3)
 else if bt t i<32\/126<bt t i\/(48<=bt t i/\bt t i<=57)\/(97<=bt t i/\bt t i<=122)\/(65<=bt t i/\bt t i<=90)then .inl i else .inr (bt t i,i+1)
def CD(t s:ByteArray)(i:Nat):Sum Nat (Nat×Nat):=if bt t i=92 then IF t (i+1)else if bt t i<32\/126<bt t i\/wT s (bt t i)=zW then .inl i else .inr (bt t i,i+1)
def Oe(t:ByteArray)(lo j:Nat)(x:BitVec 256)(f:Nat->BitVec 256->Sum Nat (BitVec 256×Nat)):Sum Nat (BitVec 256×Nat):=if bt t j=45 then(match CD t Hu (j+1)with
  | .inl e=>.inl e
  | .inr (hi,k)=>if hi<lo then .inl (j+1)else f k (x ||| Ba lo hi))
 else f j (x ||| Ba lo lo)
def F1(t:ByteArray):Nat->Nat->BitVec 256->Sum Nat (BitVec 256×Nat)| 0,i,_=>.inl i | n+1,i,x=>if bt t i=93 then .inr (x,i+1)else match CD t Hu i with | .inl e=>.inl e | .inr (lo,j)=>Oe t lo j x (F1 t n)
def Kd(t:ByteArray)(i:Nat):Sum Nat (BitVec 256×Nat):=match F1 t (t.size+1) (if bt t i=94 then i+1 else i) 0#256 with
 | .inl e=>.inl e
 | .inr (x,k)=>.inr (if bt t i=94 then ~~~x else x,k)
def BP(t:ByteArray)(i:Nat):Sum Nat (BitVec 256×Nat):=if bt t i=46 then .inr (~~~(Ba 10 10),i+1)else if bt t i=91 then Kd t (i+1)else match CD t Fy i with
 | .inl e=>.inl e
 | .inr (b,k)=>.inr (Ba b b,k)
def Ah4(h:IF t i= .inr (c,j)):c<256/\i<j/\j<=t.size:=by unfold IF at h;split at h;{cases h};rename_i f;have g:=EU f;obtain⟨b,-,-,l⟩:=Es g;split at h;{cases h;omega};split at h;{cases h;omega};split at h;{cases h;omega};split at h;{split at h;{cases h};rename_i a k;split at h;{cases h};rename_i m d;cases h;have n:=Jy k;have o:=Jy d;have p:i+2<t.size:=EU λe=>by{rw[e]at d;cases d};omega};split at h;{cases h};cases h;omega
def Fp{s:ByteArray}(h:CD t s i= .inr (c,j)):c<256/\i<j/\j<=t.size:=by unfold CD at h;split at h;{have:=Ah4 h;omega};split at h;{cases h};rename_i a;cases h;have d:i<t.size:=EU λe=>a (.inr (.inl zO));obtain⟨b,-,-,f⟩:=Es d;omega
def TA{t:ByteArray}:∀{n i:Nat} {x y:BitVec 256} {k:Nat},F1 t n i x= .inr (y,k)->i<k/\k<=t.size
 | 0,i,x,y,k,h=>by cases h
 | n+1,i,x,y,k,h=>by
   unfold F1 at h;split at h
   ·rename_i d;cases h;have a:i<t.size:=EU λe=>zO
    omega
   ·split at h
    ·cases h
    ·rename_i lo j b;have:=Fp b;unfold Oe at h;split at h
     ·split at h
      ·cases h
      ·rename_i a f c;have:=Fp c;split at h
       ·cases h
       ·have:=TA h;omega
     ·have:=TA h;omega
def Mm{y:BitVec 256}{k:Nat}(h:BP t i= .inr (y,k)):i<k/\k<=t.size:=by unfold BP at h;split at h;{rename_i d;cases h;have f:i<t.size:=EU λe=>zO;omega};split at h;{unfold Kd at h;split at h;{cases h};rename_i x c a;cases h;have:=TA a;split at this<;>omega};split at h;{cases h};rename_i b c a;cases h;have:=Fp a;omega
def HI:prog.underlying 9=zY .string:=rfl
abbrev pU(t:ByteArray)(i:Nat):List v_:=[.string t,A_ i]
abbrev yG(r:Nat)(t:ByteArray)(i:Nat):Pc:=pB 260 r (pU t i)
def EP(c i:Nat):v_:=.iface 27 (.agg #[A_ c,A_ i,.string ⟨#[]⟩])
def NG{r:Nat}(a:S_ H r 260 (pU t i)):BK prog 166 #[U_ r] H (.tuple #[.int .u8 (if bt t i=256 then 0 else(bt t i:Int)),.bool (zT (bt t i≠256))]):=by refine Ai.of_vc func166 rfl (call166 _) (Ap.lex rfl zX (G_ AR ?_));refine C_ (v:=A_ i) E_ (by rw[a.cell];rfl) zA ?_;refine G_ Td ?_;refine C_ (v:=.string t) wG (by rw[a.cell];rfl) zA ?_;by_cases e:i<t.size;{have⟨b,f,c,g⟩:=Es e;have d:zT ((i:Int)<(t.size:Int))=zW:=t_;(conv=>whnf);rw[d];refine Ap.lex rfl zX (G_ Td ?_);refine C_ (v:=.string t) wG (by rw[a.cell];rfl) zA ?_;refine G_ AR ?_;refine C_ (v:=A_ i) E_ (by rw[a.cell];rfl) zA ?_;refine EJ HI rfl f ?_;(conv=>whnf);refine⟨?_,D_.refl _ _⟩;rw[I_ zO,t_,c]};have c:=DD e;have d:zT ((i:Int)<(t.size:Int))=zU:=g_;(conv=>whnf);rw[d];(conv=>whnf);refine⟨?_,D_.refl _ _⟩;rw[J_ c,g_]
def En{r:Nat}{e:Nat}:Cf prog 167 #[U_ r,A_ e] H (λ_ _=>False) (λx H'=>x=EP 10 e/\H'=H):=by refine Cf.of_vc func167 rfl (call167 _) (Au underlying27 rfl _ rfl [A_ 10,A_ e,.string ⟨#[]⟩] rfl ?_);(conv=>whnf);exact⟨rfl,rfl⟩
def CI{α:Type}{ps:List α}{p:α}(h:ps[i]?=zY p):ps.set i p=ps:=by refine yP λj=>?_;by_cases a:i=j;{subst a;rw[yQ (T_.1 h).1,h]};rw[yX a]
def JE{α:Type}{ps:List α}{p q:α}(h:ps[i]?=zY p):(ps.set i q)[i]?=zY q:=yQ (T_.1 h).1
def hY{k r:Nat}(u:t.size<=1152921504606846976)(m:B_ B H0 H ps)(d:ps[k]?=zY (yG r t i)):
  Cf prog 180 #[U_ r] H (λv H'=>∃c:Nat,DQ (bt t i)=zY c/\v= .int .u8 (c:Int)/\B_ B H0 H' (ps.set k (yG r t (i+1))))
   (λx H'=>DQ (bt t i)=zV/\x=EP 10 i/\B_ B H0 H' (ps.set k (yG r t i))):=by refine Cf.of_vc func180 rfl (call180 _) (As.of (Al (NG (m.blk k d)) λH1 g=>?_));have F_:=m.call g;by_cases f:bt t i=256;{rw[J_ f,g_];refine As.of (Al (Tv AhT 0 H1) λH2 e=>?_);have a:=F_.call e;refine B8.run (G_ AR ?_);refine lT (v:=A_ i) E_ ((a.blk k d).ce rfl) ?_;refine As.mk En (λ_ _ h=>h.elim) ?_;rintro _ _ ⟨rfl,rfl⟩;exact⟨by rw[f];rfl,rfl,by rw[CI d];exact a⟩};{have n:=EU f;have⟨b,o,p,j⟩:=Es n;rw[I_ f,t_];refine As.of (Al (Tv AhT (bt t i) H1) λH2 e=>?_);have a:=F_.call e;rw[WW _ j];cases q:DQ (bt t i)with|none=>refine B8.run (G_ AR ?_);refine lT (v:=A_ i) E_ ((a.blk k d).ce rfl) ?_;refine As.mk En (λ_ _ h=>h.elim) ?_;rintro _ _ ⟨rfl,rfl⟩;exact⟨rfl,rfl,by rw[CI d];exact a⟩|some c=>have w:=Jy q;have s:zT ((c:Int)<0)=zU:=g_;refine B8.run ?_;(conv=>whnf);rw[s];refine G_ AR ?_;refine lT (v:=A_ i) E_ ((a.blk k d).ce rfl) ?_;(conv=>whnf);rw[W_ (x:=(i:Int)+1) zO];refine G_ AR (Bb a k E_ d zZ rfl λH3 l=>?_);(conv=>whnf);rw[w8 (x:=(c:Int)) zO zO];(conv=>whnf);exact⟨c,rfl,rfl,l⟩}
def LX(c:I6 H0)(a:B 0)(b:B_ B H0 H ps):I6 H:=⟨c.1.eq (b.old _ a),b.up a⟩
def kL{a:Nat}(c:b<16):a*2^4 ||| b=16*a+b:=by have:=Nat.two_pow_add_eq_or_of_lt (i:=4) (b:=b) (by simpa using c) a;rw[Nat.mul_comm a,<-this]
def bU{k r:Nat}(hE:I6 H0)(K:B 0)(ht:t.size<=1152921504606846976)(st:B_ B H0 H ps)(g:ps[k]?=zY (yG r t i)):
  Cf prog 168 #[U_ r] H (λv H'=>∃c j:Nat,IF t i= .inr (c,j)/\v= .int .u8 (c:Int)/\B_ B H0 H' (ps.set k (yG r t j)))
   (λx H'=>∃e j:Nat,IF t i= .inl e/\x=EP 10 e/\B_ B H0 H' (ps.set k (yG r t j))):=by
 refine Cf.of_vc func168 rfl (call168 _) (As.of (Al (NG (st.blk k g)) λH1 L=>?_));have F_:=st.call L;by_cases A:bt t i=256;{rw[J_ A,g_];refine B8.run ?_;(conv=>whnf);refine G_ AR ?_;refine lT (v:=A_ i) E_ ((F_.blk k g).ce rfl) ?_;refine As.mk En (λ_ _ h=>h.elim) ?_;rintro _ _ ⟨rfl,rfl⟩;exact⟨i,i,by unfold IF;rw[J_ A],rfl,by rw[CI g];exact F_⟩};have hi:=EU A;have⟨b,a9,D,C⟩:=Es hi;rw[I_ A,t_];obtain⟨c,M⟩:∃c,c=bt t i:=⟨_,rfl⟩;rw[<-M]at A C ⊢;refine B8.run (L_ (cs:=Ad0) AnB (LX hE K F_).1 zA ?_);(conv=>whnf);refine Gx.mk [22] (λn:Nat=>[A_ n]) (λn H1=>n<=3/\(∀j,j<n->(SQ j).1≠c)/\B_ B H0 H1 ps) (λn _=>3-n) ?_ ?_;{(conv=>whnf);exact⟨0,rfl,zO,λj I=>zO,F_⟩};{
 rintro n G N ⟨J,y,f⟩;refine AB.m2 (λhz=>?_) (λhz=>?_);{have O:Ad0.toArray.extract (n*2) (n*2+2)= #[.int .u8 ((SQ n).1:Int),.int .u8 ((SQ n).2:Int)]:=by{have:n=0\/n=1\/n=2:=zO;rcases this with rfl | rfl | rfl<;>rfl};have P:(SQ n).1=c->IF t i= .inr ((SQ n).2,i+1):=λe=>by{have:n=0\/n=1\/n=2:=zO;unfold IF;rw[<-M,I_ A];rcases this with rfl | rfl | rfl<;>(subst e;rfl)};have ab:(SQ n).1<256/\(SQ n).2<256:=by{have:n=0\/n=1\/n=2:=zO;rcases this with rfl | rfl | rfl<;>decide};refine pK AnH AnA zO zO ?_;rw[O',O];generalize hl:(SQ n).1=l at*;generalize (SQ n).2=v at*;refine Af (.agg #[.int .u8 0,.int .u8 0]) [.int .u8 0,.int .u8 0] AnW rfl ?_;intro p2 H2 Q R D S;have T:=f.box Q R D S;refine AI (cs:=[.int .u8 (l:Int),.int .u8 (v:Int)]) T ps.length rfl (by rw[zL (M_ _),wZ];rfl) (M_ _) rfl λH3 s=>?_;rw[tD _ _ (M_ _),wZ,Ar (by rfl)]at s;have C:S_ H3 p2 303 [.int .u8 (l:Int),.int .u8 (v:Int)]:=s.blk ps.length (by rw[zL (M_ _),wZ];rfl);have E:(ps++[pB 303 p2 [.int .u8 (l:Int),.int .u8 (v:Int)]])[k]?=zY (yG r t i):=by{rw[yB (T_.1 g).1];exact g};have F:∀{H':Aa} {q:Pc},B_ B H0 H' ((ps++[pB 303 p2 [.int .u8 (l:Int),.int .u8 (v:Int)]]).set k q)->B_ B H0 H' (ps.set k q):=λh=>by{rw[fC _ _ (T_.1 g).1]at h;exact⟨h.old,h.lt0,h.size,λp g=>h.oks p (yO _ g),λp g=>h.rng p (yO _ g),(tC.1 h.dis).1⟩};(conv=>whnf);(try refine B8.run ?_);refine G_ AhI ?_;refine C_ (v:=.int .u8 (l:Int)) vZ (by rw[C.cell];rfl) zA ?_;by_cases U:l=c;{have d:((l:Int)==(c:Int))=zW:=by{rw[U];exact beq_self_eq_true _};(conv=>whnf);rw[d];refine G_ AR ?_;refine lT (v:=A_ i) E_ ((s.blk k E).ce rfl) ?_;(conv=>whnf);rw[W_ (x:=(i:Int)+1) zO];refine G_ AR (Bb s k E_ E zZ rfl λH4 m=>?_);have V:S_ H4 p2 303 [.int .u8 (l:Int),.int .u8 (v:Int)]:=m.blk ps.length (by{rw[yX (by have:=(T_.1 g).1;omega),zL (M_ _),wZ];rfl});refine G_ AhJ ?_;refine C_ (v:=.int .u8 (v:Int)) vZ (by rw[V.cell];rfl) zA ?_;(conv=>whnf);exact⟨v,i+1,P U,rfl,F m⟩};{have d:((l:Int)==(c:Int))=zU:=beq_eq_false_iff_ne.2 zO;(conv=>whnf);rw[d];(conv=>whnf);rw[R_ n zO];refine⟨rfl,n+1,rfl,⟨zO,λj I=>?_,⟨s.old,s.lt0,s.size,λp g=>s.oks p (yO _ g),λp g=>s.rng p (yO _ g),(tC.1 s.dis).1⟩⟩,zO⟩;rcases fF (fG I)with I | rfl;{exact y j I};{rw[hl];exact U}}};{
 obtain rfl:n=3:=zO
 have n0:(110:Nat)≠c:=y 0 zO;have n1:(114:Nat)≠c:=y 1 zO;have n2:(116:Nat)≠c:=y 2 zO;have o:IF t i=(if c=120 then match DQ (bt t (i+1))with
   | none=>.inl (i+1)
   | some a=>match DQ (bt t (i+2))with
     | none=>.inl (i+2)
     | some b=>.inr (16*a+b,i+3)
  else if c<32\/126<c\/(48<=c/\c<=57)\/(97<=c/\c<=122)\/(65<=c/\c<=90)then .inl i else .inr (c,i+1)):=by
  unfold IF;rw[<-M,I_ A,I_ (Ne.symm n0),I_ (Ne.symm n1),I_ (Ne.symm n2)]
 by_cases W:c=120;{rw[J_ W]at o;have d:((c:Int)==(120:Int))=zW:=by{rw[W];rfl};(conv=>whnf);(try refine B8.run ?_);(conv=>whnf);rw[d];refine G_ AR ?_;refine lT (v:=A_ i) E_ ((f.blk k g).ce rfl) ?_;(conv=>whnf);rw[W_ (x:=(i:Int)+1) zO];refine G_ AR (Bb f k E_ g zZ rfl λH4 m=>?_);have X:(ps.set k (yG r t (i+1)))[k]?=zY (yG r t (i+1)):=JE g;replace m:B_ B H0 H4 (ps.set k (yG r t (i+1))):=m;refine As.mk (hY ht m X) ?_ ?_;{rintro _ H5 ⟨a,Y,rfl,u⟩;have ae:=Jy Y;rw[vO]at u;have Z:(ps.set k (yG r t (i+1+1)))[k]?=zY (yG r t (i+1+1)):=JE g;refine mT (b:=4) zQ (Tu zO) (As.mk (hY ht u Z) ?_ ?_);{rintro _ H6 ⟨b2,z,rfl,w⟩;have a0:=Jy z;rw[vO]at w;refine rB (Tu zO) (Tu zO) ?_;rw[kL a0];(conv=>whnf);exact⟨16*a+b2,i+3,by rw[o,Y];show(match DQ (bt t (i+1+1))with | none=>_ | some b=>_)=_;rw[z],rfl,w⟩};{rintro _ H6 ⟨J,rfl,w⟩;rw[vO]at w;exact⟨i+2,i+2,by rw[o,Y];show(match DQ (bt t (i+1+1))with | none=>_ | some b=>_)=_;rw[J],rfl,w⟩}};{rintro _ H5 ⟨J,rfl,u⟩;rw[vO]at u;exact⟨i+1,i+1,by rw[o,J],rfl,u⟩}};{rw[I_ W]at o;have d:((c:Int)==(120:Int))=zU:=beq_eq_false_iff_ne.2 zO;(conv=>whnf);(try refine B8.run ?_);(conv=>whnf);rw[d];clear d;refine B8.run ?_;(conv=>whnf);by_cases a1:c<32;{skip;have d:zT ((c:Int)<32)=zW:=t_;(conv=>whnf);rw[d];clear d;(conv=>whnf);refine G_ AR ?_;refine lT (v:=A_ i) E_ ((f.blk k g).ce rfl) ?_;refine As.mk En (λ_ _ h=>h.elim) ?_;rintro _ _ ⟨rfl,rfl⟩;exact⟨i,i,by rw[o,J_ zO],rfl,by rw[CI g];exact f⟩};{skip;have d:zT ((c:Int)<32)=zU:=g_;(conv=>whnf);rw[d];clear d;by_cases a2:126<c;{skip;have d:zT ((c:Int)>126)=zW:=t_;(conv=>whnf);rw[d];clear d;(conv=>whnf);refine G_ AR ?_;refine lT (v:=A_ i) E_ ((f.blk k g).ce rfl) ?_;refine As.mk En (λ_ _ h=>h.elim) ?_;rintro _ _ ⟨rfl,rfl⟩;exact⟨i,i,by rw[o,J_ zO],rfl,by rw[CI g];exact f⟩};{skip;have d:zT ((c:Int)>126)=zU:=g_;(conv=>whnf);rw[d];clear d;by_cases a3:48<=c;{skip;have d:zT ((c:Int)>=48)=zW:=t_;(conv=>whnf);rw[d];clear d;by_cases a4:c<=57;{skip;have d:zT ((c:Int)<=57)=zW:=t_;(conv=>whnf);rw[d];clear d;(conv=>whnf);refine G_ AR ?_;refine lT (v:=A_ i) E_ ((f.blk k g).ce rfl) ?_;refine As.mk En (λ_ _ h=>h.elim) ?_;rintro _ _ ⟨rfl,rfl⟩;exact⟨i,i,by rw[o,J_ zO],rfl,by rw[CI g];exact f⟩};{skip;have d:zT ((c:Int)<=57)=zU:=g_;(conv=>whnf);rw[d];clear d;by_cases a5:97<=c;{skip;have d:zT ((c:Int)>=97)=zW:=t_;(conv=>whnf);rw[d];clear d;by_cases a6:c<=122;{skip;have d:zT ((c:Int)<=122)=zW:=t_;(conv=>whnf);rw[d];clear d;(conv=>whnf);refine G_ AR ?_;refine lT (v:=A_ i) E_ ((f.blk k g).ce rfl) ?_;refine As.mk En (λ_ _ h=>h.elim) ?_;rintro _ _ ⟨rfl,rfl⟩;exact⟨i,i,by rw[o,J_ zO],rfl,by rw[CI g];exact f⟩};{skip;have d:zT ((c:Int)<=122)=zU:=g_;(conv=>whnf);rw[d];clear d;have d:zT ((c:Int)>=65)=zW:=t_;(conv=>whnf);rw[d];clear d;have d:zT ((c:Int)<=90)=zU:=g_;(conv=>whnf);rw[d];clear d;(conv=>whnf);refine G_ AR ?_;refine lT (v:=A_ i) E_ ((f.blk k g).ce rfl) ?_;(conv=>whnf);rw[W_ (x:=(i:Int)+1) zO];refine G_ AR (Bb f k E_ g zZ rfl λH4 m=>?_);(conv=>whnf);exact⟨c,i+1,by rw[o,I_ zO],rfl,m⟩}};{skip;have d:zT ((c:Int)>=97)=zU:=g_;(conv=>whnf);rw[d];clear d;by_cases a7:65<=c;{skip;have d:zT ((c:Int)>=65)=zW:=t_;(conv=>whnf);rw[d];clear d;by_cases a8:c<=90;{skip;have d:zT ((c:Int)<=90)=zW:=t_;(conv=>whnf);rw[d];clear d;(conv=>whnf);refine G_ AR ?_;refine lT (v:=A_ i) E_ ((f.blk k g).ce rfl) ?_;refine As.mk En (λ_ _ h=>h.elim) ?_;rintro _ _ ⟨rfl,rfl⟩;exact⟨i,i,by rw[o,J_ zO],rfl,by rw[CI g];exact f⟩};{skip;have d:zT ((c:Int)<=90)=zU:=g_;(conv=>whnf);rw[d];clear d;(conv=>whnf);refine G_ AR ?_;refine lT (v:=A_ i) E_ ((f.blk k g).ce rfl) ?_;(conv=>whnf);rw[W_ (x:=(i:Int)+1) zO];refine G_ AR (Bb f k E_ g zZ rfl λH4 m=>?_);(conv=>whnf);exact⟨c,i+1,by rw[o,I_ zO],rfl,m⟩}};{skip;have d:zT ((c:Int)>=65)=zU:=g_;(conv=>whnf);rw[d];clear d;(conv=>whnf);refine G_ AR ?_;refine lT (v:=A_ i) E_ ((f.blk k g).ce rfl) ?_;(conv=>whnf);rw[W_ (x:=(i:Int)+1) zO];refine G_ AR (Bb f k E_ g zZ rfl λH4 m=>?_);(conv=>whnf);exact⟨c,i+1,by rw[o,I_ zO],rfl,m⟩}}}};{skip;have d:zT ((c:Int)>=48)=zU:=g_;(conv=>whnf);rw[d];clear d;have d:zT ((c:Int)>=97)=zU:=g_;(conv=>whnf);rw[d];clear d;have d:zT ((c:Int)>=65)=zU:=g_;(conv=>whnf);rw[d];clear d;(conv=>whnf);refine G_ AR ?_;refine lT (v:=A_ i) E_ ((f.blk k g).ce rfl) ?_;(conv=>whnf);rw[W_ (x:=(i:Int)+1) zO];refine G_ AR (Bb f k E_ g zZ rfl λH4 m=>?_);(conv=>whnf);exact⟨c,i+1,by rw[o,I_ zO],rfl,m⟩}}}}}}
def Pj{k r:Nat}{s:ByteArray}(I:I6 H0)(u:B 0)(J:t.size<=1152921504606846976)(E:B_ B H0 H ps)(d:ps[k]?=zY (yG r t i)):
  Cf prog 152 #[U_ r,.string s] H (λv H'=>∃c j:Nat,CD t s i= .inr (c,j)/\v= .int .u8 (c:Int)/\B_ B H0 H' (ps.set k (yG r t j)))
   (λx H'=>∃e j:Nat,CD t s i= .inl e/\x=EP 10 e/\B_ B H0 H' (ps.set k (yG r t j))):=by
 refine Cf.of_vc func152 rfl (call152 _) (As.of (Al (NG (E.blk k d)) λH1 w=>?_));have F_:=E.call w;by_cases p:bt t i=256;{rw[J_ p,g_];refine B8.run ?_;(conv=>whnf);refine G_ AR ?_;refine lT (v:=A_ i) E_ ((F_.blk k d).ce rfl) ?_;refine As.mk En (λ_ _ h=>h.elim) ?_;rintro _ _ ⟨rfl,rfl⟩;exact⟨i,i,by unfold CD;rw[p,I_ zQ,J_ (.inr (.inl zQ))],rfl,by rw[CI d];exact F_⟩};have K:=EU p;have⟨b,L,M,y⟩:=Es K;rw[I_ p,t_];obtain⟨c,z⟩:∃c,c=bt t i:=⟨_,rfl⟩;rw[<-z]at p y ⊢;by_cases n:c=92;{have f:((c:Int)==(92:Int))=zW:=by{rw[n];rfl};have o:CD t s i=IF t (i+1):=by{unfold CD;rw[<-z,J_ n]};(conv=>whnf);rw[f];refine G_ AR ?_;refine lT (v:=A_ i) E_ ((F_.blk k d).ce rfl) ?_;(conv=>whnf);rw[W_ (x:=(i:Int)+1) zO];refine G_ AR (Bb F_ k E_ d zZ rfl λH4 g=>?_);replace g:B_ B H0 H4 (ps.set k (yG r t (i+1))):=g;have A:(ps.set k (yG r t (i+1)))[k]?=zY (yG r t (i+1)):=JE d;refine As.mk (bU I u J g A) ?_ ?_;{rintro _ H5 ⟨a,j,C,rfl,l⟩;rw[vO]at l;(conv=>whnf);exact⟨a,j,by rw[o];exact C,rfl,l⟩};{rintro _ H5 ⟨e,j,C,rfl,l⟩;rw[vO]at l;exact⟨e,j,by rw[o];exact C,rfl,l⟩}};have N:((c:Int)==(92:Int))=zU:=beq_eq_false_iff_ne.2 zO;have o:CD t s i=if c<32\/126<c\/wT s c=zW then .inl i else .inr (c,i+1):=by unfold CD;rw[<-z,I_ n]
 (conv=>whnf);rw[N];refine B8.run ?_;(conv=>whnf);by_cases F:c<32;{skip;have f:zT ((c:Int)<32)=zW:=t_;(conv=>whnf);rw[f];clear f;(conv=>whnf);refine G_ AR ?_;refine lT (v:=A_ i) E_ ((F_.blk k d).ce rfl) ?_;refine As.mk En (λ_ _ h=>h.elim) ?_;rintro _ _ ⟨rfl,rfl⟩;exact⟨i,i,by rw[o,J_ zO],rfl,by rw[CI d];exact F_⟩};{skip;have f:zT ((c:Int)<32)=zU:=g_;(conv=>whnf);rw[f];clear f;by_cases G:126<c;{skip;have f:zT ((c:Int)>126)=zW:=t_;(conv=>whnf);rw[f];clear f;(conv=>whnf);refine G_ AR ?_;refine lT (v:=A_ i) E_ ((F_.blk k d).ce rfl) ?_;refine As.mk En (λ_ _ h=>h.elim) ?_;rintro _ _ ⟨rfl,rfl⟩;exact⟨i,i,by rw[o,J_ zO],rfl,by rw[CI d];exact F_⟩};{skip;have f:zT ((c:Int)>126)=zU:=g_;(conv=>whnf);rw[f];clear f;refine As.of (Al (Tv s c H1) λH2 D=>?_);have m:=F_.call D;(conv=>whnf);rw[Aj9];cases q:wT s c with|true=>(conv=>whnf);refine G_ AR ?_;refine lT (v:=A_ i) E_ ((m.blk k d).ce rfl) ?_;refine As.mk En (λ_ _ h=>h.elim) ?_;rintro _ _ ⟨rfl,rfl⟩;exact⟨i,i,by rw[o,J_ (.inr (.inr q))],rfl,by rw[CI d];exact m⟩|false=>(conv=>whnf);refine G_ AR ?_;refine lT (v:=A_ i) E_ ((m.blk k d).ce rfl) ?_;(conv=>whnf);rw[W_ (x:=(i:Int)+1) zO];refine G_ AR (Bb m k E_ d zZ rfl λH4 g=>?_);(conv=>whnf);exact⟨c,i+1,by rw[o,I_ (by rw[q];simp;omega)],rfl,g⟩}}
def BL(a:ReM):ReM:=.alt a .eps
def qD(q:Option ReM)(p:ReM):ReM:=match q with
 | none=>p
 | some q=>.cat q p
def DR(a:ReM)(m:Nat):Nat->Option ReM | 0=>zV | k+1=>zY (qD (DR a m k) (if k<m then a else BL a))
def C9(a:ReM)(m:Nat)(n:Int):ReM:=if n<0 then(if m=0 then .star a else .cat ((DR a m m).getD .eps) (.star a))else if n=0 then .eps else(DR a m n.toNat).getD .eps
structure AF where
 place:Int
 alt:Option ReM
 meet:Option ReM
 sign:Nat
 row:Option ReM
 factor:Option ReM
def AC(f:AF):AF:=match f.factor with
 | none=>f
 | some p=>{f with row:=zY (qD f.row p),factor:=zV}
def C5(f:AF):AF:=let g:=AC f
 let r:=g.row.getD .eps
 {g with meet:=zY (match g.meet with | none=>r | some q=>if g.sign=38 then .and_ q r else .minus q r),row:=zV}
def CQ(f:AF):AF:=let g:=C5 f
 let r:=g.meet.getD .eps
 {g with alt:=zY (match g.alt with | none=>r | some q=>.alt q r),meet:=zV}
def Fq(place:Int):AF:=⟨place,zV,zV,0,zV,zV⟩
def E0(t:ByteArray)(i:Nat):Bool:=zT (48<=bt t i/\bt t i<=57)
def Ca(t:ByteArray):Nat->Nat->Nat->Nat×Nat | 0,i,v=>(v,i)| k+1,i,v=>if E0 t i then Ca t k (i+1) (10*v+(bt t i-48))else(v,i)
def upM(t:ByteArray)(m i:Nat):Sum (Nat×Nat) (Int×Nat):=if bt t i=44 then(if bt t (i+1)=125 then .inr (-1,i+1)else if E0 t (i+1)then .inr (((Ca t 3 (i+1) 0).1:Int),(Ca t 3 (i+1) 0).2)else .inl (20,i+1))else .inr ((m:Int),i)
def Jk(t:ByteArray)(from_ m:Nat)(n:Int)(i:Nat):Sum (Nat×Nat) (Nat×Int×Nat):=if bt t i=125 then(if 255<m\/255<n\/(0<=n/\n<(m:Int))then .inl (22,from_)else .inr (m,n,i+1))else .inl (20,i)
def Cj(t:ByteArray)(from_:Nat):Sum (Nat×Nat) (Nat×Int×Nat):=if E0 t (from_+1)then(match upM t (Ca t 3 (from_+1) 0).1 (Ca t 3 (from_+1) 0).2 with
  | .inl e=>.inl e
  | .inr (n,i)=>Jk t from_ (Ca t 3 (from_+1) 0).1 n i)
 else .inl (20,from_+1)
def Ii{t:ByteArray}:∀(k i v:Nat),i<=(Ca t k i v).2/\(Ca t k i v).2<=i+k/\(i<=t.size->(Ca t k i v).2<=t.size)
 | 0,i,v=>⟨M_ _,M_ _,λh=>h⟩
 | k+1,i,v=>by
   unfold Ca;split
   ·rename_i h;have⟨b,c,a⟩:=Ii (t:=t) k (i+1) (10*v+(bt t i-48));unfold E0 at h;have h:=of_decide_eq_true h;have d:i<t.size:=EU zO;exact⟨zO,zO,λ_=>a zO⟩
   ·exact⟨M_ _,zO,λh=>h⟩
def Pi{t:ByteArray}:∀(k i v:Nat),(Ca t k i v).1<(v+1)*10^k
 | 0,i,v=>by unfold Ca;simp
 | k+1,i,v=>by
   unfold Ca;split
   ·rename_i h;unfold E0 at h;have h:=of_decide_eq_true h;have a:=Pi (t:=t) k (i+1) (10*v+(bt t i-48));refine wV a ?_;rw[Nat.pow_succ,Nat.mul_comm (10^k) 10,<-Nat.mul_assoc];exact Nat.mul_le_mul_right _ zO
   ·show v<(v+1)*10^(k+1);have:1<=10^(k+1):=Nat.one_le_pow _ _ zO;have:=Nat.mul_le_mul (M_ (v+1)) this;omega
def LL{p m:Nat}{n:Int}(h:Cj t p= .inr (m,n,j)):p<j/\j<=t.size/\m<=255/\n<=255/\(0<=n->(m:Int)<=n)/\ -1<=n:=by unfold Cj at h;split at h;{obtain⟨e,f,-⟩:=Ii (t:=t) 3 (p+1) 0;generalize Ca t 3 (p+1) 0=q at h e f;split at h;{cases h};rename_i g c a;have b:q.2<=c/\ -1<=g:=by{unfold upM at a;split at a;{split at a;{cases a;exact⟨zO,zO⟩};split at a;{obtain⟨i,k,-⟩:=Ii (t:=t) 3 (q.2+1) 0;cases a;exact⟨zO,zO⟩};cases a};cases a;exact⟨M_ _,zO⟩};unfold Jk at h;split at h;{rename_i d;split at h;{cases h};rename_i l;cases h;have:c<t.size:=EU zO;refine⟨zO,zO,?_,?_,?_,b.2⟩<;>omega};cases h};cases h
def GJ(c:Nat):Bool:=c==42|| c==43|| c==63|| c==123
def Fs(t:ByteArray)(i:Nat):Sum (Nat×Nat) (Nat×Int×Nat):=if bt t i=42 then .inr (0,-1,i+1)else if bt t i=43 then .inr (1,-1,i+1)else if bt t i=63 then .inr (0,1,i+1)else Cj t i
structure RdS where
 i:Nat
 f:AF
 fs:List AF
def Cv(t:ByteArray)(s:RdS):Sum (Nat×Nat) RdS:=if GJ (bt t s.i)then(match s.f.factor with
  | none=>.inl (20,s.i)
  | some a=>match Fs t s.i with
    | .inl e=>.inl e
    | .inr (m,n,k)=>.inr ⟨k,{s.f with factor:=zY (C9 a m n)},s.fs⟩)
 else if bt t s.i=124 then .inr ⟨s.i+1,CQ s.f,s.fs⟩
 else if bt t s.i=38\/bt t s.i=45 then .inr ⟨s.i+1,{C5 s.f with sign:=bt t s.i},s.fs⟩
 else if bt t s.i=41 then(match s.fs with
  | []=>.inl (20,s.i)
  | g::r=>.inr ⟨s.i+1,{g with factor:=(CQ s.f).alt},r⟩)
 else if bt t s.i=40 then(if 1000<=s.fs.length then .inl (23,s.i)else .inr ⟨s.i+1,Fq s.i,AC s.f::s.fs⟩)
 else match BP t s.i with
  | .inl e=>.inl (10,e)
  | .inr (x,k)=>.inr ⟨k,{AC s.f with factor:=zY (.cls x)},s.fs⟩
variable{s:RdS}
def VD{c:RdS}(h:Cv t s= .inr c)(b:s.i<t.size):s.i<c.i/\c.i<=t.size:=by unfold Cv at h;split at h;{rename_i e;split at h;{cases h};split at h;{cases h};rename_i m n k a;cases h;unfold Fs at a;split at a;{cases a;exact⟨uP _,b⟩};split at a;{cases a;exact⟨uP _,b⟩};split at a;{cases a;exact⟨uP _,b⟩};have:=LL a;exact⟨this.1,this.2.1⟩};split at h;{cases h;exact⟨uP _,b⟩};split at h;{cases h;exact⟨uP _,b⟩};split at h;{split at h;{cases h};cases h;exact⟨uP _,b⟩};split at h;{split at h;{cases h};cases h;exact⟨uP _,b⟩};split at h;{cases h};rename_i x k d;cases h;exact Mm d
def rD(s:RdS):Sum (Nat×Int) ReM:=match s.fs with
 | []=>let r:=(CQ s.f).alt.getD .eps;if 2000<r.nodes then .inl (24,0)else .inr r
 | _::_=>.inl (21,s.f.place)
def nU(e:Nat×Nat):Nat×Int:=(e.1,(e.2:Int))
def IT(t:ByteArray):Nat->RdS->Sum (Nat×Int) ReM | 0,s=>rD s | n+1,s=>if s.i<t.size then(match Cv t s with | .inl e=>.inl (nU e)| .inr s'=>IT t n s')else rD s
def Ch(t:ByteArray)(s:RdS):Sum (Nat×Int) ReM:=IT t (t.size-s.i) s
def GT{t:ByteArray}:∀(n m:Nat) (s:RdS),t.size-s.i<=n->t.size-s.i<=m->IT t n s=IT t m s
 | 0,0,s,_,_=>rfl
 | 0,m+1,s,h,_=>by unfold IT;rw[I_ (by omega)]
 | n+1,0,s,_,h=>by unfold IT;rw[I_ (by omega)]
 | n+1,m+1,s,h1,h2=>by
   unfold IT;by_cases a:s.i<t.size
   ·rw[J_ a,J_ a];cases hs:Cv t s with
    | inl e=>rfl
    | inr b=>
      have:=VD hs a;exact GT n m b zO zO
   ·rw[I_ a,I_ a]
def EY{a:RdS}(b:s.i<t.size)(h:Cv t s= .inr a):Ch t s=Ch t a:=by have c:=VD h b;have e:Ch t s=IT t (t.size-s.i-1+1) s:=GT _ _ _ (M_ _) zO;rw[e,IT,J_ b,h];exact GT _ _ _ zO (M_ _)
def Ft{e:Nat×Nat}(a:s.i<t.size)(h:Cv t s= .inl e):Ch t s= .inl (nU e):=by have b:Ch t s=IT t (t.size-s.i-1+1) s:=GT _ _ _ (M_ _) zO;rw[b,IT,J_ a,h]
def Qz(a:¬s.i<t.size):Ch t s=rD s:=by unfold Ch;rw[(zO:t.size-s.i=0)];rfl
def Dd(t:ByteArray):Sum (Nat×Int) ReM:=if 1048576<t.size then .inl (1,0)else Ch t ⟨0,Fq (-1),[]⟩
inductive RwM
 | eps
 | cls (s:BitVec 256)
 | cat (a b:RwM)
 | alt (a b:RwM)
 | and_ (a b:RwM)
 | minus (a b:RwM)
 | rep (a:RwM) (m n:Int)
def Bh(m:Int):Nat:=if m= -2 then 1 else m.toNat
def RwM.den:RwM->ReM | .eps=>.eps | .cls s=>.cls s | .cat a b=>.cat a.den b.den | .alt a b=>.alt a.den b.den | .and_ a b=>.and_ a.den b.den | .minus a b=>.minus a.den b.den | .rep a m n=>C9 a.den (Bh m) n
def AT(op x y:Int):h_:=⟨op,0#256,x,y,0,0⟩
def Ef(s:BitVec 256):h_:=⟨1,s,0,0,0,0⟩
def EE(x m n:Int):h_:=⟨7,0#256,x,0,m,n⟩
def NY(m n:Int):Prop:=(m= -2/\n= -1)\/(0<=m/\m<=255/\ -1<=n/\n<=255/\(0<=n->m<=n))
def NU(ws:List RwM)(d:h_):RwM->Prop | .eps=>d=AT 0 0 0 | .cls s=>d=Ef s | .cat a b=>∃j k:Nat,d=AT 2 j k/\ws[j]?=zY a/\ws[k]?=zY b | .alt a b=>∃j k:Nat,d=AT 3 j k/\ws[j]?=zY a/\ws[k]?=zY b | .and_ a b=>∃j k:Nat,d=AT 5 j k/\ws[j]?=zY a/\ws[k]?=zY b | .minus a b=>∃j k:Nat,d=AT 6 j k/\ws[j]?=zY a/\ws[k]?=zY b | .rep a m n=>∃j:Nat,d=EE j m n/\ws[j]?=zY a/\NY m n
inductive Raw:List h_->List RwM->Prop
 | nil:Raw [] []
 | add {ds:List h_} {ws:List RwM} {d:h_} {w:RwM}:Raw ds ws->NU ws d w->Raw (ds++[d]) (ws++[w])
def Raw.len{ds:List h_}{a:List RwM}(h:Raw ds a):ds.length=a.length:=by induction h with|nil=>rfl|add _ _ b=>simp[b]
variable{us Z:List RwM}
def NU.more{c:List RwM}{d:h_}:∀{w:RwM},NU c d w->NU (c++us) d w | .eps,h=>h | .cls s,h=>h | .cat a b,⟨j,k,h1,h2,h3⟩=>⟨j,k,h1,IK h2,IK h3⟩ | .alt a b,⟨j,k,h1,h2,h3⟩=>⟨j,k,h1,IK h2,IK h3⟩ | .and_ a b,⟨j,k,h1,h2,h3⟩=>⟨j,k,h1,IK h2,IK h3⟩ | .minus a b,⟨j,k,h1,h2,h3⟩=>⟨j,k,h1,IK h2,IK h3⟩ | .rep a m n,⟨j,h1,h2,h3⟩=>⟨j,h1,IK h2,h3⟩
def aD{α:Type}{l:List α}{x y:α}(h:(l++[x])[i]?=zY y):l[i]?=zY y\/(i=l.length/\y=x):=by by_cases a:i<l.length;{rw[yB a]at h;exact .inl h};rw[zL zO]at h;have:i-l.length=0:=by{have:=(T_.1 h).1;simp at this;omega};rw[this]at h;exact .inr ⟨zO,by simpa using h.symm⟩
section
variable{ds:List h_}{a:List RwM}
def Raw.at_(h:Raw ds a):∀{i:Nat} {w:RwM},a[i]?=zY w->∃d b vs,ds[i]?=zY d/\a=b++vs/\b.length=i/\NU b d w:=by induction h with|nil=>intro i w c;cases c|@add ds a d w h1 h2 ih=>{intro i e c;rcases aD c with c | ⟨rfl,rfl⟩;{obtain⟨d',b,vs,f,rfl,g,j⟩:=ih c;exact⟨d',b,vs++[w],IK f,zZ,g,j⟩};refine⟨d,a,[e],?_,rfl,rfl,h2⟩;rw[<-h1.len];simp}
def Raw.at2(h:Raw ds a){w:RwM}(b:a[i]?=zY w):∃d,ds[i]?=zY d/\NU a d w:=by obtain⟨d,f,vs,c,rfl,-,e⟩:=h.at_ b;exact⟨d,c,e.more⟩
end
structure J' where
 place:Int
 alt:Int
 meet:Int
 sign:Nat
 row:Int
 factor:Int
def rW(f:J'):List v_:=[A_ f.place,A_ f.alt,A_ f.meet,.int .u8 (f.sign:Int),A_ f.row,A_ f.factor]
def tFr:Ty J' where
 size:=6
 rep _ _ cs d:=cs=rW d
 len h:=by rw[h];rfl
 frame h _:=h
 mono h _:=h
def Y8(d:J'):(rW d).all (·.oneCell')=zW:=rfl
def IxR(ws:List RwM)(x:Int):Option ReM->Prop | none=>x= -1 | some r=>∃(j:Nat) (w:RwM),x=(j:Int)/\ws[j]?=zY w/\w.den=r
structure FrR(ws:List RwM)(f:J')(a:AF):Prop where
 place:f.place=a.place
 alt:IxR ws f.alt a.alt
 meet:IxR ws f.meet a.meet
 sign:f.sign=a.sign
 row:IxR ws f.row a.row
 factor:IxR ws f.factor a.factor
def IxR.more{a:List RwM}:∀{o:Option ReM},IxR a x o->IxR (a++us) x o | none,h=>h | some r,⟨j,w,h1,h2,h3⟩=>⟨j,w,h1,IK h2,h3⟩
def FrR.more{b:List RwM}{f:J'}{a:AF}(h:FrR b f a):FrR (b++us) f a:=⟨h.place,h.alt.more,h.meet.more,h.sign,h.row.more,h.factor.more⟩
def IxR.neg{a:List RwM}{o:Option ReM}(h:IxR a x o):x<0↔o=zV:=by cases o with|none=>exact⟨λ_=>rfl,λ_=>by rw[show x= -1 from h];decide⟩|some r=>obtain⟨j,w,rfl,-⟩:=h;exact⟨λh=>absurd h zO,λh=>by cases h⟩
def IxR.new{ds:List h_}{a:List RwM}{w:RwM}(h:Raw ds a)(b:w.den=r):IxR (a++[w]) (ds.length:Int) (zY r):=⟨ds.length,w,rfl,by rw[h.len];simp,b⟩
def Bt(ds:List h_)(f:J'):List h_×J':=if f.factor<0 then(ds,f)else if f.row<0 then(ds,{f with row:=f.factor,factor:= -1})else(ds++[AT 2 f.row f.factor],{f with row:=ds.length,factor:= -1})
def Da(ds:List h_)(f:J'):List h_×J':=if f.row<0 then(ds++[AT 0 0 0],{f with row:=ds.length})else(ds,f)
def F5(ds:List h_)(f:J'):List h_×J':=if f.meet<0 then(ds,{f with meet:=f.row,row:= -1})else(ds++[AT (if f.sign=38 then 5 else 6) f.meet f.row],{f with meet:=ds.length,row:= -1})
def Dg(ds:List h_)(f:J'):List h_×J':=F5 (Da (Bt ds f).1 (Bt ds f).2).1 (Da (Bt ds f).1 (Bt ds f).2).2
def U7(ds:List h_)(f:J'):List h_×J':=if f.alt<0 then(ds,{f with alt:=f.meet,meet:= -1})else(ds++[AT 3 f.alt f.meet],{f with alt:=ds.length,meet:= -1})
def EM(ds:List h_)(f:J'):List h_×J':=U7 (Dg ds f).1 (Dg ds f).2
def Il(ds:List h_)(f:J'):(Bt ds f).1.length<=ds.length+1:=by unfold Bt;split;{simp};split<;>simp
def PR(ds:List h_)(f:J'):(Da ds f).1.length<=ds.length+1:=by unfold Da;split<;>simp
def eQ(ds:List h_)(f:J'):(F5 ds f).1.length<=ds.length+1:=by unfold F5;split<;>simp
def cL(ds:List h_)(f:J'):(U7 ds f).1.length<=ds.length+1:=by unfold U7;split<;>simp
def Lf(ds:List h_)(f:J'):(Dg ds f).1.length<=ds.length+3:=by unfold Dg;have a:=Il ds f;have b:=PR (Bt ds f).1 (Bt ds f).2;have c:=eQ (Da (Bt ds f).1 (Bt ds f).2).1 (Da (Bt ds f).1 (Bt ds f).2).2;omega
def LQ(ds:List h_)(f:J'):(EM ds f).1.length<=ds.length+4:=by unfold EM;have a:=Lf ds f;have b:=cL (Dg ds f).1 (Dg ds f).2;omega
structure Sv(ws:List RwM)(q:List h_×J')(a:AF):Prop where
 ex:∃us,Raw q.1 (ws++us)/\FrR (ws++us) q.2 a
variable{a':AF}
def Sv.then_{c:List RwM}{q d:List h_×J'}{a:AF}(h:Sv c q a)(k:∀b,Raw q.1 b->FrR b q.2 a->Sv b d a'):Sv c d a':=by have⟨j,g,i⟩:=h;have⟨vs,e,f⟩:=k _ g i;rw[zS]at e f;exact⟨_,e,f⟩
section
variable{ds:List h_}
def O4{b:List RwM}{f:J'}{a:AF}(h:Raw ds b)(g:FrR b f a):Sv b (Bt ds f) (AC a):=by unfold Bt AC;cases c:a.factor with|none=>rw[J_ (g.factor.neg.2 c)];exact⟨[],by simpa using h,by simpa using g⟩|some p=>{rw[I_ (λe=>by have:=g.factor.neg.1 e;rw[c]at this;cases this)];have d:=g.factor;rw[c]at d;cases i:a.row with|none=>rw[J_ (g.row.neg.2 i)];exact⟨[],by simpa using h,by simpa using⟨g.place,g.alt,g.meet,g.sign,d,rfl⟩⟩|some q=>rw[I_ (λe=>by have:=g.row.neg.1 e;rw[i]at this;cases this)];have l:=g.row;rw[i]at l;have⟨j,w,m,e2,n⟩:=l;have⟨k,v,o,r,s⟩:=d;refine⟨[.cat w v],h.add ⟨j,k,by rw[m,o],e2,r⟩,⟨g.place,g.alt.more,g.meet.more,g.sign,?_,rfl⟩⟩;exact IxR.new h (by rw[<-n,<-s];rfl)}
def N3{n:List RwM}{f:J'}{a:AF}(h:Raw ds n)(g:FrR n f a):Sv n (Dg ds f) (C5 a):=by refine(O4 h g).then_ λo p g1=>?_;unfold Dg;generalize Bt ds f=F at*;have⟨l,z⟩:=F;have G:Sv o (Da l z) {AC a with row:=zY ((AC a).row.getD .eps)}:=by{unfold Da;cases r:(AC a).row with|none=>rw[J_ (g1.row.neg.2 r)];exact⟨[.eps],p.add rfl,⟨g1.place,g1.alt.more,g1.meet.more,g1.sign,IxR.new p rfl,g1.factor.more⟩⟩|some q=>rw[I_ (λe=>by have:=g1.row.neg.1 e;rw[r]at this;cases this)];have A:=g1.row;rw[r]at A;exact⟨[],by simpa using p,by simpa using⟨g1.place,g1.alt,g1.meet,g1.sign,A,g1.factor⟩⟩};refine G.then_ λd s g2=>?_;generalize Da l z=H at*;have⟨m,c⟩:=H;have⟨j,w,t,e2,u⟩:=g2.row;unfold F5;cases i:(AC a).meet with|none=>{rw[J_ (g2.meet.neg.2 i)];refine⟨[],by simpa using s,?_⟩;rw[yU];refine⟨g2.place,g2.alt,?_,g2.sign,rfl,g2.factor⟩;show IxR d c.row (zY (match(AC a).meet with | none=>_ | some q=>_));rw[i];exact⟨j,w,t,e2,u⟩}|some q=>{rw[I_ (λe=>by have:=g2.meet.neg.1 e;rw[show({AC a with row:=zY ((AC a).row.getD .eps)}:AF).meet=(AC a).meet from rfl,i]at this;cases this)];have B:=g2.meet;rw[show({AC a with row:=zY ((AC a).row.getD .eps)}:AF).meet=(AC a).meet from rfl,i]at B;have⟨k,v,C,D,E⟩:=B;have hs:c.sign=(AC a).sign:=g2.sign;have fin:∀(x:RwM) (op:Int),NU d (AT op c.meet c.row) x->zY x.den=(C5 a).meet->Sv d (m++[AT op c.meet c.row],{c with meet:=(m.length:Int),row:= -1}) (C5 a):=λx op I y=>⟨[x],s.add I,⟨g2.place,g2.alt.more,by show IxR _ _ (C5 a).meet;rw[<-y];exact IxR.new s rfl,g2.sign,rfl,g2.factor.more⟩⟩;by_cases b:c.sign=38;{rw[J_ b];refine fin (.and_ v w) 5 ⟨k,j,by rw[t,C],D,e2⟩ ?_;show zY (ReM.and_ v.den w.den)=zY (match(AC a).meet with | none=>_ | some q=>_);rw[i];show _=zY (if(AC a).sign=38 then _ else _);rw[J_ (by rw[<-hs];exact b),u,E]};rw[I_ b];refine fin (.minus v w) 6 ⟨k,j,by rw[t,C],D,e2⟩ ?_;show zY (ReM.minus v.den w.den)=zY (match(AC a).meet with | none=>_ | some q=>_);rw[i];show _=zY (if(AC a).sign=38 then _ else _);rw[I_ (by rw[<-hs];exact b),u,E]}
def LR{c:List RwM}{f:J'}{a:AF}(h:Raw ds c)(g:FrR c f a):Sv c (EM ds f) (CQ a):=by refine(N3 h g).then_ λd i g2=>?_;unfold EM;generalize Dg ds f=r at*;have⟨s,t⟩:=r;have m:=g2.meet;have l:(C5 a).meet=zY ((C5 a).meet.getD .eps):=rfl;rw[l]at m;have⟨j,w,n,e2,o⟩:=m;unfold U7;cases b:(C5 a).alt with|none=>{rw[J_ (g2.alt.neg.2 b)];refine⟨[],by simpa using i,?_⟩;rw[yU];refine⟨g2.place,?_,rfl,g2.sign,g2.row,g2.factor⟩;show IxR d t.meet (zY (match(C5 a).alt with | none=>_ | some q=>_));rw[b];exact⟨j,w,n,e2,o⟩}|some q=>{rw[I_ (λe=>by have:=g2.alt.neg.1 e;rw[b]at this;cases this)];have p:=g2.alt;rw[b]at p;have⟨k,v,u,x,y⟩:=p;refine⟨[.alt v w],i.add ⟨k,j,by rw[n,u],x,e2⟩,⟨g2.place,?_,rfl,g2.sign,g2.row.more,g2.factor.more⟩⟩;show IxR _ _ (zY (match(C5 a).alt with | none=>_ | some q=>_));rw[b];exact IxR.new i (by show ReM.alt v.den w.den=_;rw[o,y])}
end
section
variable{place:Nat->Option (Nat×Nat)}
def AnY{c0 e c a b d:v_}{zs:List v_}(i:place 0=zY (0,1))(p1:place 1=zY (1,1))(p2:place 2=zY (2,1))(f:a.cells= #[a]) (g:b.cells= #[b]) (h:d.cells= #[d]):Instr.fill place ([c0,e,c]++zs).toArray [(0,a),(1,b),(2,d)]=zY ([a,b,d]++zs).toArray:=by have j:Ah ([c0,e,c]++zs) 0 [a]=[a,e,c]++zs:=rfl;have k:Ah ([a,e,c]++zs) 1 [b]=[a,b,c]++zs:=rfl;have e2:Ah ([a,b,c]++zs) 2 [d]=[a,b,d]++zs:=rfl;rw[BQ i (by rw[f];rfl) zZ,f,vE,j,BQ p1 (by rw[g];rfl) zZ,g,vE,k,BQ p2 (by rw[h];rfl) zZ,h,vE,vE,e2];rfl
def AlP{c0 d b a c:v_}{zs bs:List v_}(h:bs.length=zs.length)(i:place 0=zY (0,1))(p1:place 1=zY (1,1))(j:place 3=zY (3,zs.length))(e:a.cells= #[a]) (f:c.cells= #[c]):Instr.fill place ([c0,d,b]++zs).toArray [(0,a),(1,c),(3,.agg bs.toArray)]=zY ([a,c,b]++bs).toArray:=by have k:Ah ([c0,d,b]++zs) 0 [a]=[a,d,b]++zs:=rfl;have l:Ah ([a,d,b]++zs) 1 [c]=[a,c,b]++zs:=rfl;have m:Ah ([a,c,b]++zs) 3 bs=[a,c,b]++bs:=by{unfold Ah;rw[show([a,c,b]++zs).take 3=[a,c,b]from rfl,List.drop_eq_nil_of_le (by simp;omega),yU]};have g:(Value.agg bs.toArray).cells=bs.toArray:=rfl;rw[BQ i (by rw[e];rfl) zZ,e,vE,k,BQ p1 (by rw[f];rfl) zZ,f,vE,l,BQ j (by rw[g];simpa using h) (by simp;omega),g,vE,vE,m];rfl
end
def QF(p q:Nat)(k:K (.agg (DP (AK p q)).toArray)):AH prog (Instr.build 189 [(0,A_ p),(1,A_ q),(2,.bool zW)].toArray) S H K:=by refine Au underlying189 rfl oL OV (DP (AK p q)) ?_ k;unfold DP;rw[show(AK p q).set=0#256 from rfl,Je];exact AnY zX zX zX rfl rfl rfl
def QE(p q:Nat)(s:BitVec 256)(k:K (.agg (DP (C3 p q s)).toArray)):AH prog (Instr.build 189 [(0,A_ p),(1,A_ q),(3,.agg (AV s).toArray)].toArray) S H K:=Au underlying189 rfl oL OV (DP (C3 p q s)) (AlP (zs:=An8 256 (Value.bool zU)) (by rw[show(AV s).length=256 from D0 _ _,sL]) zX zX (by rw[sL];kernel_rfl) rfl rfl) k
def rV(n:Nat)(v:v_):List v_:=[A_ n,A_ 0,A_ 0,v]
abbrev sZ:x_:=134
abbrev tRe:x_:=32
def OI:(prog.info? 32).bind (·.zero)=zY (.agg #[.slice zV 0 0,A_ 0]):=rfl
abbrev L':List v_:=[.slice zV 0 0,A_ 0]
section
variable{α:Type}{T:Ty α}{n cap:Nat}{xs:List α}
def B_.cellsE{x:α}(d:B_ B H0 H ps)(i:Nat)(f:ps[i]?=zY (pS T e (N_ b) n cap xs))(a:xs[j]?=zY x):∃c,Bi H b (j*T.size) c/\T.rep none_ H c x:=by have g:=(T_.1 a).1;obtain⟨-,-,-,l,-,-,h,-⟩:=(d.at_ i f).1.placeS g;exact h x a
def B_.ltE(a:B_ B H0 H ps)(i:Nat)(c:ps[i]?=zY (pS T e (N_ b) n cap xs)):b<H.size:=(a.in_ i c (.inl ⟨0,n,cap,rfl⟩)).2
def xT{t by_:Nat}{k:IntKind}{c:Int}{H2:Aa}(d:SlT P t e T.size by_ z)(f:B_ B H0 H ps)(i:Nat)(g:ps[i]?=zY (pS T e (N_ b) n cap xs))(l:j<xs.length) (a:c=(j:Int)) (h:K (.pointer (zY ⟨b,j*T.size,zV⟩))):AH P (Instr.indexAt t (.slice (N_ b) n cap) (.int k c)) S H2 K:=by have m:=f.len i g;exact ix d zO zO (by rw[a,O',K_];exact h)
def kW{t k:Nat}{x x':α}{K:Aa->Prop}(z:B_ B H0 H ps)(i:Nat)(N:BM P t)(A:ps[i]?=zY (pS T e (N_ b) n cap xs))(J:xs[j]?=zY x)(U:k<T.size)(O:v.oneCell'=zW)(Q:∀H' c,T.rep none_ H' c x->T.rep none_ H' (c.set k v) x') (R:∀H',B_ B H0 H' (ps.set i (pS T e (N_ b) n cap (xs.set j x')))->D_ (λq=>q≠b) H H'->K H'):Co P (Instr.storeAt t (.pointer (zY ⟨b,j*T.size+k,zV⟩)) v) H K:=by have S:=(T_.1 J).1;have h:=z.at_ i A;obtain⟨-,-,-,l,a,o,C,p⟩:=h.1.placeS S;have⟨c,C,d⟩:=C x J;have r:=T.len d;refine uU N a zO O ?_;intro H' D s E;have u:D_ none_ H H':=λq f=>f.elim;have g:=Q H' c (T.frame d u);have w:=p H' (c.set k v) x' (by{have:Ah l (j*T.size) (c.set k v)=l.set (j*T.size+k) v:=by{apply yP;intro m;rw[CK (by rw[yT,r];exact o),yT,r];by_cases L:j*T.size<=m/\m<j*T.size+T.size;{rw[J_ L];have y:m-j*T.size<c.length:=zO;have F:(c[m-j*T.size]?)=l[m]? :=by{have M:=C (m-j*T.size) _ (zJ y);rw[(zO:j*T.size+(m-j*T.size)=m),a.cell]at M;rw[zJ y,M]};by_cases G:m=j*T.size+k;{subst G;rw[(zO:j*T.size+k-j*T.size=k),yQ zO,yQ zO]};{rw[yX zO,yX zO,F]}};{rw[I_ L,yX zO]}};rw[this];exact D}) u g;exact R H' (z.upd i A (s.mono λq f I=>f.2 (.inl (by subst I;exact⟨0,n,cap,rfl⟩))) _ ⟨w,h.2⟩ (λq f=>.inl f) (λq f=>by rw[E];exact(z.in_ i A f).2) zO) s
end
abbrev eM:x_:=66
abbrev stP(sb fb:Nat)(na:Option Addr)(nc fc n:Nat)(ds:List h_)(frs:List J')(rest:List Pc):List Pc:=
 pB eM sb [.slice na ds.length nc,.slice (N_ fb) n fc]::pS wD 77 na ds.length nc ds::pS tFr 68 (N_ fb) n fc frs::rest
structure Dst(B:Nat->Prop)(H0 H:Aa)(sb fb:Nat)(ds:List h_)(frs:List J')(rest:List Pc):Prop where
 ex:∃na nc fc n,B_ B H0 H (stP sb fb na nc fc n ds frs rest)
def AZ(x:Int):Prop:= -4294967296<x/\x<4294967296
def E5(h:AZ x):inK .i64 x:=by unfold AZ at h;unfold inK;show(-9223372036854775808:Int)<=x/\x<=9223372036854775807;omega
def jI{op y:Int}(a:AZ op)(b:AZ x)(c:AZ y):(AT op x y).Ok:=⟨E5 a,E5 b,E5 c,E5 (x:=0) (by unfold AZ;omega),E5 (x:=0) (by unfold AZ;omega)⟩
section
variable{B:Nat->Prop}{H0 H:Aa}{sb fb nc fc n:Nat}{na:Option Addr}{ds:List h_}{frs:List J'}{rest:List Pc}
def LU{op y:Int}(b:B_ B H0 H (stP sb fb na nc fc n ds frs rest))(r:AZ op)(s:AZ x)(t:AZ y)(J:ds.length<=16777216):
  Ai prog 49 #[U_ sb,A_ op,A_ x,A_ y] H
   (λv H'=>v= .int .i64 (ds.length:Int)/\D_ (λk=>k=fb) H H'/\∃f g,B_ B H0 H' (stP sb fb f g fc n (ds++[AT op x y]) frs rest)):=by have w:fb≠sb:=λe=>b.apart2 (i:=0) (j:=2) rfl rfl zQ sb rfl (.inl ⟨0,n,fc,by rw[e]⟩);have A:¬Q_ (.slice na ds.length nc) fb:=λe=>b.apart2 (i:=1) (j:=2) rfl rfl zQ fb (.inl e) (.inl ⟨0,n,fc,rfl⟩);have K:fb<H.size:=b.ltE 2 rfl;refine Ai.of_vc func49 rfl (call49 _) (G_ Hs ?_);refine lT (v:=.slice na ds.length nc) FB ((b.blk 0 rfl).ce rfl) ?_;refine Sb op x y (Aj HP (j_ (AT op x y)) rfl (AS _) zQ zQ ?_);intro z H1 h C l c;have F_:=b.skip h c;refine GM (ys:=[AT op x y]) F_ 1 HP rfl (l.cells (o:=0) (cs:=j_ (AT op x y)) λj v D=>by rw[K_];exact D) (Ty.reps_one ⟨rfl,jI r s t⟩) rfl (λu E=>yC.1 (D3 _) u E) (by simp[maxLen];omega) (by simp;omega) λp q H9 d m=>?_;have F:ds.length+[AT op x y].length=(ds++[AT op x y]).length:=zZ;rw[F]at d ⊢;refine G_ Hs (Zl d 0 FB rfl (zQ:0<2) rfl λH10 a G L=>(G_ Hs ?_));refine lT (v:=.slice p (ds++[AT op x y]).length q) FB ((a.blk 0 rfl).ce rfl) ?_;have I:IntKind.wrap .i64 (((ds++[AT op x y]).length:Int)-1)=(ds.length:Int):=by{rw[O_,c_,xG zO zO];omega};(conv=>whnf);rw[I];(conv=>whnf);refine⟨rfl,?_,p,q,a⟩;rintro k rfl;rw[G _ w,m _ ⟨by have:z=H.size:=h;omega,A⟩,c _ (by have:z=H.size:=h;omega)]
def BE{fr:List J'}{f:J'}{k:Nat}(a:B_ B H0 H (stP sb fb na nc fc n ds (fr++[f]) rest))(b:(rW f)[k]?=zY v):cell H fb (fr.length*tFr.size+k)=zY v:=by obtain⟨c,d,rfl⟩:=a.cellsE 2 rfl (x:=f) (j:=fr.length) zZ;exact d k v b
def Y7{fr:List J'}{f:J'}(a:B_ B H0 H (stP sb fb na nc fc n ds (fr++[f]) rest)):n=fr.length+1:=by have:=a.len 2 rfl;rw[this];simp
def Gt{t k:Nat}{fr:List J'}{f f':J'}{K:Aa->Prop}(b:B_ B H0 H (stP sb fb na nc fc n ds (fr++[f]) rest))(d:BM prog t)(e:k<6)(g:v.oneCell'=zW)(h:(rW f).set k v=rW f')
  (i:∀H',B_ B H0 H' (stP sb fb na nc fc n ds (fr++[f']) rest)->D_ (λq=>q≠fb) H H'->K H'):Co prog (Instr.storeAt t (.pointer (zY ⟨fb,fr.length*tFr.size+k,zV⟩)) v) H K:=by refine kW (T:=tFr) (x:=f) (x':=f') b 2 d rfl zZ e g (λH' c j=>by rw[show c=rW f from j];exact h) λH' a l=>?_;rw[show(fr++[f]).set fr.length f'=fr++[f']from by simp]at a;exact i H' a l
structure FrN(f:J'):Prop where
 alt:AZ f.alt
 meet:AZ f.meet
 row:AZ f.row
 factor:AZ f.factor
def Qn:AZ (-1):=by unfold AZ;omega
def MR{m:Nat}(h:m<=16777216):AZ (m:Int):=by unfold AZ;omega
section
variable{ds:List h_}{f:J'}
def KE(h:FrN f)(a:ds.length<=16777216):FrN (Bt ds f).2:=by unfold Bt;split;{exact h};split;{exact⟨h.alt,h.meet,h.factor,Qn⟩};exact⟨h.alt,h.meet,MR a,Qn⟩
def WK(h:FrN f)(a:ds.length<=16777216):FrN (Da ds f).2:=by unfold Da;split;{exact⟨h.alt,h.meet,MR a,h.factor⟩};exact h
def eR(h:FrN f)(a:ds.length<=16777216):FrN (F5 ds f).2:=by unfold F5;split;{exact⟨h.alt,h.row,Qn,h.factor⟩};exact⟨h.alt,MR a,Qn,h.factor⟩
def ZP(h:FrN f)(a:ds.length<=16777200):FrN (Dg ds f).2:=by unfold Dg;have b:=Il ds f;have c:=PR (Bt ds f).1 (Bt ds f).2;exact eR (WK (KE h zO) zO) zO
end
section
variable{fr:List J'}{f:J'}
def R6(a:B_ B H0 H (stP sb fb na nc fc n ds (fr++[f]) rest))(t:FrN f)(w:ds.length<=16777216):
  Ai prog 22 #[U_ sb] H (λ_ H'=>∃h i,B_ B H0 H' (stP sb fb h i fc n (Bt ds f).1 (fr++[(Bt ds f).2]) rest)):=by have u:=Y7 a;have l:=a.max 2 rfl;simp only[O_,c_,maxLen]at l;refine Ai.of_vc func22 rfl (call22 _) (Ap.lex rfl zX (G_ BU ?_));refine lT (v:=.slice (N_ fb) n fc) EN ((a.blk 0 rfl).ce rfl) ?_;refine G_ BU ?_;refine lT (v:=.slice (N_ fb) n fc) EN ((a.blk 0 rfl).ce rfl) ?_;(conv=>whnf);rw[W_ (x:=(n:Int)-1) zO];refine xT (j:=fr.length) LA a 2 rfl zZ zO (G_ I1 (C_ (v:=A_ f.factor) E_ (BE a (k:=5) rfl) zA ?_));by_cases d:f.factor<0;{have m:zT (f.factor<0)=zW:=r_ d;have e:Bt ds f=(ds,f):=by{unfold Bt;rw[J_ d]};(conv=>whnf);rw[m];(conv=>whnf);rw[e];exact⟨na,nc,a⟩};{have m:zT (f.factor<0)=zU:=n_ d;(conv=>whnf);rw[m];(conv=>whnf);(try refine A7.run ?_);refine G_ DE (C_ (v:=A_ f.row) E_ (BE a (k:=4) rfl) zA ?_);by_cases g:f.row<0;{have o:zT (f.row<0)=zW:=r_ g;have e:Bt ds f=(ds,{f with row:=f.factor,factor:= -1}):=by{unfold Bt;rw[I_ d,J_ g]};(conv=>whnf);rw[o];refine G_ I1 (C_ (v:=A_ f.factor) E_ (BE a (k:=5) rfl) zA (G_ DE (Gt (k:=4) (f':={f with row:=f.factor}) a E_ zQ rfl rfl λG1 b p=>(G_ I1 (Gt (k:=5) (f':={f with row:=f.factor,factor:= -1}) b E_ zQ rfl rfl λG2 c p=>?_)))));(conv=>whnf);rw[e];exact⟨na,nc,c⟩};{have o:zT (f.row<0)=zU:=n_ g;have e:Bt ds f=(ds++[AT 2 f.row f.factor],{f with row:=ds.length,factor:= -1}):=by{unfold Bt;rw[I_ d,I_ g]};(conv=>whnf);rw[o];refine Ap.heldZ (λk=>k=fb) [13] (sq [0,1,2,3,4,5,6,7,8,9] (.f 10 (sq [11,12] (.f 13 .e)))) rfl zX (G_ DE (C_ (v:=A_ f.row) E_ (BE a (k:=4) rfl) rfl (G_ I1 (C_ (v:=A_ f.factor) E_ (BE a (k:=5) rfl) rfl ?_))));refine Ae.mk (LU (op:=2) a (by unfold AZ;omega) t.row t.factor w) ?_;rintro _ G1 ⟨rfl,y,q,r,b⟩;refine⟨y,?_⟩;refine G_ DE (Gt (k:=4) (f':={f with row:=ds.length}) b E_ zQ rfl rfl λG2 c p=>(G_ I1 (Gt (k:=5) (f':={f with row:=ds.length,factor:= -1}) c E_ zQ rfl rfl λG3 s p=>?_)));(conv=>whnf);rw[e];exact⟨q,r,s⟩}}
def SO(E:B_ B H0 H (stP sb fb na nc fc n ds (fr++[f]) rest))(L:FrN f)(R:ds.length<=16777200):
  Ai prog 21 #[U_ sb] H (λ_ H'=>∃F G,B_ B H0 H' (stP sb fb F G fc n (Dg ds f).1 (fr++[(Dg ds f).2]) rest)):=by
 have M:=Y7 E;have I:=E.max 2 rfl;simp only[O_,c_,maxLen]at I;refine Ai.of_vc func21 rfl (call21 _) (Ae.mk (R6 E L zO) ?_);rintro S H1 ⟨m,o,F_⟩;have d:=KE L (ds:=ds) zO;have s:=Il ds f;have q:Dg ds f=F5 (Da (Bt ds f).1 (Bt ds f).2).1 (Da (Bt ds f).1 (Bt ds f).2).2:=rfl;obtain⟨a,b,N⟩:∃a b,Bt ds f=(a,b):=⟨_,_,rfl⟩;rw[N]at F_ d s q;replace F_:B_ B H0 H1 (stP sb fb m o fc n a (fr++[b]) rest):=F_;replace d:FrN b:=d;replace s:a.length<=ds.length+1:=s;replace q:Dg ds f=F5 (Da a b).1 (Da a b).2:=q;refine Ap.lex rfl zX (G_ BU ?_);refine lT (v:=.slice (N_ fb) n fc) EN ((F_.blk 0 rfl).ce rfl) ?_;refine G_ BU ?_;refine lT (v:=.slice (N_ fb) n fc) EN ((F_.blk 0 rfl).ce rfl) ?_;(conv=>whnf);rw[W_ (x:=(n:Int)-1) zO];refine xT (j:=fr.length) LA F_ 2 rfl zZ zO ?_;(conv=>whnf);try refine A7.run ?_
 refine G_ DE (C_ (v:=A_ b.row) E_ (BE F_ (k:=4) rfl) zA ?_);by_cases D:b.row<0;{have J:zT (b.row<0)=zW:=r_ D;have t:F5 (Da a b).1 (Da a b).2=F5 (a++[AT 0 0 0]) {b with row:=(a.length:Int)}:=by{unfold Da;rw[J_ D]};(conv=>whnf);rw[J];refine Ae.mk (LU (op:=0) (x:=0) (y:=0) F_ (by unfold AZ;omega) (by unfold AZ;omega) (by unfold AZ;omega) zO) ?_;rintro _ G8 ⟨rfl,O,P,Q,K⟩;refine G_ DE (Gt (k:=4) (f':={b with row:=(a.length:Int)}) K E_ zQ rfl rfl λG9 g l=>?_);have r:FrN {b with row:=(a.length:Int)}:=⟨d.alt,d.meet,MR zO,d.factor⟩;(conv=>whnf);(try refine A7.run ?_);refine G_ E3 (C_ (v:=A_ ({b with row:=(a.length:Int)}).meet) E_ (BE g (k:=2) rfl) zA ?_);by_cases p:b.meet<0;{have u:zT (b.meet<0)=zW:=r_ p;have e:Dg ds f=(a++[AT 0 0 0],{({b with row:=(a.length:Int)})with meet:=({b with row:=(a.length:Int)}).row,row:= -1}):=by{rw[q,t];unfold F5;rw[J_ p]};(conv=>whnf);rw[u];refine G_ DE (C_ (v:=A_ ({b with row:=(a.length:Int)}).row) E_ (BE g (k:=4) rfl) zA (G_ E3 (Gt (k:=2) (f':={({b with row:=(a.length:Int)})with meet:=({b with row:=(a.length:Int)}).row}) g E_ zQ rfl rfl λG5 w l=>(G_ DE (Gt (k:=4) (f':={({b with row:=(a.length:Int)})with meet:=({b with row:=(a.length:Int)}).row,row:= -1}) w E_ zQ rfl rfl λG6 c l=>?_)))));(conv=>whnf);rw[e];exact⟨_,_,c⟩};{have u:zT (b.meet<0)=zU:=n_ p;(conv=>whnf);rw[u];(conv=>whnf);(try refine A7.run ?_);refine G_ Ti (C_ (v:=.int .u8 (({b with row:=(a.length:Int)}).sign:Int)) vZ (BE g (k:=3) rfl) zA ?_);by_cases z:b.sign=38;{have A:((b.sign:Int)==38)=zW:=by{rw[z];rfl};have e:Dg ds f=(a++[AT 0 0 0]++[AT 5 ({b with row:=(a.length:Int)}).meet ({b with row:=(a.length:Int)}).row],{({b with row:=(a.length:Int)})with meet:=((a++[AT 0 0 0]).length:Int),row:= -1}):=by{rw[q,t];unfold F5;rw[I_ p];show(_++[AT (if b.sign=38 then 5 else 6) _ _],_)=_;rw[J_ z]};(conv=>whnf);rw[A];refine Ap.heldZ (λk=>k=fb) [13] (sq [0,1,2,3,4,5,6,7,8,9] (.f 10 (sq [11,12] (.f 13 .e)))) rfl zX (G_ E3 (C_ (v:=A_ ({b with row:=(a.length:Int)}).meet) E_ (BE g (k:=2) rfl) rfl (G_ DE (C_ (v:=A_ ({b with row:=(a.length:Int)}).row) E_ (BE g (k:=4) rfl) rfl ?_))));refine Ae.mk (LU (op:=5) g (by unfold AZ;omega) r.meet r.row (by simp;omega)) ?_;rintro _ G1 ⟨rfl,C,m,o,h⟩;refine⟨C,?_⟩;refine G_ E3 (Gt (k:=2) (f':={({b with row:=(a.length:Int)})with meet:=((a++[AT 0 0 0]).length:Int)}) h E_ zQ rfl rfl λG2 i l=>(G_ DE (Gt (k:=4) (f':={({b with row:=(a.length:Int)})with meet:=((a++[AT 0 0 0]).length:Int),row:= -1}) i E_ zQ rfl rfl λG6 c l=>?_)));(conv=>whnf);rw[e];exact⟨_,_,c⟩};{have A:((b.sign:Int)==38)=zU:=beq_eq_false_iff_ne.2 zO;have e:Dg ds f=(a++[AT 0 0 0]++[AT 6 ({b with row:=(a.length:Int)}).meet ({b with row:=(a.length:Int)}).row],{({b with row:=(a.length:Int)})with meet:=((a++[AT 0 0 0]).length:Int),row:= -1}):=by{rw[q,t];unfold F5;rw[I_ p];show(_++[AT (if b.sign=38 then 5 else 6) _ _],_)=_;rw[I_ z]};(conv=>whnf);rw[A];refine Ap.heldZ (λk=>k=fb) [13] (sq [0,1,2,3,4,5,6,7,8,9] (.f 10 (sq [11,12] (.f 13 .e)))) rfl zX (G_ E3 (C_ (v:=A_ ({b with row:=(a.length:Int)}).meet) E_ (BE g (k:=2) rfl) rfl (G_ DE (C_ (v:=A_ ({b with row:=(a.length:Int)}).row) E_ (BE g (k:=4) rfl) rfl ?_))));refine Ae.mk (LU (op:=6) g (by unfold AZ;omega) r.meet r.row (by simp;omega)) ?_;rintro _ G1 ⟨rfl,C,m,o,h⟩;refine⟨C,?_⟩;refine G_ E3 (Gt (k:=2) (f':={({b with row:=(a.length:Int)})with meet:=((a++[AT 0 0 0]).length:Int)}) h E_ zQ rfl rfl λG2 i l=>(G_ DE (Gt (k:=4) (f':={({b with row:=(a.length:Int)})with meet:=((a++[AT 0 0 0]).length:Int),row:= -1}) i E_ zQ rfl rfl λG6 c l=>?_)));(conv=>whnf);rw[e];exact⟨_,_,c⟩}}};{have J:zT (b.row<0)=zU:=n_ D;have t:F5 (Da a b).1 (Da a b).2=F5 a b:=by{unfold Da;rw[I_ D]};(conv=>whnf);rw[J];(conv=>whnf);(try refine A7.run ?_);refine G_ E3 (C_ (v:=A_ (b).meet) E_ (BE F_ (k:=2) rfl) zA ?_);by_cases p:b.meet<0;{have u:zT (b.meet<0)=zW:=r_ p;have e:Dg ds f=(a,{(b)with meet:=(b).row,row:= -1}):=by{rw[q,t];unfold F5;rw[J_ p]};(conv=>whnf);rw[u];refine G_ DE (C_ (v:=A_ (b).row) E_ (BE F_ (k:=4) rfl) zA (G_ E3 (Gt (k:=2) (f':={(b)with meet:=(b).row}) F_ E_ zQ rfl rfl λG5 w l=>(G_ DE (Gt (k:=4) (f':={(b)with meet:=(b).row,row:= -1}) w E_ zQ rfl rfl λG6 c l=>?_)))));(conv=>whnf);rw[e];exact⟨_,_,c⟩};{have u:zT (b.meet<0)=zU:=n_ p;(conv=>whnf);rw[u];(conv=>whnf);(try refine A7.run ?_);refine G_ Ti (C_ (v:=.int .u8 ((b).sign:Int)) vZ (BE F_ (k:=3) rfl) zA ?_);by_cases z:b.sign=38;{have A:((b.sign:Int)==38)=zW:=by{rw[z];rfl};have e:Dg ds f=(a++[AT 5 (b).meet (b).row],{(b)with meet:=((a).length:Int),row:= -1}):=by{rw[q,t];unfold F5;rw[I_ p];show(_++[AT (if b.sign=38 then 5 else 6) _ _],_)=_;rw[J_ z]};(conv=>whnf);rw[A];refine Ap.heldZ (λk=>k=fb) [13] (sq [0,1,2,3,4,5,6,7,8,9] (.f 10 (sq [11,12] (.f 13 .e)))) rfl zX (G_ E3 (C_ (v:=A_ (b).meet) E_ (BE F_ (k:=2) rfl) rfl (G_ DE (C_ (v:=A_ (b).row) E_ (BE F_ (k:=4) rfl) rfl ?_))));refine Ae.mk (LU (op:=5) F_ (by unfold AZ;omega) d.meet d.row zO) ?_;rintro _ G1 ⟨rfl,C,m,o,h⟩;refine⟨C,?_⟩;refine G_ E3 (Gt (k:=2) (f':={(b)with meet:=((a).length:Int)}) h E_ zQ rfl rfl λG2 i l=>(G_ DE (Gt (k:=4) (f':={(b)with meet:=((a).length:Int),row:= -1}) i E_ zQ rfl rfl λG6 c l=>?_)));(conv=>whnf);rw[e];exact⟨_,_,c⟩};{have A:((b.sign:Int)==38)=zU:=beq_eq_false_iff_ne.2 zO;have e:Dg ds f=(a++[AT 6 (b).meet (b).row],{(b)with meet:=((a).length:Int),row:= -1}):=by{rw[q,t];unfold F5;rw[I_ p];show(_++[AT (if b.sign=38 then 5 else 6) _ _],_)=_;rw[I_ z]};(conv=>whnf);rw[A];refine Ap.heldZ (λk=>k=fb) [13] (sq [0,1,2,3,4,5,6,7,8,9] (.f 10 (sq [11,12] (.f 13 .e)))) rfl zX (G_ E3 (C_ (v:=A_ (b).meet) E_ (BE F_ (k:=2) rfl) rfl (G_ DE (C_ (v:=A_ (b).row) E_ (BE F_ (k:=4) rfl) rfl ?_))));refine Ae.mk (LU (op:=6) F_ (by unfold AZ;omega) d.meet d.row zO) ?_;rintro _ G1 ⟨rfl,C,m,o,h⟩;refine⟨C,?_⟩;refine G_ E3 (Gt (k:=2) (f':={(b)with meet:=((a).length:Int)}) h E_ zQ rfl rfl λG2 i l=>(G_ DE (Gt (k:=4) (f':={(b)with meet:=((a).length:Int),row:= -1}) i E_ zQ rfl rfl λG6 c l=>?_)));(conv=>whnf);rw[e];exact⟨_,_,c⟩}}}
def PO(o:B_ B H0 H (stP sb fb na nc fc n ds (fr++[f]) rest))(z:FrN f)(E:ds.length<=16777200):
  Ai prog 20 #[U_ sb] H (λ_ H'=>∃p q,B_ B H0 H' (stP sb fb p q fc n (EM ds f).1 (fr++[(EM ds f).2]) rest)):=by
 have A:=Y7 o;have r:=o.max 2 rfl;simp only[O_,c_,maxLen]at r;refine Ai.of_vc func20 rfl (call20 _) (Ae.mk (SO o z zO) ?_);rintro F H1 ⟨h,i,F_⟩;have c:=ZP z (ds:=ds) zO;have d:=Lf ds f;have l:EM ds f=U7 (Dg ds f).1 (Dg ds f).2:=rfl;obtain⟨b,a,C⟩:∃b a,Dg ds f=(b,a):=⟨_,_,rfl⟩;rw[C]at F_ c d l;replace F_:B_ B H0 H1 (stP sb fb h i fc n b (fr++[a]) rest):=F_;replace c:FrN a:=c;replace d:b.length<=ds.length+3:=d;replace l:EM ds f=U7 b a:=l;refine Ap.lex rfl zX (G_ BU ?_);refine lT (v:=.slice (N_ fb) n fc) EN ((F_.blk 0 rfl).ce rfl) ?_;refine G_ BU ?_;refine lT (v:=.slice (N_ fb) n fc) EN ((F_.blk 0 rfl).ce rfl) ?_;(conv=>whnf);rw[W_ (x:=(n:Int)-1) zO];refine xT (j:=fr.length) LA F_ 2 rfl zZ zO ?_;(conv=>whnf);try refine A7.run ?_
 refine G_ N2 (C_ (v:=A_ a.alt) E_ (BE F_ (k:=1) rfl) zA ?_);by_cases m:a.alt<0;{have s:zT (a.alt<0)=zW:=r_ m;have e:EM ds f=(b,{a with alt:=a.meet,meet:= -1}):=by{rw[l];unfold U7;rw[J_ m]};(conv=>whnf);rw[s];refine G_ E3 (C_ (v:=A_ a.meet) E_ (BE F_ (k:=2) rfl) zA (G_ N2 (Gt (k:=1) (f':={a with alt:=a.meet}) F_ E_ zQ rfl rfl λG5 t u=>(G_ E3 (Gt (k:=2) (f':={a with alt:=a.meet,meet:= -1}) t E_ zQ rfl rfl λG6 g u=>?_)))));(conv=>whnf);rw[e];exact⟨_,_,g⟩};{have s:zT (a.alt<0)=zU:=n_ m;have e:EM ds f=(b++[AT 3 a.alt a.meet],{a with alt:=(b.length:Int),meet:= -1}):=by{rw[l];unfold U7;rw[I_ m]};(conv=>whnf);rw[s];refine Ap.heldZ (λk=>k=fb) [13] (sq [0,1,2,3,4,5,6,7,8,9] (.f 10 (sq [11,12] (.f 13 .e)))) rfl zX (G_ N2 (C_ (v:=A_ a.alt) E_ (BE F_ (k:=1) rfl) rfl (G_ E3 (C_ (v:=A_ a.meet) E_ (BE F_ (k:=2) rfl) rfl ?_))));refine Ae.mk (LU (op:=3) F_ (by unfold AZ;omega) c.alt c.meet zO) ?_;rintro _ G1 ⟨rfl,D,h,i,w⟩;refine⟨D,?_⟩;refine G_ N2 (Gt (k:=1) (f':={a with alt:=(b.length:Int)}) w E_ zQ rfl rfl λG2 y u=>(G_ E3 (Gt (k:=2) (f':={a with alt:=(b.length:Int),meet:= -1}) y E_ zQ rfl rfl λG6 g u=>?_)));(conv=>whnf);rw[e];exact⟨_,_,g⟩}
end
end
def B_.rebase(a:B_ B H0 H ps):B_ B H H ps:=⟨D_.refl _ _,λk b=>a.up b,M_ _,a.oks,a.rng,a.dis⟩
def B_.widen{H':Aa}(d:B_ B H0 H ps)(g:D_ (H_ H) H H')(N:Nat->Prop)(f:∀k,N k->H.size<=k/\k<H'.size):B_ (λk=>B k\/N k) H' H' ps:=by have a:=d.call g;refine⟨D_.refl _ _,λk b=>?_,M_ _,a.oks,λp e k b=>⟨λc=>?_,(a.rng p e k b).2⟩,a.dis⟩;{rcases b with b | b;{exact a.up b};exact(f k b).2};rcases c with c | c;{exact(d.rng p e k b).1 c};have:=(d.rng p e k b).2;have:=(f k c).1;omega
inductive ROp
 | alt
 | cat
 | and_
 | minus
def opR:ROp->ReM->ReM->ReM | .alt=>.alt | .cat=>.cat | .and_=>.and_ | .minus=>.minus
def opF:ROp->FuncId | .alt=>47 | .cat=>103 | .and_=>72 | .minus=>73
def RN(op:ROp)(a b:ReM):(opR op a b).nodes=1+a.nodes+b.nodes:=by cases op<;>rfl
def Z'(r:ReM):Nat:=min r.nodes 2001
def Ad(r:ReM)(fn:v_):List v_:=[A_ ((Z' r:Nat):Int),fn]
inductive CN(B:Nat->Prop)(H:Aa):v_->ReM->Prop
 | leaf {b:Nat} {r:ReM}:B b->S_ H b 24 [Ax r]->CN B H (.func (.func 121) #[] #[U_ b]) r
 | join {b1 b2 b3:Nat} {va vb:v_} {ra rb:ReM} (op:ROp):B b1->B b2->B b3->S_ H b1 114 [.func (.func (opF op)) #[] #[]]->S_ H b2 60 (Ad ra va)->S_ H b3 60 (Ad rb vb)->
   CN B H va ra->CN B H vb rb->CN B H (.func (.func 75) #[] #[U_ b1,U_ b2,U_ b3]) (opR op ra rb)
 | star {b:Nat} {va:v_} {ra:ReM}:B b->S_ H b 60 (Ad ra va)->CN B H va ra->CN B H (.func (.func 138) #[] #[U_ b]) (.star ra)
def CN.frame{B':Nat->Prop}{H':Aa}(h:CN B H v r)(k:D_ B H H')(s:∀k,B k->B' k):CN B' H' v r:=by induction h with|leaf a b=>exact .leaf (s _ a) (b.agr k a)|join op a b e f g i _ _ c d=>exact .join op (s _ a) (s _ b) (s _ e) (f.agr k a) (g.agr k b) (i.agr k e) c d|star a b _ j=>exact .star (s _ a) (b.agr k a) j
def Zz{H':Aa}(b:D_ B H H')(c:∀k,B k->k<H.size){k:Nat}(a:B k):k<H'.size:=by have h:=b k a;rw[uD (c k a)]at h;exact(vM.1 h).1
def kJ(op:ROp)(a b:ReM)(H:Aa):BK prog (opF op) #[Ax a,Ax b] H (Ax (opR op a b)):=by have⟨T1,c,d⟩:=K4 a;have⟨T2,e,e2⟩:=K4 b;cases op;(case' alt=>show BK prog 47 #[Ax a,Ax b] H (.iface 167 (.agg #[Ax a,Ax b]));rw[d,e2];refine Ai.of_vc func47 rfl (call47 _) (Au underlying167 rfl _ rfl [.iface T1 c,.iface T2 e] rfl ?_));(case' cat=>show BK prog 103 #[Ax a,Ax b] H (.iface 240 (.agg #[Ax a,Ax b]));rw[d,e2];refine Ai.of_vc func103 rfl (call103 _) (Au underlying240 rfl _ rfl [.iface T1 c,.iface T2 e] rfl ?_));(case' and_=>show BK prog 72 #[Ax a,Ax b] H (.iface 164 (.agg #[Ax a,Ax b]));rw[d,e2];refine Ai.of_vc func72 rfl (call72 _) (Au underlying164 rfl _ rfl [.iface T1 c,.iface T2 e] rfl ?_));(case' minus=>show BK prog 73 #[Ax a,Ax b] H (.iface 165 (.agg #[Ax a,Ax b]));rw[d,e2];refine Ai.of_vc func73 rfl (call73 _) (Au underlying165 rfl _ rfl [.iface T1 c,.iface T2 e] rfl ?_));all_goals (conv=>whnf);exact⟨rfl,D_.refl _ _⟩
def OQ(cap:Array v_):(((#[]:Array v_).toList++([]:List v_))++cap.toList).toArray=cap:=zZ
def AlX(h:CN B H v r)(t:∀k,B k->k<H.size):∃g cap,v= .func (.func g) #[] cap/\∀H',D_ B H H'->BK prog g cap H' (Ax r):=by induction h with|@leaf b r h1 h2=>refine⟨_,_,rfl,λH' c=>?_⟩;have u:=h2.agr c h1;refine Ai.of_vc func121 rfl (call121 _) ?_;refine C_ (v:=Ax r) F0 (by rw[u.cell];rfl) zA ?_;(conv=>whnf);exact⟨rfl,D_.refl _ _⟩|@join b1 b2 b3 va vb ra rb op h1 h2 h3 h4 h5 h6 _ _ ih1 ih2=>refine⟨_,_,rfl,λH' c=>?_⟩;have p:=h4.agr c h1;have q:=h5.agr c h2;have s:=h6.agr c h3;obtain⟨g1,l,rfl,p1⟩:=ih1;obtain⟨g2,w,rfl,p2⟩:=ih2;refine Ai.of_vc func75 rfl (call75 _) (Ap.held (H_ H') 9 (sq [0,1,2,4,5] (.f 3 (.f 6 (.f 7 (.f 8 .e))))) rfl zX ?_);refine C_ (v:=.func (.func (opF op)) #[] #[]) AnP (by rw[p.cell];rfl) p.lt ?_;refine G_ Th ?_;refine C_ (v:=.func (.func g1) #[] l) oJ (by rw[q.cell];rfl) q.lt ?_;refine G_ Th ?_;refine C_ (v:=.func (.func g2) #[] w) oJ (by rw[s.cell];rfl) s.lt ?_;(conv=>whnf);rw[OQ];refine Al (p1 H' c) λG1 a=>?_;refine⟨a,?_⟩;have m:D_ B H G1:=c.trans (a.mono λk j=>Zz c t j);(conv=>whnf);rw[OQ];refine Al (p2 G1 m) λG2 n=>?_;have d:=a.trans (n.mono λk j=>An a j);refine⟨d,?_⟩;refine Al (kJ op ra rb G2) λG3 o=>?_;have i:=d.trans (o.mono λk j=>An d j);refine⟨i,?_⟩;(conv=>whnf);refine⟨i,?_⟩;exact⟨rfl,i⟩|@star b va ra h1 h2 _ ih=>refine⟨_,_,rfl,λH' c=>?_⟩;have x:=h2.agr c h1;obtain⟨g1,l,rfl,p1⟩:=ih;refine Ai.of_vc func138 rfl (call138 _) (G_ Th ?_);refine C_ (v:=.func (.func g1) #[] l) oJ (by rw[x.cell];rfl) zA ?_;(conv=>whnf);rw[OQ];refine Al (p1 H' c) λG1 a=>?_;have⟨T1,y,z⟩:=K4 ra;show _;rw[show Ax (.star ra)= .iface 243 (.agg #[Ax ra])from rfl];rw[z];refine Au underlying243 rfl _ rfl [.iface T1 y] rfl ?_;(conv=>whnf);exact⟨rfl,a⟩
structure Uz(B:Nat->Prop)(H:Aa)(ps:List Pc)(r:ReM)(v:v_)(H':Aa):Prop where
 ex:∃(B':Nat->Prop) (fn:v_),v= .agg (Ad r fn).toArray/\(∀k,B k->B' k)/\D_ (H_ H) H H'/\B_ B' H' H' ps/\CN B' H' fn r
def CN.fn(h:CN B H v r):∃g c,v= .func (.func g) #[] c:=by cases h<;>exact⟨_,_,rfl⟩
def De(h:l.length=2):Ah l 0 (Ad r v)=Ad r v:=Bo (by rw[h];rfl)
def AA(h:S_ H b 60 (Ad r v)):Bi H b 0 (Ad r v):=h.cells (λj v a=>by rw[K_];exact a)
def Aq:List v_:=[A_ 0,.nilFunc]
def DG:(prog.info? 60).bind (·.zero)=zY (.agg Aq.toArray):=zX
def UJ(n:Nat)(a:n<1152921504606846976)(H:Aa):BK prog 74 #[A_ n] H (.int .i64 ((min n 2001:Nat):Int)):=by refine Ai.of_vc func74 rfl (call74 _) (gN ?_);(conv=>whnf);refine⟨?_,D_.refl _ _⟩;congr 1;split<;>omega
def NQ(r:ReM):Z' r<=2001:=Nat.min_le_right _ _
def Tx(m:B_ B H0 H ps)(n:r.nodes=1):Ai prog 100 #[Ax r] H (Uz B H ps r):=by refine Ai.of_vc func100 rfl (call100 _) ?_;have⟨T1,o,l⟩:=K4 r;rw[l];refine BI [.iface T1 o] rfl ?_;intro b H1 p s g h;refine Af (.agg Aq.toArray) Aq DG rfl ?_;intro q H2 t u i c;refine Au underlying60 rfl _ rfl (Ad r (.func (.func 121) #[] #[U_ b])) (by unfold Ad Z';rw[n];rfl) ?_;refine Zaa (cs:=Ad r (.func (.func 121) #[] #[U_ b])) rfl i (by simp[Ad,Aq]) rfl ?_;intro H3 d e v;rw[De rfl]at d;refine lN (cs:=Ad r (.func (.func 121) #[] #[U_ b])) BZ (AA d) ?_;have j:D_ (H_ H) H H2:=(h.mono λk a=>by have:k<H.size:=a;omega).trans (c.mono λk a=>by have:k<H.size:=a;omega);have f:D_ (H_ H) H H3:=j.trans (e.mono λk a=>by have:k<H.size:=a;omega);have w:S_ H3 b 24 [Ax r]:=by{rw[l];exact(g.agr c (zO:b<q)).agr e (zO:b≠q)};exact⟨_,_,rfl,λk a=>.inl a,f,m.widen f (λk=>k=b) (λk a=>zO),.leaf (.inr rfl) w⟩
def J6{ra c:ReM}{vb:v_}(op:ROp)(F:B_ B H0 H ps)(G:CN B H va ra)(I:CN B H vb c):Ai prog 46 #[.agg (Ad ra va).toArray,.agg (Ad c vb).toArray,.func (.func (opF op)) #[] #[]] H (Uz B H ps (opR op ra c)):=by
 obtain⟨g1,J,rfl⟩:=G.fn;obtain⟨g2,K,rfl⟩:=I.fn;have Y:=NQ ra;have Z:=NQ c;refine Ai.of_vc func46 rfl (call46 _) (BI (Ad ra (.func (.func g1) #[] J)) rfl ?_);intro d H1 N O y z;refine BI (Ad c (.func (.func g2) #[] K)) rfl ?_;intro f H2 P Q A p;refine BI [.func (.func (opF op)) #[] #[]] rfl ?_;intro g H3 R S C n;refine Af (.agg Aq.toArray) Aq DG rfl ?_;intro q H4 T U r i;have L:S_ H4 d 60 (Ad ra (.func (.func g1) #[] J)):=((y.agr p (zO:d<f)).agr n (zO:d<g)).agr i (zO:d<q);have M:S_ H4 f 60 (Ad c (.func (.func g2) #[] K)):=(A.agr n (zO:f<g)).agr i (zO:f<q);have V:S_ H4 g 114 [.func (.func (opF op)) #[] #[]]:=C.agr i (zO:g<q);refine G_ Tg ?_;refine C_ (v:=A_ ((Z' ra:Nat):Int)) E_ (by rw[L.cell];rfl) zA ?_;(conv=>whnf);rw[W_ (x:=1+((Z' ra:Nat):Int)) zO];refine G_ Tg ?_;refine C_ (v:=A_ ((Z' c:Nat):Int)) E_ (by rw[M.cell];rfl) zA ?_;(conv=>whnf);rw[W_ (x:=1+((Z' ra:Nat):Int)+((Z' c:Nat):Int)) zO];rw[(zO:1+((Z' ra:Nat):Int)+((Z' c:Nat):Int)=((1+Z' ra+Z' c:Nat):Int))];refine Al (UJ (1+Z' ra+Z' c) zO H4) λH5 j=>?_;have D:min (1+Z' ra+Z' c) 2001=Z' (opR op ra c):=by unfold Z';rw[RN];omega
 rw[D];have W:=Ad (opR op ra c) (.func (.func 75) #[] #[U_ g,U_ d,U_ f]);refine Au underlying60 rfl _ rfl (Ad (opR op ra c) (.func (.func 75) #[] #[U_ g,U_ d,U_ f])) rfl (Zaa (cs:=Ad (opR op ra c) (.func (.func 75) #[] #[U_ g,U_ d,U_ f])) rfl (r.agr j r.lt) (by simp[Ad,Aq]) rfl ?_);intro H6 s t X;rw[De rfl]at s;refine lN (cs:=Ad (opR op ra c) (.func (.func 75) #[] #[U_ g,U_ d,U_ f])) BZ (AA s) ?_;have u:D_ (H_ H) H H4:=(((z.mono λk a=>by have:k<H.size:=a;omega).trans (p.mono λk a=>by have:k<H.size:=a;omega)).trans (n.mono λk a=>by have:k<H.size:=a;omega)).trans (i.mono λk a=>by have:k<H.size:=a;omega);have o:D_ (H_ H) H H6:=(u.trans (j.mono λk a=>An u a)).trans (t.mono λk a=>by have:k<H.size:=a;omega);have l5:=BF j;have m:∀{b:Nat} {e:x_} {l:List v_},S_ H4 b e l->b≠q->S_ H6 b e l:=λh E=>(h.agr j h.lt).agr t E;have w:D_ B H H6:=o.mono λk a=>F.up a;exact⟨_,_,rfl,λk a=>.inl a,o,F.widen o (λk=>k=g\/k=d\/k=f) (λk a=>by rcases a with rfl | rfl | rfl<;>omega),.join op (.inr (.inl rfl)) (.inr (.inr (.inl rfl))) (.inr (.inr (.inr rfl))) (m V zO) (m L zO) (m M zO) (G.frame w λk a=>.inl a) (I.frame w λk a=>.inl a)⟩
def Uj{ra:ReM}(p:B_ B H0 H ps)(r:CN B H va ra):Ai prog 122 #[.agg (Ad ra va).toArray] H (Uz B H ps (.star ra)):=by
 obtain⟨g1,s,rfl⟩:=r.fn;have A:=NQ ra;refine Ai.of_vc func122 rfl (call122 _) (BI (Ad ra (.func (.func g1) #[] s)) rfl ?_);intro c H1 t u j l;refine Af (.agg Aq.toArray) Aq DG rfl ?_;intro q H4 w y e f;have m:S_ H4 c 60 (Ad ra (.func (.func g1) #[] s)):=j.agr f (zO:c<q);refine G_ Tg ?_;refine C_ (v:=A_ ((Z' ra:Nat):Int)) E_ (by rw[m.cell];rfl) zA ?_;(conv=>whnf);rw[W_ (x:=1+((Z' ra:Nat):Int)) zO];rw[(zO:1+((Z' ra:Nat):Int)=((1+Z' ra:Nat):Int))];refine Al (UJ (1+Z' ra) zO H4) λH5 b=>?_;have n:min (1+Z' ra) 2001=Z' (.star ra):=by unfold Z';show _=min (1+ra.nodes) 2001;omega
 rw[n];refine Au underlying60 rfl _ rfl (Ad (.star ra) (.func (.func 138) #[] #[U_ c])) rfl (Zaa (cs:=Ad (.star ra) (.func (.func 138) #[] #[U_ c])) rfl (e.agr b e.lt) (by simp[Ad,Aq]) rfl ?_);intro H6 g h z;rw[De rfl]at g;refine lN (cs:=Ad (.star ra) (.func (.func 138) #[] #[U_ c])) BZ (AA g) ?_;have i:D_ (H_ H) H H4:=(l.mono λk a=>by have:k<H.size:=a;omega).trans (f.mono λk a=>by have:k<H.size:=a;omega);have d:D_ (H_ H) H H6:=(i.trans (b.mono λk a=>An i a)).trans (h.mono λk a=>by have:k<H.size:=a;omega);have C:=BF b;have o:D_ B H H6:=d.mono λk a=>p.up a;exact⟨_,_,rfl,λk a=>.inl a,d,p.widen d (λk=>k=c) (λk a=>zO),.star (.inr rfl) ((m.agr b m.lt).agr h (zO:c≠q)) (r.frame o λk a=>.inl a)⟩
def T7{ra:ReM}(A:B_ B H0 H ps)(C:CN B H va ra):Ai prog 123 #[.agg (Ad ra va).toArray] H (Uz B H ps (BL ra)):=by obtain⟨g1,l,rfl⟩:=C.fn;refine Ai.of_vc func123 rfl (call123 _) (BI (Ad ra (.func (.func g1) #[] l)) rfl ?_);intro D H1 m I n g;refine Af (.agg Aq.toArray) Aq DG rfl ?_;intro q H4 o p s d;have E:S_ H4 D 60 (Ad ra (.func (.func g1) #[] l)):=n.agr d (zO:D<q);have b:D_ (H_ H) H H4:=(g.mono λk a=>by have:k<H.size:=a;omega).trans (d.mono λk a=>by have:k<H.size:=a;omega);have t:=(A.skip m g).box o p s d;refine Ap.heldZ (H_ H4) [5] (sq [0,1,2] (.f 3 (.f 4 (.f 5 .e)))) rfl zX (L_ (cs:=Ad ra (.func (.func g1) #[] l)) BZ (AA E) E.lt (Au underlying210 rfl _ rfl [] rfl (Ae.mk (Tx (r:=.eps) t rfl) ?_)));rintro _ H5 ⟨B1,M,rfl,F,j,u,ge⟩;refine⟨j,?_⟩;have h:D_ B H H5:=(b.trans (j.mono λk a=>An b a)).mono λk a=>A.up a;refine Ae.mk (J6 .alt u (C.frame h F) ge) ?_;rintro _ H6 ⟨B2,N,rfl,J,K,v,G⟩;have i:=j.trans (K.mono λk a=>An j a);refine⟨i,?_⟩;obtain⟨g2,w,rfl⟩:=G.fn;refine BH (cs:=Ad (BL ra) (.func (.func g2) #[] w)) v _ rfl (Gh _ _) (by simp[Ad,Aq]) rfl λH7 c x L=>?_;rw[T4,De rfl]at c;have y:S_ H7 q 60 (Ad (BL ra) (.func (.func g2) #[] w)):=c.blk _ (Gh _ _);refine lN (cs:=Ad (BL ra) (.func (.func g2) #[] w)) BZ (AA y) ?_;have z:D_ (H_ H) H H6:=b.trans (i.mono λk a=>An b a);exact⟨B2,_,rfl,λk a=>J k (F k a),z.trans (x.mono λk a=>by have:k<H.size:=a;omega),c.lft.rebase,G.frame c.old λk a=>a⟩
def K8(a:ReM)(m:Nat):DR a m 1=zY (if 0<m then a else BL a):=rfl
def dJ(a:ReM)(m k:Nat)(h:1<=k):∃r,DR a m k=zY r:=by obtain⟨j,rfl⟩:∃j,k=j+1:=⟨k-1,zO⟩;exact⟨_,rfl⟩
def Hd(a:ReM)(m k:Nat)(h:1<=k):(DR a m (k+1)).getD .eps= .cat ((DR a m k).getD .eps) (if k<m then a else BL a):=by have⟨r,b⟩:=dJ a m k h;show(zY (qD (DR a m k) (if k<m then a else BL a))).getD .eps=_;rw[b];rfl
def XF(ps:List Pc)(b3 q6 q7:Nat)(a out:ReM)(va fn:v_):List Pc:=ps++[pB 60 b3 (Ad a va),pB 60 q6 Aq,pB 60 q7 (Ad out fn)]
structure Al0(B:Nat->Prop)(H:Aa)(ps:List Pc)(b3 q6 q7:Nat)(a out:ReM)(va:v_)(G:Aa):Prop where
 ex:∃(B':Nat->Prop) (fn:v_),(∀k,B k->B' k)/\D_ (H_ H) H G/\B_ B' G G (XF ps b3 q6 q7 a out va fn)/\CN B' G va a/\CN B' G fn out
def Zp{a:ReM}{m:Nat}{n:Int}(X:B_ B H0 H ps)(P:CN B H va a)(hm:m<=255)(b4: -1<=n)(b5:n<=255)(b6:0<=n->(m:Int)<=n):Ai prog 140 #[.agg (Ad a va).toArray,A_ m,A_ n] H (Uz B H ps (C9 a m n)):=by
 obtain⟨g1,j,rfl⟩:=P.fn;refine Ai.of_vc func140 rfl (call140 _) (BI (Ad a (.func (.func g1) #[] j)) rfl ?_);intro R H1 ab ae ah S;have F_:=X.box ab ae ah S;refine Af (.agg Aq.toArray) Aq DG rfl ?_;intro M H2 ai aj ak a0;have w:=F_.box ai aj ak a0;have l:D_ (H_ H) H H2:=(S.mono λk b=>by have:k<H.size:=b;omega).trans (a0.mono λk b=>by have:k<H.size:=b;omega);have a4:D_ B H H2:=l.mono λk b=>X.up b;rw[zS]at w;have am:=P.frame a4 λk b=>b;have a5:S_ H2 R 60 (Ad a (.func (.func g1) #[] j)):=w.blk _ (Gh _ _);by_cases h1:m=0/\n<0;{have t:((m:Int)==0)=zW:=by{rw[h1.1];rfl};have Y:zT (n<0)=zW:=r_ h1.2;(conv=>whnf);rw[t];(conv=>whnf);rw[Y];refine L_ (cs:=Ad a (.func (.func g1) #[] j)) BZ (AA a5) zA (Ae.mk (Uj w am) ?_);rintro _ H3 ⟨B1,f1,rfl,o,a1,u,v⟩;obtain⟨g2,g,rfl⟩:=v.fn;refine BH (cs:=Ad (.star a) (.func (.func g2) #[] g)) u _ rfl (X_ ps _ 1) (by simp[Ad,Aq]) rfl λH4 d y a6=>?_;rw[zG,De rfl]at d;have p:S_ H4 M 60 (Ad (.star a) (.func (.func g2) #[] g)):=d.blk _ (X_ ps _ 1);refine lN (cs:=Ad (.star a) (.func (.func g2) #[] g)) BZ (AA p) ?_;have e:C9 a m n= .star a:=by{unfold C9;rw[J_ h1.2,J_ h1.1]};rw[e];exact⟨B1,_,rfl,o,(l.trans (a1.mono λk b=>An l b)).trans (y.mono λk b=>by have:k<H.size:=b;omega),d.lft.rebase,v.frame d.old λk b=>b⟩};by_cases h2:m=0/\n=0;{have t:((m:Int)==0)=zW:=by{rw[h2.1];rfl};have Y:zT (n<0)=zU:=g_;have d3:(n==0)=zW:=by{rw[h2.2];rfl};(conv=>whnf);rw[t];(conv=>whnf);rw[Y];(conv=>whnf);rw[t];(conv=>whnf);rw[d3];refine Au underlying210 rfl _ rfl [] rfl (Ae.mk (Tx (r:=.eps) w rfl) ?_);rintro _ H3 ⟨B1,f1,rfl,o,a1,u,v⟩;obtain⟨g2,g,rfl⟩:=v.fn;refine BH (cs:=Ad .eps (.func (.func g2) #[] g)) u _ rfl (X_ ps _ 1) (by simp[Ad,Aq]) rfl λH4 d y a6=>?_;rw[zG,De rfl]at d;have p:S_ H4 M 60 (Ad .eps (.func (.func g2) #[] g)):=d.blk _ (X_ ps _ 1);refine lN (cs:=Ad .eps (.func (.func g2) #[] g)) BZ (AA p) ?_;have e:C9 a m n= .eps:=by{unfold C9;rw[I_ zO,J_ h2.2]};rw[e];exact⟨B1,_,rfl,o,(l.trans (a1.mono λk b=>An l b)).trans (y.mono λk b=>by have:k<H.size:=b;omega),d.lft.rebase,v.frame d.old λk b=>b⟩};by_cases T:m=0;have t:((m:Int)==0)=zW:=by rw[T];rfl
 (conv=>whnf);rw[t];(conv=>whnf);rw[show zT (n<0)=zU from g_];(conv=>whnf);rw[t];(conv=>whnf);rw[show(n==0)=zU from beq_eq_false_iff_ne.2 zO];rotate_left
 have t:((m:Int)==0)=zU:=beq_eq_false_iff_ne.2 zO;(conv=>whnf);rw[t];(conv=>whnf);rw[t];(all_goals refine L_ (cs:=Ad a (.func (.func g1) #[] j)) BZ (AA a5) zA (Af (.agg Aq.toArray) Aq DG rfl ?_);intro U H3 ao ap aq a7;have u:=w.box ao ap aq a7;rw[zS]at u;refine BH (cs:=Ad a (.func (.func g1) #[] j)) u _ rfl (X_ ps _ 2) (by simp[Ad,Aq]) rfl λH4 d y a6=>?_;rw[zG]at d;replace d:B_ B H0 H4 (XF ps R M U a a (.func (.func g1) #[] j) (.func (.func g1) #[] j)):=by{have e:Ah Aq 0 (Ad a (.func (.func g1) #[] j))=Ad a (.func (.func g1) #[] j):=De rfl;have:=d;rw[e]at this;exact this};have N:D_ (H_ H) H H4:=(l.trans (a7.mono λk b=>by have:=An l b;omega)).trans (y.mono λk b=>by have:k<H.size:=b;omega);have z:D_ B H H4:=N.mono λk b=>X.up b;have n3:H.size<=U:=by{have:=BF l;omega};have n6:H.size<=M:=by{have:=BF (show D_ (H_ H) H H1 from S.mono λk b=>by have:k<H.size:=b;omega);omega};(conv=>whnf);refine A7.cut [] (λ_:Unit=>[]) (λ_ G=>Al0 B H ps R M U a ((DR a m 1).getD .eps) (.func (.func g1) #[] j) G) ?_ ?_;{by_cases T:m=0;{have t:((m:Int)==0)=zW:=by{rw[T];rfl};(conv=>whnf);rw[t];refine L_ (cs:=Ad a (.func (.func g1) #[] j)) BZ (AA (d.blk _ (Gh _ _))) zA (Ae.mk (T7 d (P.frame z λk b=>b)) ?_);rintro _ H5 ⟨B1,f1,rfl,o,a1,ar,v⟩;obtain⟨g2,g,rfl⟩:=v.fn;refine BH (cs:=Ad (BL a) (.func (.func g2) #[] g)) ar _ rfl (X_ ps _ 2) (by simp[Ad]) rfl λH6 A au b7=>?_;unfold XF at A;rw[zG]at A;have e6:Ah (Ad a (.func (.func g1) #[] j)) 0 (Ad (BL a) (.func (.func g2) #[] g))=Ad (BL a) (.func (.func g2) #[] g):=De rfl;rw[e6]at A;(conv=>whnf);have a8:D_ (H_ H) H H6:=(N.trans (a1.mono λk b=>An N b)).trans (au.mono λk b=>by have:k<H.size:=b;omega);refine⟨rfl,(),rfl,⟨B1,.func (.func g2) #[] g,o,a8,?_,P.frame (a8.mono λk b=>X.up b) o,?_⟩⟩;{rw[K8,I_ zO];exact A.rebase};rw[K8,I_ zO];exact v.frame A.old λk b=>b};have t:((m:Int)==0)=zU:=beq_eq_false_iff_ne.2 zO;(conv=>whnf);rw[t];(conv=>whnf);refine⟨rfl,(),rfl,⟨B,.func (.func g1) #[] j,λk b=>b,N,?_,P.frame z λk b=>b,?_⟩⟩;{rw[K8,J_ zO];exact d.rebase};rw[K8,J_ zO];exact P.frame z λk b=>b};rintro⟨⟩ G0 aw a9;(conv=>whnf);refine A0.mk [8] (λk:Nat=>[A_ k]) (λk G=>1<=k/\k<=max m 1/\Al0 B H ps R M U a ((DR a m k).getD .eps) (.func (.func g1) #[] j) G) (λk _=>max m 1-k) ?_ ?_;{(conv=>whnf);exact⟨1,rfl,M_ _,zO,a9⟩};rintro k G ax ⟨V,ay,⟨B1,f1,o,K,h,Z,L⟩⟩;obtain⟨C,D,rfl⟩:=L.fn;refine AB.m2 (λhz=>?_) (λhz=>?_);{(conv=>whnf);(try refine A7.run ?_);refine L_ (cs:=Ad ((DR a m k).getD .eps) (.func (.func C) #[] D)) BZ (AA (h.blk _ (X_ ps _ 2))) zA (L_ (cs:=Ad a (.func (.func g1) #[] j)) BZ (AA (h.blk _ (Gh ps _))) zA (Ae.mk (J6 .cat h L Z) ?_));rintro _ G1 ⟨B2,f2,rfl,O,E,F,Q⟩;obtain⟨g2,g,rfl⟩:=Q.fn;refine BH (cs:=Ad (opR .cat ((DR a m k).getD .eps) a) (.func (.func g2) #[] g)) F _ rfl (X_ ps _ 2) (by simp[Ad]) rfl λG3 i q W=>?_;unfold XF at i;rw[zG]at i;have e:Ah (Ad ((DR a m k).getD .eps) (.func (.func C) #[] D)) 0 (Ad (opR .cat ((DR a m k).getD .eps) a) (.func (.func g2) #[] g))=Ad (opR .cat ((DR a m k).getD .eps) a) (.func (.func g2) #[] g):=De rfl;rw[e]at i;(conv=>whnf);rw[R_ k zO];have I:D_ (H_ H) H G3:=(K.trans (E.mono λk b=>An K b)).trans (q.mono λk b=>by have:k<H.size:=b;omega);refine⟨rfl,k+1,rfl,⟨zO,zO,⟨B2,.func (.func g2) #[] g,λk b=>O k (o k b),I,?_,P.frame (I.mono λk b=>X.up b) λk b=>O k (o k b),?_⟩⟩,zO⟩;{rw[Hd _ _ _ V,J_ zO];exact i.rebase};rw[Hd _ _ _ V,J_ zO];exact Q.frame i.old λk b=>b};obtain rfl:k=max m 1:=zO;by_cases hn:n<0;{have Y:zT (n<0)=zW:=r_ hn;have az:max m 1=m:=zO;rw[az]at L h;(conv=>whnf);(try refine A7.run ?_);(conv=>whnf);rw[Y];refine Ap.heldZ (H_ G) [4] (sq [0,1] (.f 2 (.f 3 (.f 4 .e)))) rfl zX (L_ (cs:=Ad ((DR a m m).getD .eps) (.func (.func C) #[] D)) BZ (AA (h.blk _ (X_ ps _ 2))) ((h.in_ _ (X_ ps _ 2) (k:=U) rfl).2) (L_ (cs:=Ad a (.func (.func g1) #[] j)) BZ (AA (h.blk _ (Gh ps _))) ((h.in_ _ (Gh ps _) (k:=R) rfl).2) (Ae.mk (Uj h Z) ?_)));rintro _ G1 ⟨B2,f2,rfl,O,E,F,v⟩;refine⟨E,?_⟩;have s:D_ B1 G G1:=E.mono λk b=>h.up b;refine Ae.mk (J6 .cat F (L.frame s O) v) ?_;rintro _ G2 ⟨B3,f3,rfl,s3,a3,i,Q⟩;have J:=E.trans (a3.mono λk b=>An E b);refine⟨J,?_⟩;obtain⟨g2,g,rfl⟩:=Q.fn;refine BH (cs:=Ad (opR .cat ((DR a m m).getD .eps) (.star a)) (.func (.func g2) #[] g)) i _ rfl (X_ ps _ 1) (by simp[Ad,Aq]) rfl λG3 c q W=>?_;unfold XF at c;rw[zG,De rfl]at c;have p:S_ G3 M 60 (Ad (opR .cat ((DR a m m).getD .eps) (.star a)) (.func (.func g2) #[] g)):=c.blk _ (X_ ps _ 1);refine lN (cs:=Ad (opR .cat ((DR a m m).getD .eps) (.star a)) (.func (.func g2) #[] g)) BZ (AA p) ?_;have e:C9 a m n=opR .cat ((DR a m m).getD .eps) (.star a):=by{unfold C9;rw[J_ hn,I_ zO]<;>rfl};rw[e];exact⟨B3,_,rfl,λk b=>s3 k (O k (o k b)),(K.trans (J.mono λk b=>An K b)).trans (q.mono λk b=>by have:k<H.size:=b;omega),c.lft.rebase,Q.frame c.old λk b=>b⟩};have Y:zT (n<0)=zU:=n_ hn;obtain⟨nn,rfl⟩:=xR (zO:0<=n);(conv=>whnf);(try refine A7.run ?_);(conv=>whnf);refine A0.mk [8] (λk:Nat=>[A_ k]) (λk G=>max m 1<=k/\k<=nn/\Al0 B H ps R M U a ((DR a m k).getD .eps) (.func (.func g1) #[] j) G) (λk _=>nn-k) ?_ ?_;{(conv=>whnf);exact⟨max m 1,rfl,M_ _,zO,⟨B1,.func (.func C) #[] D,o,K,h,Z,L⟩⟩};clear o K h Z L B1;rintro k G b0 ⟨V,ay,⟨B1,f1,o,K,h,Z,L⟩⟩;obtain⟨C,D,rfl⟩:=L.fn;refine AB.m2 (λhz=>?_) (λhz=>?_);{(conv=>whnf);(try refine A7.run ?_);refine Ap.heldZ (H_ G) [4] (sq [0,1] (.f 2 (.f 3 (.f 4 .e)))) rfl zX (L_ (cs:=Ad ((DR a m k).getD .eps) (.func (.func C) #[] D)) BZ (AA (h.blk _ (X_ ps _ 2))) ((h.in_ _ (X_ ps _ 2) (k:=U) rfl).2) (L_ (cs:=Ad a (.func (.func g1) #[] j)) BZ (AA (h.blk _ (Gh ps _))) ((h.in_ _ (Gh ps _) (k:=R) rfl).2) (Ae.mk (T7 h Z) ?_)));rintro _ G1 ⟨B2,f2,rfl,O,E,F,v⟩;refine⟨E,?_⟩;have s:D_ B1 G G1:=E.mono λk b=>h.up b;refine Ae.mk (J6 .cat F (L.frame s O) v) ?_;rintro _ G2 ⟨B3,f3,rfl,s3,a3,i,Q⟩;have J:=E.trans (a3.mono λk b=>An E b);refine⟨J,?_⟩;obtain⟨g2,g,rfl⟩:=Q.fn;refine BH (cs:=Ad (opR .cat ((DR a m k).getD .eps) (BL a)) (.func (.func g2) #[] g)) i _ rfl (X_ ps _ 2) (by simp[Ad]) rfl λG3 c q W=>?_;unfold XF at c;rw[zG]at c;have e:Ah (Ad ((DR a m k).getD .eps) (.func (.func C) #[] D)) 0 (Ad (opR .cat ((DR a m k).getD .eps) (BL a)) (.func (.func g2) #[] g))=Ad (opR .cat ((DR a m k).getD .eps) (BL a)) (.func (.func g2) #[] g):=De rfl;rw[e]at c;(conv=>whnf);rw[R_ k zO];have I:D_ (H_ H) H G3:=(K.trans (J.mono λk b=>An K b)).trans (q.mono λk b=>by have:k<H.size:=b;omega);refine⟨rfl,k+1,rfl,⟨zO,zO,⟨B3,.func (.func g2) #[] g,λk b=>s3 k (O k (o k b)),I,?_,P.frame (I.mono λk b=>X.up b) λk b=>s3 k (O k (o k b)),?_⟩⟩,zO⟩;{rw[Hd _ _ _ zO,I_ zO];exact c.rebase};rw[Hd _ _ _ zO,I_ zO];exact Q.frame c.old λk b=>b};obtain rfl:k=nn:=zO;refine L_ (cs:=Ad ((DR a m k).getD .eps) (.func (.func C) #[] D)) BZ (AA (h.blk _ (X_ ps _ 2))) zA (BH (cs:=Ad ((DR a m k).getD .eps) (.func (.func C) #[] D)) h _ rfl (X_ ps _ 1) (by simp[Ad,Aq]) rfl λG3 c q W=>?_);unfold XF at c;rw[zG,De rfl]at c;have p:S_ G3 M 60 (Ad ((DR a m k).getD .eps) (.func (.func C) #[] D)):=c.blk _ (X_ ps _ 1);refine lN (cs:=Ad ((DR a m k).getD .eps) (.func (.func C) #[] D)) BZ (AA p) ?_;have e:C9 a m (k:Int)=(DR a m k).getD .eps:=by{unfold C9;rw[I_ zO,I_ zO,O']};rw[e];exact⟨B1,_,rfl,o,K.trans (q.mono λk b=>by have:k<H.size:=b;omega),c.lft.rebase,L.frame c.old λk b=>b⟩)
def MK(c:Nat):Int:=match DQ c with
 | some v=>(v:Int)
 | none=> -1
def Xz(e:c<256):BK prog 78 #[.int .u8 (c:Int)] H (.int .i64 (MK c)):=by
 refine Ai.of_vc func78 rfl (call78 _) ?_;(conv=>whnf);by_cases b:48<=c;skip;have a:zT ((c:Int)>=48)=zW:=t_;(conv=>whnf);rw[a];clear a;by_cases d:c<=57;{skip;have a:zT ((c:Int)<=57)=zW:=t_;(conv=>whnf);rw[a];clear a;(conv=>whnf);rw[w8 (x:=(c:Int)-48) zO zO];(conv=>whnf);rw[W_ (x:=(c:Int)-48) zO];(conv=>whnf);refine⟨?_,D_.refl _ _⟩;have:DQ c=zY (c-48):=by{unfold DQ;rw[J_ zO]};unfold MK;rw[this];show Value.int .i64 ((c:Int)-48)=Value.int .i64 ((c-48:Nat):Int);congr 1;omega};skip;have a:zT ((c:Int)<=57)=zU:=g_;(conv=>whnf);rw[a];clear a;by_cases b:97<=c;{skip;have a:zT ((c:Int)>=97)=zW:=t_;(conv=>whnf);rw[a];clear a;by_cases d:c<=102;{skip;have a:zT ((c:Int)<=102)=zW:=t_;(conv=>whnf);rw[a];clear a;(conv=>whnf);rw[w8 (x:=(c:Int)-97) zO zO];(conv=>whnf);rw[W_ (x:=(c:Int)-97) zO];(conv=>whnf);rw[W_ (x:=(c:Int)-97+10) zO];(conv=>whnf);refine⟨?_,D_.refl _ _⟩;have:DQ c=zY (c-87):=by{unfold DQ;rw[I_ zO,J_ zO]};unfold MK;rw[this];show Value.int .i64 ((c:Int)-97+10)=Value.int .i64 ((c-87:Nat):Int);congr 1;omega};skip;have a:zT ((c:Int)<=102)=zU:=g_;(conv=>whnf);rw[a];clear a;(conv=>whnf);refine⟨?_,D_.refl _ _⟩;have:DQ c=zV:=by{unfold DQ;rw[I_ zO,I_ zO]};unfold MK;rw[this]};skip;rotate_left
 skip;have a:zT ((c:Int)>=48)=zU:=g_;(conv=>whnf);rw[a];clear a;all_goals have a:zT ((c:Int)>=97)=zU:=g_;(conv=>whnf);rw[a];clear a;(conv=>whnf);refine⟨?_,D_.refl _ _⟩;have:DQ c=zV:=by{unfold DQ;rw[I_ zO,I_ zO]};unfold MK;rw[this]
def Uh(t:ByteArray)(i:Nat)(inner:Bool):v_:=match CD t (if inner then Hu else Fy) i with
 | .inl e=>.tuple #[.int .u8 0,A_ 0,A_ e]
 | .inr (c,j)=>.tuple #[.int .u8 (c:Int),A_ j,A_ (-1)]
def FL{e:Nat}{inner:Bool}(h:CD t (if inner then Hu else Fy) i= .inl e):Value.tuple #[.int .u8 0,A_ 0,A_ e]=Uh t i inner:=by unfold Uh;rw[h]
def I5{inner:Bool}(h:CD t (if inner then Hu else Fy) i= .inr (c,j)):Value.tuple #[.int .u8 (c:Int),A_ j,A_ (-1)]=Uh t i inner:=by unfold Uh;rw[h]
def Lr{inner:Bool}(ht:t.size<=1152921504606846976)(ag:i<=t.size):BK prog 50 #[.string t,A_ i,.bool inner] H (Uh t i inner):=by
 refine Ai.of_vc func50 rfl (call50 _) ?_;by_cases hi:i<t.size;(case neg=>have n:=DD hi;have d:zT ((i:Int)>=(t.size:Int))=zW:=t_;obtain rfl:i=t.size:=zO;(conv=>whnf);rw[d];(conv=>whnf);exact⟨FL (by unfold CD;rw[n,I_ zQ,J_ (.inr (.inl zQ))]),D_.refl _ _⟩);have⟨b,W,X,J⟩:=Es hi;have d0:zT ((i:Int)>=(t.size:Int))=zU:=g_;(conv=>whnf);rw[d0];refine EJ HI rfl W ?_;rw[<-X];by_cases C:bt t i=92;(case neg=>obtain⟨c,D⟩:∃c,c=bt t i:=⟨_,rfl⟩;rw[<-D]at J C ⊢;have dn:((c:Int) != (92:Int))=zW:=by{rw[bne_iff_ne];omega};have l:CD t (if inner then Hu else Fy) i=if c<32\/126<c\/wT (if inner then Hu else Fy) c=zW then .inl i else .inr (c,i+1):=by{unfold CD;rw[<-D,I_ C]};(conv=>whnf);rw[dn];(conv=>whnf);by_cases E:c<32;{skip;have d:zT ((c:Int)<32)=zW:=t_;(conv=>whnf);rw[d];clear d;cases inner with|true | false=>(conv=>whnf);(try refine A7.run ?_);(conv=>whnf);exact⟨FL (by rw[l,J_ zO]),D_.refl _ _⟩};skip;have d:zT ((c:Int)<32)=zU:=g_;(conv=>whnf);rw[d];clear d;by_cases F:126<c;{skip;have d:zT ((c:Int)>126)=zW:=t_;(conv=>whnf);rw[d];clear d;cases inner with|true | false=>(conv=>whnf);(try refine A7.run ?_);(conv=>whnf);exact⟨FL (by rw[l,J_ zO]),D_.refl _ _⟩};skip;have d:zT ((c:Int)>126)=zU:=g_;(conv=>whnf);rw[d];clear d;cases inner with|true=>{(conv=>whnf);(try refine A7.run ?_);refine Al (AhV J) λG L=>?_;cases p:wT Hu c with|true=>(conv=>whnf);exact⟨FL (by rw[l,J_ (.inr (.inr p))]),L⟩|false=>have q:¬(c<32\/126<c\/wT (if zW=zW then Hu else Fy) c=zW):=by{have:wT (if zW=zW then Hu else Fy) c=zU:=p;rw[this];simp;omega};(conv=>whnf);rw[R_ i zO];(conv=>whnf);exact⟨I5 (j:=i+1) (by rw[l,I_ q]),L⟩}|false=>{(conv=>whnf);(try refine A7.run ?_);refine Al (dS J) λG L=>?_;cases p:wT Fy c with|true=>(conv=>whnf);exact⟨FL (by rw[l,J_ (.inr (.inr p))]),L⟩|false=>have q:¬(c<32\/126<c\/wT (if zU=zW then Hu else Fy) c=zW):=by{have:wT (if zU=zW then Hu else Fy) c=zU:=p;rw[this];simp;omega};(conv=>whnf);rw[R_ i zO];(conv=>whnf);exact⟨I5 (j:=i+1) (by rw[l,I_ q]),L⟩});have l:CD t (if inner then Hu else Fy) i=IF t (i+1):=by unfold CD;rw[J_ C]
 rw[C];(conv=>whnf);rw[R_ i zO];by_cases M:i+1<t.size;(case neg=>have n:=DD M;have d:zT ((i:Int)+1>=(t.size:Int))=zW:=t_;have Y:i+1=t.size:=zO;(conv=>whnf);rw[d];(conv=>whnf);refine⟨?_,D_.refl _ _⟩;have:=FL (inner:=inner) (e:=i+1) (by rw[l];unfold IF;rw[J_ n]);rw[Y]at this;exact this);have⟨b1,Z,a0,a1⟩:=Es M;have d:zT ((i:Int)+1>=(t.size:Int))=zU:=g_;(conv=>whnf);rw[d];clear d d0;(conv=>whnf);rw[R_ i zO];refine EJ (i:=i+1) HI rfl Z ?_;rw[<-a0];obtain⟨c,D⟩:∃c,c=bt t (i+1):=⟨_,rfl⟩;rw[<-D]at a1 ⊢;by_cases r:c=110;{have d:((c:Int)==(110:Int))=zW:=by{rw[r];rfl};(conv=>whnf);rw[d];(conv=>whnf);rw[W_ (x:=(i:Int)+2) zO];(conv=>whnf);exact⟨I5 (c:=10) (j:=i+2) (by rw[l];unfold IF;rw[<-D,r];rfl),D_.refl _ _⟩};have N:((c:Int)==(110:Int))=zU:=beq_eq_false_iff_ne.2 zO;(conv=>whnf);rw[N];by_cases s:c=114;{have d:((c:Int)==(114:Int))=zW:=by{rw[s];rfl};(conv=>whnf);rw[d];(conv=>whnf);rw[W_ (x:=(i:Int)+2) zO];(conv=>whnf);exact⟨I5 (c:=13) (j:=i+2) (by rw[l];unfold IF;rw[<-D,s];rfl),D_.refl _ _⟩};have O:((c:Int)==(114:Int))=zU:=beq_eq_false_iff_ne.2 zO;(conv=>whnf);rw[O];by_cases u:c=116;{have d:((c:Int)==(116:Int))=zW:=by{rw[u];rfl};(conv=>whnf);rw[d];(conv=>whnf);rw[W_ (x:=(i:Int)+2) zO];(conv=>whnf);exact⟨I5 (c:=9) (j:=i+2) (by rw[l];unfold IF;rw[<-D,u];rfl),D_.refl _ _⟩};have P:((c:Int)==(116:Int))=zU:=beq_eq_false_iff_ne.2 zO;(conv=>whnf);rw[P]
 have g:IF t (i+1)=(if c=120 then match DQ (bt t (i+1+1))with
   | none=>.inl (i+1+1)
   | some a=>match DQ (bt t (i+1+2))with
     | none=>.inl (i+1+2)
     | some b=>.inr (16*a+b,i+1+3)
  else if c<32\/126<c\/(48<=c/\c<=57)\/(97<=c/\c<=122)\/(65<=c/\c<=90)then .inl (i+1)else .inr (c,i+1+1)):=by
  unfold IF;rw[<-D,I_ (zO:c≠256),I_ r,I_ s,I_ u]<;>rfl
 by_cases w:c=120;{have d:((c:Int)==(120:Int))=zW:=by{rw[w];rfl};rw[J_ w]at g;(conv=>whnf);rw[d];(conv=>whnf);refine A0.mk [11] (λk:Nat=>[A_ k]) (λk G=>2<=k/\k<=4/\(∀m,2<=m->m<k->(DQ (bt t (i+m))).isSome=zW)/\D_ (H_ H) H G) (λk _=>4-k) ?_ ?_;{(conv=>whnf);exact⟨2,rfl,zO,zO,λm h1 U=>zO,D_.refl _ _⟩};rintro k G a7 ⟨ah,ai,o,y⟩;refine AB.m2 (λhz=>?_) (λhz=>?_);{(conv=>whnf);(try refine A7.run ?_);(conv=>whnf);rw[W_ (x:=(i:Int)+(k:Int)) zO];have z:DQ (bt t (i+k))=zV->CD t (if inner then Hu else Fy) i= .inl (i+k):=λK=>by{rw[l,g];have:k=2\/k=3:=zO;rcases this with rfl | rfl;{have K:DQ (bt t (i+1+1))=zV:=K;rw[K]};have U:=o 2 zO zO;have⟨a,A⟩:=rJ.1 U;have A:DQ (bt t (i+1+1))=zY a:=A;have K:DQ (bt t (i+1+2))=zV:=K;rw[A];show(match DQ (bt t (i+1+2))with | none=>_ | some b=>_)=_;rw[K]};by_cases Q:i+k<t.size;(case neg=>have n:=DD Q;have d2:zT ((i:Int)+(k:Int)>=(t.size:Int))=zW:=t_;(conv=>whnf);rw[d2];(conv=>whnf);rw[W_ (x:=(i:Int)+(k:Int)) zO];(conv=>whnf);refine⟨?_,y⟩;exact FL (e:=i+k) (z (by rw[n];rfl)));have⟨bk,a2,R,a3⟩:=Es Q;have d2:zT ((i:Int)+(k:Int)>=(t.size:Int))=zU:=g_;(conv=>whnf);rw[d2];(conv=>whnf);rw[W_ (x:=(i:Int)+(k:Int)) zO];refine EJ (i:=i+k) HI rfl a2 ?_;rw[<-R];refine Al (Xz a3) λG2 B=>?_;have I:=y.trans (B.mono λk S=>An y S);cases V:DQ (bt t (i+k))with|none=>have d3:zT (MK (bt t (i+k))<0)=zW:=by{unfold MK;rw[V];rfl};(conv=>whnf);rw[d3];(conv=>whnf);rw[W_ (x:=(i:Int)+(k:Int)) zO];(conv=>whnf);exact⟨FL (e:=i+k) (z V),I⟩|some v=>{have d3:zT (MK (bt t (i+k))<0)=zU:=by{unfold MK;rw[V];show zT ((v:Int)<0)=zU;exact g_};(conv=>whnf);rw[d3];(conv=>whnf);rw[R_ k zO];refine⟨rfl,k+1,rfl,⟨zO,zO,λm h1 U=>?_,I⟩,zO⟩;rcases Nat.lt_succ_iff_lt_or_eq.1 U with h | rfl;{exact o m h1 h};rw[V];rfl}};obtain rfl:k=4:=zO;have⟨a,A⟩:=rJ.1 (o 2 zO zO);have⟨b,q⟩:=rJ.1 (o 3 zO zO);have aj:=Jy A;have ak:=Jy q;have a4:i+2<t.size:=EU λe=>by{rw[e]at A;cases A};have a5:i+3<t.size:=EU λe=>by{rw[e]at q;cases q};have⟨x2,p1,p2,p3⟩:=Es a4;have⟨x3,q1,q2,q3⟩:=Es a5;have ea:MK (bt t (i+2))=(a:Int):=by{unfold MK;rw[A]};have eb:MK (bt t (i+3))=(b:Int):=by{unfold MK;rw[q]};refine Ap.held (H_ G) 18 (sq [0,1,2,3,6,7,8,9,13,14] (.f 4 (sq [5] (.f 10 (sq [11,12,15,16,17] .e))))) rfl zX ?_;(conv=>whnf);rw[W_ (x:=(i:Int)+2) zO];refine EJ (i:=i+2) HI rfl p1 ?_;rw[<-p2];(conv=>whnf);rw[W_ (x:=(i:Int)+3) zO];refine EJ (i:=i+3) HI rfl q1 ?_;rw[<-q2];(conv=>whnf);rw[W_ (x:=(i:Int)+4) zO];refine Al (Xz p3) λG2 B=>(⟨B,?_⟩);rw[ea];(conv=>whnf);rw[W_ (x:=16*(a:Int)) zO];refine Al (Xz q3) λG3 a6=>?_;have T:=B.trans (a6.mono λk S=>An B S);refine⟨T,?_⟩;rw[eb];(conv=>whnf);rw[W_ (x:=16*(a:Int)+(b:Int)) zO];(conv=>whnf);rw[w8 (x:=16*(a:Int)+(b:Int)) zO zO];(conv=>whnf);refine⟨?_,y.trans (T.mono λk S=>An y S)⟩;have:=I5 (t:=t) (i:=i) (inner:=inner) (c:=16*a+b) (j:=i+4) (by{rw[l,g];have A:DQ (bt t (i+1+1))=zY a:=A;have q:DQ (bt t (i+1+2))=zY b:=q;rw[A];show(match DQ (bt t (i+1+2))with | none=>_ | some b=>_)=_;rw[q]});rw[<-this];rfl};have d:((c:Int)==(120:Int))=zU:=beq_eq_false_iff_ne.2 zO;rw[I_ w]at g;(conv=>whnf);rw[d];clear d;(conv=>whnf);by_cases E:97<=c;skip;have d:zT ((c:Int)>=97)=zW:=t_;(conv=>whnf);rw[d];clear d;by_cases a8:c<=122;{skip;have d:zT ((c:Int)<=122)=zW:=t_;(conv=>whnf);rw[d];clear d;have d:zT ((c:Int)<32)=zU:=g_;(conv=>whnf);rw[d];clear d;have d:zT ((c:Int)>126)=zU:=g_;(conv=>whnf);rw[d];clear d;(conv=>whnf);rw[R_ i zO];(conv=>whnf);exact⟨FL (e:=i+1) (by rw[l,g,J_ zO]),D_.refl _ _⟩};skip;have d:zT ((c:Int)<=122)=zU:=g_;(conv=>whnf);rw[d];clear d;have d:zT ((c:Int)>=65)=zW:=t_;(conv=>whnf);rw[d];clear d;have d:zT ((c:Int)<=90)=zU:=g_;(conv=>whnf);rw[d];clear d;have d:zT ((c:Int)>=48)=zW:=t_;(conv=>whnf);rw[d];clear d;have d:zT ((c:Int)<=57)=zU:=g_;(conv=>whnf);rw[d];clear d;have d:zT ((c:Int)<32)=zU:=g_;(conv=>whnf);rw[d];clear d;by_cases F:126<c;{skip;have d:zT ((c:Int)>126)=zW:=t_;(conv=>whnf);rw[d];clear d;(conv=>whnf);rw[R_ i zO];(conv=>whnf);exact⟨FL (e:=i+1) (by rw[l,g,J_ zO]),D_.refl _ _⟩};skip;rotate_left
 skip;have d:zT ((c:Int)>=97)=zU:=g_;(conv=>whnf);rw[d];clear d;by_cases F:65<=c;{skip;have d:zT ((c:Int)>=65)=zW:=t_;(conv=>whnf);rw[d];clear d;by_cases a9:c<=90;{skip;have d:zT ((c:Int)<=90)=zW:=t_;(conv=>whnf);rw[d];clear d;have d:zT ((c:Int)<32)=zU:=g_;(conv=>whnf);rw[d];clear d;have d:zT ((c:Int)>126)=zU:=g_;(conv=>whnf);rw[d];clear d;(conv=>whnf);rw[R_ i zO];(conv=>whnf);exact⟨FL (e:=i+1) (by rw[l,g,J_ zO]),D_.refl _ _⟩};skip;have d:zT ((c:Int)<=90)=zU:=g_;(conv=>whnf);rw[d];clear d;have d:zT ((c:Int)>=48)=zW:=t_;(conv=>whnf);rw[d];clear d;have d:zT ((c:Int)<=57)=zU:=g_;(conv=>whnf);rw[d];clear d;have d:zT ((c:Int)<32)=zU:=g_;(conv=>whnf);rw[d];clear d;have d:zT ((c:Int)>126)=zU:=g_;(conv=>whnf);rw[d];clear d;(conv=>whnf);rw[W_ (x:=(i:Int)+2) zO];(conv=>whnf);exact⟨I5 (j:=i+2) (by rw[l,g,I_ zO]),D_.refl _ _⟩};skip;have d:zT ((c:Int)>=65)=zU:=g_;(conv=>whnf);rw[d];clear d;by_cases ab:48<=c;{skip;have d:zT ((c:Int)>=48)=zW:=t_;(conv=>whnf);rw[d];clear d;by_cases ae:c<=57;{skip;have d:zT ((c:Int)<=57)=zW:=t_;(conv=>whnf);rw[d];clear d;have d:zT ((c:Int)<32)=zU:=g_;(conv=>whnf);rw[d];clear d;have d:zT ((c:Int)>126)=zU:=g_;(conv=>whnf);rw[d];clear d;(conv=>whnf);rw[R_ i zO];(conv=>whnf);exact⟨FL (e:=i+1) (by rw[l,g,J_ zO]),D_.refl _ _⟩};skip;have d:zT ((c:Int)<=57)=zU:=g_;(conv=>whnf);rw[d];clear d;have d:zT ((c:Int)<32)=zU:=g_;(conv=>whnf);rw[d];clear d;have d:zT ((c:Int)>126)=zU:=g_;(conv=>whnf);rw[d];clear d;(conv=>whnf);rw[W_ (x:=(i:Int)+2) zO];(conv=>whnf);exact⟨I5 (j:=i+2) (by rw[l,g,I_ zO]),D_.refl _ _⟩};skip;have d:zT ((c:Int)>=48)=zU:=g_;(conv=>whnf);rw[d];clear d;by_cases E:c<32;{skip;have d:zT ((c:Int)<32)=zW:=t_;(conv=>whnf);rw[d];clear d;(conv=>whnf);rw[R_ i zO];(conv=>whnf);exact⟨FL (e:=i+1) (by rw[l,g,J_ zO]),D_.refl _ _⟩};skip;have d:zT ((c:Int)<32)=zU:=g_;(conv=>whnf);rw[d];clear d;all_goals have d:zT ((c:Int)>126)=zU:=g_;(conv=>whnf);rw[d];clear d;(conv=>whnf);rw[W_ (x:=(i:Int)+2) zO];(conv=>whnf);exact⟨I5 (j:=i+2) (by rw[l,g,I_ zO]),D_.refl _ _⟩
end Go.Proofs.YtelngokgpnphfaaGreatDoor
