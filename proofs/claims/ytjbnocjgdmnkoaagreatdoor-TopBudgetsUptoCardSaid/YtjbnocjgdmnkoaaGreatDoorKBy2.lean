import Derived.Test.YtjbnocjgdmnkoaaGreatDoorKBy1
import Derived.Sort.OwnSortedInts
import Derived.Shelf.Sort.Plain
import Derived.Shelf.Slices.In.SortNone
import Derived.TacticsIn
import Derived.RangeFuncRecord
import Derived.Shelf.Strconv.AppendIntPublic10
set_option maxHeartbeats 100000000
open BitVec renaming allOnes -> ApZ, ofInt -> AqX, twoPow -> At0
open Int renaming ofNat -> As6
open List renaming range -> ApW, replicate -> Aq6
open Nat renaming reducePow -> Ar5, reduceMul -> ArU, cast -> As1
open Option renaming some -> AqF
set_option maxRecDepth 100000
open Go.Proofs.Tryz
open Go renaming Program -> w_, TypeId -> x_, Value -> v_, World -> y_
open Option renaming some -> zY, none -> zV
open Bool renaming true -> zW, false -> zU
open Decidable renaming decide -> zT
set_option linter.unusedVariables false
set_option linter.unusedSimpArgs false
set_option linter.defProp false
namespace Go.Proofs.YtjbnocjgdmnkoaaGreatDoor
variable{P:w_}{d:IntKind}{S B:Nat->Prop}{H H0:Aa}{b n cap c k m t j:Nat}{cs:List (BitVec 256)}{x:BitVec 256}{ps qs:List Pc}{e kt:x_}{K:v_->Aa->Prop}{q:Int}{Z:List Nat}{l xs:List Int}{nv cv fv av z:v_}{ds:List v_}{al J:List Bool}{F bk:List (List Int)}{ra:Option Addr}{f:Int->Option v_}
section
variable{c:Array x_}{t:x_}{k:IntKind}{a b:Int}{K:v_->Prop}
def AmV(h:K (.int k (if b<a then b else a))):A8 P (Builtin.min_ c t [.int k a,.int d b].toArray) S H K:=by refine A8.mk _ (λw _=>?_) h;simp[Builtin.min_,Builtin.min2]
def mS(h:K (.int k (if a<b then b else a))):A8 P (Builtin.max_ c t [.int k a,.int d b].toArray) S H K:=by refine A8.mk _ (λw _=>?_) h;simp[Builtin.max_,Builtin.max2]
end
def AkJ(n:Nat):IntKind.wrap .u64 (n:Int)=((n % 18446744073709551616:Nat):Int):=by unfold IntKind.wrap;simp only[IntKind.bits,IntKind.signed,vX,uE,if_false,Ar5,Int.reducePow];omega
def LY{x y:Nat}(h:x+y<18446744073709551616):IntKind.wrap .u64 ((x:Int)+(y:Int))=((x+y:Nat):Int):=by rw[<-Int.natCast_add,AkJ,vY h]
def AkI(h:n<9223372036854775808):IntKind.wrap .i64 (n:Int)=(n:Int):=vU zO zO
def GL{a x y:Nat}(b:a<256)(d:c<256):(a+256*x) &&& (c+256*y)=(a &&& c)+256*(x &&& y):=by
 have e:((a+256*x) &&& (c+256*y)) % 2^8=(a &&& c):=by rw[Nat.and_mod_two_pow,show(a+256*x) % 2^8=a by omega,show(c+256*y) % 2^8=c by omega]
 have f:((a+256*x) &&& (c+256*y)) / 2^8=(x &&& y):=by rw[Nat.and_div_two_pow,show(a+256*x) / 2^8=x by omega,show(c+256*y) / 2^8=y by omega]
 omega
def uY(c:Nat):Nat->Nat | 0=>0 | m+1=>c+256*uY c m
def Ro(c m:Nat):uY c (m+1)=c+256*uY c m:=rfl
def vS(m w:Nat):Nat:=((w / 2) &&& uY 85 m)+(w &&& uY 85 m)
def vT(m w:Nat):Nat:=((w / 4) &&& uY 51 m)+(w &&& uY 51 m)
def tM(m w:Nat):Nat:=(w / 16+w) &&& uY 15 m
def qN(a:Nat):Nat:=((ApW 8).filter λj=>a.testBit j).length
def Ig(m w:Nat):Nat:=((ApW m).filter λj=>w.testBit j).length
def g1(a:Nat):Nat:=((a / 2) &&& 85)+(a &&& 85)
def g2(a:Nat):Nat:=((a / 4) &&& 51)+(a &&& 51)
def gU:∀a,a<256->g1 a<256:=by decide+kernel
def Al5:∀a,a<256->∀r,r<2->((a / 2+128*r) &&& 85)=((a / 2) &&& 85):=by decide+kernel
def Al6:∀a,a<256->∀r,r<4->((a / 4+64*r) &&& 51)=((a / 4) &&& 51):=by decide+kernel
def gV:∀a,a<256->g2 a<256/\(g2 (g1 a)) % 16<=4/\g2 (g1 a) / 16<=4:=by decide+kernel
def Al7:∀a,a<256->∀r,r<5->((g2 (g1 a) / 16+16*r+g2 (g1 a)) &&& 15)=qN a:=by decide+kernel
def IA:∀a,a<256->qN a<=8:=by decide+kernel
def Qj{a:Nat}(c:a<256):vS (m+1) (a+256*b)=g1 a+256*vS m b:=by unfold vS;rw[Ro];have e:(a+256*b) / 2=(a / 2+128*(b % 2))+256*(b / 2):=zO;rw[e,GL zO zQ,GL c zQ,Al5 a c _ zO];unfold g1;omega
def Qk{a:Nat}(c:a<256):vT (m+1) (a+256*b)=g2 a+256*vT m b:=by unfold vT;rw[Ro];have e:(a+256*b) / 4=(a / 4+64*(b % 4))+256*(b / 4):=zO;rw[e,GL zO zQ,GL c zQ,Al6 a c _ zO];unfold g2;omega
def AjW(m b:Nat)(a:b<256^m):vT m (vS m b) % 16<=4:=by cases m with|zero=>obtain rfl:b=0:=by{simp at a;omega};decide|succ m=>have e:b=b % 256+256*(b / 256):=zO;rw[e,Qj zO,Qk (gU _ zO)];have:=(gV (b % 256) zO).2.1;omega
def bH{a:Nat}(c:a<256)(d:b<256^m):tM (m+1) (vT (m+1) (vS (m+1) (a+256*b)))=qN a+256*tM m (vT m (vS m b)):=by rw[Qj c,Qk (gU a c)];have f:=AjW m b d;have g:=gV a c;generalize vT m (vS m b)=x at*;unfold tM;rw[Ro];have e:(g2 (g1 a)+256*x) / 16+(g2 (g1 a)+256*x)=(g2 (g1 a) / 16+16*(x % 16)+g2 (g1 a))+256*(x / 16+x):=zO;rw[e,GL zO zQ,Al7 a c _ zO]
def Vi(m w:Nat):Ig (8+m) w=qN (w % 256)+Ig m (w / 256):=by unfold Ig qN;rw[eU,uH,M_,eR,d_];congr 1;{congr 1;refine nR λj a=>?_;rw[xO]at a;rw[show(256:Nat)=2^8 from rfl,Nat.testBit_mod_two_pow];simp[a]};congr 1;refine nR λj _=>?_;simp only[Function.comp];rw[show(256:Nat)=2^8 from rfl,Nat.testBit_div_two_pow,Nat.add_comm]
def p8(w i:Nat):Nat:=qN (w / 256^i % 256)
def AjV(w:Nat)(d:w<18446744073709551616):tM 8 (vT 8 (vS 8 w))=p8 w 0+256*(p8 w 1+256*(p8 w 2+256*(p8 w 3+256*(p8 w 4+256*(p8 w 5+256*(p8 w 6+256*p8 w 7))))))/\ Ig 64 w=p8 w 0+(p8 w 1+(p8 w 2+(p8 w 3+(p8 w 4+(p8 w 5+(p8 w 6+p8 w 7)))))):=by
 have a:∀(m w i:Nat),w / 256^i<256^(m+1)->tM (m+1) (vT (m+1) (vS (m+1) (w / 256^i)))=p8 w i+256*tM m (vT m (vS m (w / 256^(i+1)))):=by{intro m w i h;have e:w / 256^i=w / 256^i % 256+256*(w / 256^(i+1)):=by{rw[pG,<-kJ];omega};have g:w / 256^(i+1)<256^m:=by{rw[pG,<-kJ,kK zQ];rw[pG]at h;exact h};(conv=>lhs;rw[e]);rw[bH zO g];rfl};have b:∀(m i:Nat),Ig (8+m) (w / 256^i)=p8 w i+Ig m (w / 256^(i+1)):=by{intro m i;rw[Vi,pG,<-kJ];rfl};have f:w=w / 256^0:=zZ;have j:tM 0 (vT 0 (vS 0 (w / 256^8)))=0:=by{rw[Nat.div_eq_of_lt (by simpa using d)];decide};have c:∀i,i<=8->w / 256^i<256^(8-i):=by{intro i k;rw[kK (Nat.pow_pos zQ),<-Nat.pow_add,(zO:8-i+i=8)];simpa using d};constructor;{(conv=>lhs;rw[f]);rw[a 7 w 0 (c 0 zO),a 6 w 1 (c 1 zO),a 5 w 2 (c 2 zO),a 4 w 3 (c 3 zO),a 3 w 4 (c 4 zO),a 2 w 5 (c 5 zO),a 1 w 6 (c 6 zO),a 0 w 7 (c 7 zO),j];omega};conv=>lhs;rw[f]
 rw[show(64:Nat)=8+56 from rfl,b 56 0,show(56:Nat)=8+48 from rfl,b 48 1,show(48:Nat)=8+40 from rfl,b 40 2,show(40:Nat)=8+32 from rfl,b 32 3,show(32:Nat)=8+24 from rfl,b 24 4,show(24:Nat)=8+16 from rfl,b 16 5,show(16:Nat)=8+8 from rfl,b 8 6,show(8:Nat)=8+0 from rfl,b 0 7];rfl
def Aj4(w:Nat)(D:w<18446744073709551616)(H:Aa):AT prog 64 #[.int .u64 (w:Int)] H (.int .i64 (Ig 64 w:Int)):=by
 have⟨hs,K⟩:=AjV w D;have L:=IA (w / 256^0 % 256) zO;have M:=IA (w / 256^1 % 256) zO;have N:=IA (w / 256^2 % 256) zO;have O:=IA (w / 256^3 % 256) zO;have P:=IA (w / 256^4 % 256) zO;have Q:=IA (w / 256^5 % 256) zO;have R:=IA (w / 256^6 % 256) zO;have S:=IA (w / 256^7 % 256) zO;change p8 w 0<=8 at L;change p8 w 1<=8 at M;change p8 w 2<=8 at N;change p8 w 3<=8 at O;change p8 w 4<=8 at P;change p8 w 5<=8 at Q;change p8 w 6<=8 at R;change p8 w 7<=8 at S;have T:uY 85 8=6148914691236517205:=zQ;have U:uY 51 8=3689348814741910323:=zQ;have V:uY 15 8=1085102592571150095:=zQ;have E:zC .u64 ((6148914691236517205:Nat):Int):=JF zQ;have F:zC .u64 ((3689348814741910323:Nat):Int):=JF zQ;have W:zC .u64 ((1085102592571150095:Nat):Int):=JF zQ;refine Am.of_vc func64 rfl (call64 _) ?_;have A:((w / 2^1) &&& 6148914691236517205)+(w &&& 6148914691236517205)<18446744073709551616:=by{have:=rX (n:=w / 2^1) (m:=6148914691236517205);have:=rX (n:=w) (m:=6148914691236517205);omega};refine Lm (a:=w) (b:=1) zQ (Ik (a:=w / 2^1) (b:=6148914691236517205) (JF zO) E (Ik (a:=w) (b:=6148914691236517205) (JF D) E ?_));(conv=>whnf);rw[LY A];have X:((w / 2^1) &&& 6148914691236517205)+(w &&& 6148914691236517205)=vS 8 w:=by unfold vS;rw[T]
 rw[X]at A ⊢;generalize vS 8 w=c at*;have G:((c / 2^2) &&& 3689348814741910323)+(c &&& 3689348814741910323)<18446744073709551616:=by{have:=rX (n:=c / 2^2) (m:=3689348814741910323);have:=rX (n:=c) (m:=3689348814741910323);omega};refine Lm (a:=c) (b:=2) zQ (Ik (a:=c / 2^2) (b:=3689348814741910323) (JF zO) F (Ik (a:=c) (b:=3689348814741910323) (JF A) F ?_));(conv=>whnf);rw[LY G];have e2:((c / 2^2) &&& 3689348814741910323)+(c &&& 3689348814741910323)=vT 8 c:=by unfold vT;rw[U]
 have B:((c / 2^2) &&& 3689348814741910323)+(c &&& 3689348814741910323)<=7378697629483820646:=by{have:=rX (n:=c / 2^2) (m:=3689348814741910323);have:=rX (n:=c) (m:=3689348814741910323);omega};rw[e2]at G B ⊢;generalize vT 8 c=e at*;refine Lm (a:=e) (b:=4) zQ ?_;(conv=>whnf);rw[LY (x:=e / 2^4) (y:=e) zO];refine Ik (a:=e / 2^4+e) (b:=1085102592571150095) (JF zO) W ?_;have Y:((e / 2^4+e) &&& 1085102592571150095)=tM 8 e:=by unfold tM;rw[V]
 rw[Y];generalize tM 8 e=d at*;generalize p8 w 0=q0 at*;generalize p8 w 1=Z at*;generalize p8 w 2=I at*;generalize p8 w 3=C at*;generalize p8 w 4=r at*;generalize p8 w 5=l at*;generalize p8 w 6=h at*;generalize p8 w 7=f at*;have lx:d<1152921504606846976:=zO;refine Lm (a:=d) (b:=8) zQ ?_;(conv=>whnf);rw[LY (x:=d) (y:=d / 2^8) zO];refine Lm (a:=d+d / 2^8) (b:=16) zQ ?_;(conv=>whnf);rw[LY (x:=d+d / 2^8) (y:=(d+d / 2^8) / 2^16) zO];obtain⟨y,g⟩:∃y,y=d+d / 2^8:=⟨_,rfl⟩;rw[<-g];obtain⟨z,j⟩:∃z,z=y+y / 2^16:=⟨_,rfl⟩;rw[<-j];refine Lm (a:=z) (b:=32) zQ ?_;(conv=>whnf);rw[LY (x:=z) (y:=z / 2^32) zO];obtain⟨u,p⟩:∃u,u=z+z / 2^32:=⟨_,rfl⟩;rw[<-p];(conv=>whnf);rw[AkI (n:=u) zO];refine Ik (a:=u) (b:=127) (CF zO) (CF zQ) ?_;(conv=>whnf);have q:(u &&& 127)=Ig 64 w:=by{rw[show(127:Nat)=2^7-1 by decide,Nat.and_two_pow_sub_one_eq_mod,K];have k:d / 2^8=Z+256*(I+256*(C+256*(r+256*(l+256*(h+256*f))))):=zO;have t:y / 2^16=(I+C)+256*((C+r)+256*((r+l)+256*((l+h)+256*((h+f)+256*f)))):=by{rw[g,k,hs];clear p j g k hs;omega};have J:z / 2^32=(r+l+h+f)+256*((l+h+f)+256*((h+f)+256*f)):=by{rw[j,t,g,k,hs];clear p j g k t hs;omega};rw[p,J,j,t,g,k,hs];clear p j g k t J hs;omega};rw[q];exact⟨rfl,A_.refl _ _⟩
def BB(s:BitVec 256):Nat:=((ApW 256).filter λb=>s.getLsbD b).length
def Sv(s:BitVec 256):BB s=Ig 64 (wd s 0)+(Ig 64 (wd s 1)+(Ig 64 (wd s 2)+Ig 64 (wd s 3))):=by have one:∀i m,((ApW (64+m)).filter λj=>s.getLsbD (64*i+j)).length=Ig 64 (wd s i)+((ApW m).filter λj=>s.getLsbD (64*(i+1)+j)).length:=by{intro i m;rw[eU,uH,M_,eR,d_];congr 1;{unfold Ig;congr 1;refine nR λj a=>?_;rw[xO]at a;rw[E7 s i j a]};congr 1;refine nR λj _=>?_;simp only[Function.comp];rw[(zO:64*i+(64+j)=64*(i+1)+j)]};have b:BB s=((ApW (64+192)).filter λj=>s.getLsbD (64*0+j)).length:=by{unfold BB;simp only[Nat.mul_zero,N_,Nat.reduceAdd]};rw[b,one 0 192,show(192:Nat)=64+128 from rfl,one 1 128,show(128:Nat)=64+64 from rfl,one 2 64,show(64:Nat)=64+0 from rfl,one 3 0];first | done | rfl
def WF(m w:Nat):Ig m w<=m:=by unfold Ig;exact V' (r' _ _) zZ
def JV(s:BitVec 256):Nat->Nat | 0=>0 | i+1=>JV s i+Ig 64 (wd s i)
def Pu(s:BitVec 256):∀i,JV s i<=64*i | 0=>I_ _ | i+1=>by have:=Pu s i;have:=WF 64 (wd s i);simp only[JV];omega
def Ad9(s:BitVec 256)(H:Aa):AT prog 31 #[AX s] H (.int .i64 (BB s:Int)):=by refine Am.of_vc func31 rfl (call31 _) (BF (Ag s) rfl ?_);intro pb H1 c m d e;have f:=e.new c;refine K_ (cs:=Ag s) (d.cells λj v n=>by rw[N_];exact n) zA ?_;(conv=>whnf);refine AD.mk [3,7] (λi:Nat=>[B_ (JV s i:Int),B_ i]) (λi H2=>i<=4/\A_ (F_ H) H H2) (λi _=>4-i) ?_ ?_;{(conv=>whnf);exact⟨0,rfl,zO,f⟩};rintro i H2 l ⟨t,a⟩;refine Av.m2 (λh=>?_) (λh=>?_);{have b:(Ag s)[i]?=zY (.int .u64 (wd s i)):=by{have:i=0\/i=1\/i=2\/i=3:=zO;rcases this with rfl | rfl | rfl | rfl<;>rfl};have p:=Pu s i;have q:=WF 64 (wd s i);refine oD (v:=.int .u64 (wd s i)) De zO zO (by rw[zG,yW];simpa using b) ?_;refine Af (Aj4 (wd s i) (IU s i) H2) λH3 g=>?_;(conv=>whnf);rw[m_ (x:=(JV s i:Int)+(Ig 64 (wd s i):Int)) zO];(conv=>whnf);rw[S_ i zO];exact⟨rfl,i+1,by simp[JV],⟨zO,a.trans (g.mono λk r=>Ak a r)⟩,zO⟩};obtain rfl:i=4:=zO;(conv=>whnf);refine⟨?_,a⟩;rw[Sv];simp only[JV];congr 2;omega
def AI(s:BitVec 256)(n:Nat):Nat×Bool:=match(ApW 256).find? λb=>zT (n<=b)&&s.getLsbD b with
 | some b=>(b,zW)
 | none=>(0,zU)
def Ch(s:BitVec 256)(n:Nat):(AI s n).1<256:=by unfold AI;split;{rename_i b h;have:=dG h;simpa using this};decide
def Kk(s:BitVec 256)(n:Nat)(w:n<=256)(H:Aa):AT prog 32 #[AX s,B_ n] H (.tuple #[.int .u8 ((AI s n).1:Int),.bool (AI s n).2]):=by refine Am.of_vc func32 rfl (call32 _) (Ec (St.nil H) (Ag s) rfl λpb H1 st1=>(mS ?_));rw[G_ zO];(conv=>whnf);refine AD.mk [4,5,6] (λk:Nat=>[.int .u8 0,.bool zU,B_ k]) (λk H2=>n<=k/\k<=256/\(∀j,n<=j->j<k->s.getLsbD j=zU)/\St H H2 [pB 65 pb (Ag s)]) (λk _=>256-k) ?_ ?_;{(conv=>whnf);exact⟨n,rfl,I_ _,w,λj r y=>zO,st1⟩};rintro k H2 t ⟨f,A,c,g⟩;refine Av.m2 (λh=>?_) (λh=>?_);{have d:k<256:=zO;refine K_ (cs:=Ag s) ((g.blk 0 rfl).cells λj v z=>by rw[N_];exact z) zA ?_;(conv=>whnf);rw[w8 (x:=(k:Int)) zO zO];refine Af (P6 s k d H2) λH3 l=>?_;have e:=g.call l;cases u:s.getLsbD k with|true=>{(conv=>whnf);rw[w8 (x:=(k:Int)) zO zO];(conv=>whnf);have m:((ApW 256).find? λb=>zT (n<=b)&&s.getLsbD b)=zY k:=by{rw[List.find?_range_eq_some];refine⟨by simp[f,u],by simpa using d,λj p=>?_⟩;by_cases a:n<=j;{simp[c j a p]};simp[a]};refine⟨?_,e.old⟩;unfold AI;rw[m];first | done | rfl}|false=>(conv=>whnf);rw[S_ k zO];refine⟨rfl,k+1,zZ,⟨zO,zO,λj r y=>?_,e⟩,zO⟩;by_cases q:j=k;{subst q;exact u};exact c j r zO};obtain rfl:k=256:=zO;(conv=>whnf);have m:((ApW 256).find? λb=>zT (n<=b)&&s.getLsbD b)=zV:=by{rw[List.find?_range_eq_none];intro j p;by_cases a:n<=j;{simp[c j a (by simpa using p)]};simp[a]};refine⟨?_,g.old⟩;unfold AI;rw[m];first | done | rfl
def D1(all:BitVec 256):List (BitVec 256)->Option (BitVec 256)| []=>zY all | c::cs=>if all &&& c=0#256 then D1 (all ||| c) cs else zV
def JE(all:BitVec 256)(cs ds:List (BitVec 256)):D1 all (cs++ds)=(D1 all cs).bind λx=>D1 x ds:=by induction cs generalizing all with|nil=>rfl|cons c cs a=>simp only[qZ,D1];split;{exact a _};rfl
def Mf{all:BitVec 256}{c:BitVec 256}(h:D1 all cs=zY x):D1 all (cs++[c])=if x &&& c=0#256 then zY (x ||| c)else zV:=by rw[JE,h];rfl
def GZ(n m:Nat)(row:List Int):Bool:=row.length==m&&row.all λq=>zT (0<=q)&&zT (q<(n:Int))
def Bt(cells:List (BitVec 256))(next:List (List Int))(fl:Nat):Bool:=match D1 0#256 cells with
 | none=>zU
 | some all=>all==ApZ 256&&zT (1<=next.length)&&zT (next.length<=65536)&&next.length==fl&&next.all (GZ next.length cells.length)
def Aj{α:Type}{l:List α}{x:α}(h:l[k]?=zY x):l.take (k+1)=l.take k++[x]:=by rw[List.take_add_one,h];rfl
def Ai{α:Type}{l:List α}(h:k<l.length):∃x,l[k]?=zY x:=⟨l[k],zH h⟩
def Ey(next:List (List Int))(c d:Nat):Bool:=c==d|| next.all λrow=>row[c]?==row[d]?
def AW(cells:List (BitVec 256))(b:Nat):Nat:=cells.findIdx λc=>c.getLsbD b
structure MS where
 cols:List Nat
 sets:List (BitVec 256)
 cell:List Nat
def KM(next:List (List Int))(cols:List Nat)(f:Nat):Option Nat:=cols.findIdx? λc=>Ey next c f
def GA(next:List (List Int))(cols:List Nat)(sets:List (BitVec 256))(f:Nat):List Nat×List (BitVec 256)×Nat:=match KM next cols f with
 | some i=>(cols,sets,i)
 | none=>(cols++[f],sets++[0#256],cols.length)
def Oa(next:List (List Int))(cells:List (BitVec 256))(st:MS)(b:Nat)(s:BitVec 256):MS:=let r:=GA next st.cols st.sets (AW cells b)
 ⟨r.1,r.2.1.set r.2.2 (r.2.1.getD r.2.2 0#256 ||| s),st.cell++[r.2.2]⟩
def Bh(next:List (List Int))(cells:List (BitVec 256))(sp:Nat->BitVec 256):Nat->MS | 0=>⟨[],[],[]⟩ | b+1=>Oa next cells (Bh next cells sp b) b (sp b)
def Iv{all:BitVec 256}(h:D1 all cs=zY x)(b:Nat):x.getLsbD b=(all.getLsbD b|| cs.any λc=>c.getLsbD b):=by induction cs generalizing all with|nil=>simp only[D1,AqF.injEq]at h;subst h;simp|cons c cs a=>simp only[D1]at h;split at h;{rw[a h,BitVec.getLsbD_or,List.any_cons,Bool.or_assoc]};cases h
section
variable{cells:List (BitVec 256)}
def BI{next:List (List Int)}{g:Nat}(h:Bt cells next g=zW)(j:b<256):AW cells b<cells.length/\∀c,cells[AW cells b]?=zY c->c.getLsbD b=zW:=by unfold Bt at h;split at h;{cases h};rename_i all a;simp only[o_,beq_iff_eq]at h;have d:=Iv a b;rw[h.1.1.1.1,rD]at d;simp only[j,decide_true,BitVec.getLsbD_zero,eI]at d;have e:AW cells b<cells.length:=List.findIdx_lt_length.2 (by simpa using(List.any_eq_true.1 d.symm));refine⟨e,λc f=>?_⟩;have:=List.findIdx_getElem (w:=e);rw[zH e]at f;cases f;exact this
def Pb{c:BitVec 256}(e:k<AW cells b)(a:cells[k]?=zY c):c.getLsbD b=zU:=by have:=List.not_of_lt_findIdx e;have d:=(P_.1 a).1;rw[zH d]at a;cases a;simpa using this
def DU{next:List (List Int)}{a:Nat}(h:Bt cells next a=zW):1<=next.length/\next.length<=65536/\next.length=a/\∀row∈next,row.length=cells.length/\∀q∈row,0<=q/\q<(next.length:Int):=by unfold Bt at h;split at h;{cases h};simp only[o_,beq_iff_eq,yL,xJ,GZ]at h;exact⟨h.1.1.1.2,h.1.1.2,h.1.2,λrow b=>⟨(h.2 row b).1,λq c=>(h.2 row b).2 q c⟩⟩
end
structure MOk(m b:Nat)(st:MS):Prop where
 len:st.cols.length=st.sets.length
 le:st.cols.length<=b
 cell:st.cell.length=b
 cols:∀c∈st.cols,c<m
 places:∀p∈st.cell,p<st.cols.length
def Ri{next:List (List Int)}{a:List Nat}{sets:List (BitVec 256)}{f:Nat}(e:a.length=sets.length)(g:a.length<=b)(j:∀c∈a,c<m)(n:f<m):(GA next a sets f).1.length=(GA next a sets f).2.1.length/\(GA next a sets f).1.length<=b+1/\(∀c∈(GA next a sets f).1,c<m)/\(GA next a sets f).2.2<(GA next a sets f).1.length/\a.length<=(GA next a sets f).1.length:=by unfold GA;split;{rename_i i k;have d:i<a.length:=by{have:=List.findIdx?_eq_some_iff_findIdx_eq.1 k;exact this.1};exact⟨e,Nat.le_succ_of_le g,j,d,I_ _⟩};refine⟨by simp[e],by simpa using g,?_,zZ,zZ⟩;intro c l;rcases n_.1 l with h | h;{exact j c h};rw[Q_]at h;omega
def Ff{next:List (List Int)}{cells:List (BitVec 256)}{sp:Nat->BitVec 256}(e:∀b,b<256->AW cells b<cells.length):∀b,b<=256->MOk cells.length b (Bh next cells sp b)
 | 0,_=>⟨rfl,I_ _,rfl,(λc h=>by cases h),(λp h=>by cases h)⟩
 | b+1,hb=>by
   have a:=Ff (next:=next) (sp:=sp) e b zO;have h:=Ri (next:=next) a.len a.le a.cols (e b zO);unfold Bh Oa;refine⟨?_,h.2.1,?_,h.2.2.1,?_⟩
   ·simp only[wM];exact h.1
   ·simp[a.cell]
   ·intro p d;simp only[n_,Q_]at d;rcases d with d | rfl
    ·exact yQ (a.places p d) h.2.2.2.2
    ·exact h.2.2.2.1
def lG{len e sz:Nat}{k:IntKind}{i:Int}{cs:Array v_}{K:v_->Prop}(a:Qs P t len e sz) [hc:AggT P e sz](h0:0<=i)(d:i<len)(f:K (.agg (cs.extract (i.toNat*sz) (i.toNat*sz+sz)))):A8 P (Instr.index t (.agg cs) (.int k i)) S H K:=by refine A8.mk _ (λw _=>?_) f;cases b:P.info? e with|none=>have:=a.size;simp[b]at this|some c=>have hs:c.size=sz:=by{have:=a.size;simpa [b]using this};simp[Instr.index,asIntOf,run_underlying a.under,h0,d,sizeOf,typeInfo,b,hs,PY]
def aA{x:Nat}(h:x<18446744073709551616):18446744073709551615 ^^^ x=18446744073709551615-x:=by
 have a:(BitVec.ofNat 64 x ^^^ ApZ 64).toNat=(~~~(BitVec.ofNat 64 x)).toNat:=by rw[BitVec.xor_allOnes]
 rw[eG,eH,qY,BitVec.toNat_allOnes,vY (by simpa using h),Nat.xor_comm]at a;simpa using a
def Xd{x:Nat}{K:v_->Prop}(b:x<18446744073709551616)(k:K (.int .u64 ((18446744073709551615-x:Nat):Int))):A8 P (Op.unary .xor (.int .u64 (x:Int))) S H K:=by refine A8.mk _ (λw _=>?_) k;have c:IntKind.u64.max=18446744073709551615:=rfl;have d:IntKind.u64.signed=zU:=rfl;have e:(AqX IntKind.u64.bits (18446744073709551615:Int) ^^^ AqX IntKind.u64.bits (x:Int)).toNat=18446744073709551615-x:=by{show(AqX 64 ((18446744073709551615:Nat):Int) ^^^ AqX 64 (x:Int)).toNat=_;rw[nL,nL,eG,qY,qY,vY (a:=x) b];exact aA b};have e2:IntKind.wrap .u64 ((18446744073709551615-x:Nat):Int)=((18446744073709551615-x:Nat):Int):=Jw ⟨by show(0:Int)<=_;omega,by rw[c];omega⟩;show(pure (Value.int .u64 (IntKind.wrap .u64 ((AqX IntKind.u64.bits (if IntKind.u64.signed=zW then(-1:Int)else IntKind.u64.max) ^^^ AqX IntKind.u64.bits (x:Int)).toNat:Int))):Sem v_).run P w=_;rw[d,c];simp only[uE,if_false];rw[e,e2];rfl
def RR(a:BitVec 256)(i:Nat)(b:i<4):wd (~~~a) i=18446744073709551615-wd a i:=by have c:=a.isLt;unfold wd;rw[eH];match i,b with|0,_=>simp only[ArU,Ar5]at*;omega|1,_=>simp only[ArU,Ar5]at*;omega|2,_=>simp only[ArU,Ar5]at*;omega|3,_=>simp only[ArU,Ar5]at*;omega
def SZ(a:BitVec 256)(H:Aa):AT prog 34 #[AX a] H (AX (~~~a)):=by have d:∀i,wd a i<18446744073709551616:=λi=>IU a i;refine Am.of_vc func34 rfl (call34 _) (BF (Ag a) rfl ?_);intro p H1 t l b e;refine Aq (AX 0) (Ag 0) rfl rfl ?_;intro r H3 u m f c;replace b:=b.agr c (zO:p<r);refine yX De zQ zQ (C_ ((b.cell _).trans rfl) zA (Xd (d _) (yX De zQ zQ (C_ ((b.cell _).trans rfl) zA (Xd (d _) (yX De zQ zQ (C_ ((b.cell _).trans rfl) zA (Xd (d _) (yX De zQ zQ (C_ ((b.cell _).trans rfl) zA (Xd (d _) ?_)))))))))));rw[<-RR a 0 zQ,<-RR a 1 zQ,<-RR a 2 zQ,<-RR a 3 zQ];refine Em De (AX 0) rfl (Ag (~~~a)) rfl (wG rfl f (zQ:0+4<=4) rfl ?_);intro H4 g h n;refine lN (cs:=Ag (~~~a)) (g.cells (λj v q=>by simpa [As,Ag]using q)) ?_;exact⟨rfl,λk w=>by rw[h k zO,c k zO,e k zO]⟩
def W0(a b:BitVec 256)(H:Aa):AT prog 159 #[AX a,AX b] H (AX (a &&& ~~~b)):=by refine Am.of_vc func159 rfl (call159 _) (Ec (St.nil H) (Ag a) rfl λp H1 st1=>(Ec st1 (Ag b) rfl λq H2 m=>(BO m (AX 0) (Ag 0) rfl rfl λr H3 c=>(Ap.held (F_ H3) 4 (sq [0,1] (.f 2 (.f 3 (.f 4 .e)))) rfl zX ?_))));refine K_ (cs:=Ag a) ((c.blk 0 rfl).cells λj v g=>by rw[N_];exact g) (c.blk 0 rfl).lt ?_;refine K_ (cs:=Ag b) ((c.blk 1 rfl).cells λj v g=>by rw[N_];exact g) (c.blk 1 rfl).lt ?_;refine Af (SZ b H3) λH4 d=>?_;have n:=c.call d;refine⟨d,?_⟩;refine Af (UY a (~~~b) H4) λH5 h=>?_;have t:=n.call h;refine⟨d.trans (h.mono λk u=>Ak d u),?_⟩;refine AB (cs:=Ag (a &&& ~~~b)) t 2 rfl rfl (zQ:0+4<=4) rfl λH6 l=>(K_ (cs:=Ag (a &&& ~~~b)) ((l.blk 2 rfl).cells (λj v g=>by simpa [As,Ag]using g)) zA ?_);exact⟨rfl,l.old⟩
def bA(w:List Nat):ByteArray:=⟨(w.map UInt8.ofNat).toArray⟩
def zI(s:ByteArray):List Nat:=s.data.toList.map UInt8.toNat
def MR(s:ByteArray):(zI s).length=s.size:=by unfold zI;rw[d_];exact sH
def QD{s:ByteArray}{i:Nat}{b:UInt8}(h:s.data[i]?=zY b):(zI s)[i]?=zY b.toNat:=by unfold zI;rw[I',eF,h];rfl
def lD{s:ByteArray}(h:k<s.size):∃b,s.data[k]?=zY b:=⟨s.data[k]'h,tE h⟩
def AA{l c:List v_}(h:c.length=l.length):As l 0 c=c:=by unfold As;rw[nT,nS,N_,h,List.drop_length,xZ]
def ofB(x:BitVec 256)(l:List Nat):BitVec 256:=l.foldl (λx b=>x ||| At0 256 b) x
def oG(s:ByteArray)(hs:s.size<=1048576)(H:Aa):AT prog 91 #[.string s] H (AX (ofB 0#256 (zI s))):=by refine Am.of_vc func91 rfl (call91 _) (BO (St.nil H) (AX 0) (Ag 0) rfl rfl λr H1 st1=>(BO st1 (AX 0) (Ag 0) rfl rfl λp H2 t=>?_));(conv=>whnf);refine AD.mk [7] (λi:Nat=>[B_ i]) (λi H3=>i<=s.size/\St H H3 [pB 65 r (Ag 0),pB 65 p (Ag (ofB 0#256 ((zI s).take i)))]) (λi _=>s.size-i) ?_ ?_;{(conv=>whnf);exact⟨0,rfl,V_ _,t⟩};rintro i H3 A ⟨D,d⟩;refine Av.m2 (λh=>?_) (λh=>?_);{have⟨c,u⟩:=lD (s:=s) (k:=i) zO;obtain⟨b,q⟩:∃b,b=c.toNat:=⟨_,rfl⟩;have l:b<256:=by{rw[q];exact UInt8.toNat_lt c};obtain⟨x,B⟩:∃x,x=ofB 0#256 ((zI s).take i):=⟨_,rfl⟩;have m:ofB 0#256 ((zI s).take (i+1))=x ||| At0 256 b:=by{rw[Aj (QD u),B,q];unfold ofB;rw[wE];rfl};rw[<-B]at d;have w:=d.blk 1 rfl;have y:=(d.in_ 1 rfl rfl).2;refine Ap.heldZ (F_ H3) [13] (sq [0,1,2,3,4,5,6,7,8,9,10,11,12] (.f 13 .e)) rfl zX (En underlying9 rfl u ?_);rw[<-q];refine Lm (b:=6) zQ (yX De zO zO ?_);refine C_ (v:=.int .u64 (wd x (b / 64))) (by rw[w.cell,N_,yW];exact TB x b zO) y ?_;refine En underlying9 rfl u ?_;rw[<-q];refine Ik (b:=63) (I1 l) (I1 zQ) ?_;have C:2^(b % 64)<2^64:=Nat.pow_lt_pow_right zQ zO;rw[gI];have n:zC .u64 ((1*2^(b % 64):Nat):Int):=JF zO;refine lP (a:=1) (by simp[IntKind.bits];omega) n ?_;refine rP (DX x _) n (yX De zO zO ?_);refine Bc d 1 rfl (by simp[Ag];omega) rfl λH4 g=>?_;(conv=>whnf);rw[S_ i zO];refine⟨rfl,i+1,zZ,⟨zO,?_⟩,zO⟩;rw[m,<-TC x b zO];rw[N_,yW,Nat.one_mul]at g;exact g};obtain rfl:i=s.size:=zO;rw[tU (by rw[MR];exact I_ _)]at d;generalize ofB 0#256 (zI s)=x at*;refine K_ (cs:=Ag x) ((d.blk 1 rfl).cells λj v z=>by rw[N_];exact z) zA ?_;refine AB (cs:=Ag x) d 0 rfl rfl (I_ _) rfl λH4 g=>?_;rw[AA (show(Ag x).length=(Ag 0).length from rfl)]at g;refine K_ (cs:=Ag x) ((g.blk 0 rfl).cells λj v z=>by rw[N_];exact z) zA ?_;exact⟨rfl,g.old⟩
def Uo(x:BitVec 256)(k:Nat):List v_:=(ApW 256).map λb=>.bool (zT (b<k)&&x.getLsbD b)
def AkX(x:BitVec 256):List v_:=Uo x 256
def Up(x:BitVec 256)(k:Nat):(Uo x k).length=256:=by simp[Uo]
def tB:Ty (BitVec 256) where
 size:=256
 rep _ _ cs s:=cs=AkX s
 len h:=by rw[h];exact Up _ _
 frame h _:=h
 mono h _:=h
def D_.apart2{p:Pc}(e:D_ B H0 H ps){i:Nat}{q:Pc}(f:ps[i]?=zY p)(g:ps[j]?=zY q)(d:i≠j):Dis p q:=by have a:=(P_.1 f).1;have b:=(P_.1 g).1;have l:=(P_.1 f).2;have e2:=(P_.1 g).2;intro k m c;rcases Nat.lt_or_gt_of_ne d with h | h;{exact xT.1 e.dis i j a b h k (by rw[l];exact m) (by rw[e2];exact c)};exact xT.1 e.dis j i b a h k (by rw[e2];exact c) (by rw[l];exact m)
abbrev Pa{α:Type}(_:α):Prop:=True
def Fv.ofE{d:TypeDesc}{α:Type}{enc:α->v_}(hd:P.underlying kt=zY d)(c:Qw d enc):Fv P kt Pa enc where
 inj:=c.inj
 check w em a _:=Go.MapKept.run_checkKey hd (c.isKey a) em 9999
 find w a _ es hes:=by
  have f:∀x∈es,Go.MapKept.IsKey d x.key:=λx k=>by
   obtain⟨b,-,e⟩:=hes x k;rw[e];exact c.isKey b
  rcases Go.MapKept.findNow_spec (c.isKey a) es 0 f with⟨g,h⟩ | ⟨j,e,g,h,l⟩
  ·exact .inl ⟨Go.MapKept.run_findKey hd g,h⟩
  ·exact .inr ⟨j,e,by rw[N_]at g;exact Go.MapKept.run_findKey hd g,h,l⟩
 stays w a _:=Go.MapKept.run_keyThatStays (c.isKey a)
def zN(e:U'):List v_:=[B_ e.fr,B_ e.to,.bool e.sil,.int .u64 (wd e.set 0),.int .u64 (wd e.set 1),.int .u64 (wd e.set 2),.int .u64 (wd e.set 3)]
def Wd(e:U'):∀(j:Nat) (v:v_),(Ag e.set)[j]?=zY v->(zN e)[3+j]?=zY v:=by intro j v h;rw[(zO:3+j=j+3)];exact h
def U'.Ok(e:U'):Prop:=zC .i64 e.fr/\zC .i64 e.to
def yB:Ty U' where
 size:=7
 rep _ _ cs e:=cs=zN e/\e.Ok
 len h:=by rw[h.1];rfl
 frame h _:=h
 mono h _:=h
def Jf(e:U'):(zN e).all (·.oneCell')=zW:=rfl
def O_.Rng(a:O_):Prop:=zC .i64 a.st/\zC .i64 a.start/\zC .i64 a.fin
def yG(a:O_)(v:v_):List v_:=[B_ a.st,B_ a.start,B_ a.fin,v]
def sZ(S:Nat->Prop)(H:Aa)(v:v_)(a:O_):Prop:=a.Rng/\a.edges.length<=33554432/\∃ea ec,v= .agg (yG a (.slice ea a.edges.length ec)).toArray/\c_ yB S H ea ec a.edges
def JZ:(prog.info? 277).bind (·.zero)=zY (.agg #[B_ 0,B_ 0,.bool zU,.int .u64 0,.int .u64 0,.int .u64 0,.int .u64 0]):=rfl
def EZ:(prog.info? 225).bind (·.zero)=zY (.agg #[B_ 0,B_ 0,B_ 0,.slice zV 0 0]):=rfl
variable{a:O_}
def Ru{v:v_}{t:x_}(h:sZ S H v a)(k:∀c d,v= .agg (yG a (.slice c a.edges.length d)).toArray->c_ yB S H c d a.edges->New H (λb H'=>K (J_ b) H') t (yG a (.slice c a.edges.length d))):Bu prog (Instr.box t v) H K:=by obtain⟨f,g,c,d,rfl,e⟩:=h;exact BF (yG a (.slice c a.edges.length d)) rfl (k c d rfl e)
def Jl{pb:Nat}{b:Option Addr}{ec:Nat}{K:v_->Prop}{t:x_}(c:a.Rng)(d:a.edges.length<=33554432)(e:L_ H pb t (yG a (.slice b a.edges.length ec))) [hag:AggT prog t 4](f:B pb)(g:c_ yB S H b ec a.edges)(k:∀v,sZ S H v a->K v):A8 prog (Instr.loadAt t (J_ pb)) B H K:=K_ (cs:=yG a (.slice b a.edges.length ec)) (e.cells λj v h=>by rw[N_];exact h) f (k _ ⟨c,d,b,ec,rfl,g⟩)
def Wm{v:v_}(h:sZ S H v a):AT prog 180 #[v,B_ q] H (.bool (a.has q)):=by
 refine Am.of_vc func180 rfl (call180 _) (Ru h λm n k r=>?_);subst k;intro p H1 l e b f;have st1:=(St.nil H).box l e b f;by_cases g:0<=q;{
 have c:zT (0<=q)=zW:=a_ g;(conv=>whnf);rw[c];refine fa ?_;refine lT (b.cellE rfl) ?_;by_cases j:q<a.st;have d:zT (q<a.st)=zW:=a_ j;(conv=>whnf);rw[d];refine fa ?_;refine lT (b.cellE rfl) ?_;rotate_left
 have d:zT (q<a.st)=zU:=b_ j;(conv=>whnf);rw[d];all_goals (conv=>whnf);exact⟨by unfold O_.has;rw[c,d];rfl,st1.old⟩};have c:zT (0<=q)=zU:=b_ g;(conv=>whnf);rw[c];(conv=>whnf);exact⟨by unfold O_.has;rw[c];rfl,st1.old⟩
def TZ(all:List Oper)(o:Oper)(fr:Fr)(yes no:Fr->Prop):Prop:=match o.guard with
 | none=>yes fr
 | some (j,want)=>match(all[j]?).bind (·.dst)with
   | none=>False
   | some t=>yJ fr t λv=>match v with
     | .bool b=>Av b
       (xS fr t (.bool zW) λfr1=>match want with
        | true=>yes fr1
        | false=>no fr1)
       (xS fr t (.bool zU) λfr1=>match want with
        | false=>yes fr1
        | true=>no fr1)
     | .tuple _=>no fr
     | _=>False
def M7{all:List Oper}{o:Oper}{fr:Fr}{a:Act}{d no:Fr->Prop}(e:At fr a)(h:TZ all o fr d no):(Region.wanted o (yielded all.toArray a.tmps)=zW/\d fr)\/(Region.wanted o (yielded all.toArray a.tmps)=zU/\no fr):=by unfold TZ at h;split at h;{rename_i c;exact .inl ⟨by simp[Region.wanted,c],h⟩};rename_i j f c;split at h;{exact h.elim};rename_i t l;rw[Dm]at h;split at h;{rename_i b g;have k:=HR e l g;have hs:fr.set t (.bool b)=fr:=DS g (by simp[undef]);cases b<;>cases f<;>simp only[Av,EX,hs]at h;{exact .inl ⟨by simp[Region.wanted,c,k],h⟩};{exact .inr ⟨by simp[Region.wanted,c,k],h⟩};{exact .inr ⟨by simp[Region.wanted,c,k],h⟩};exact .inl ⟨by simp[Region.wanted,c,k],h⟩};{rename_i vs g;exact .inr ⟨by simp[Region.wanted,c,HS e l g],h⟩};exact h.elim
def TH(o:Oper)(H:Aa)(K:Fr->Aa->Prop)(fr:Fr):Prop:=Cf o.dst fr undef λfr'=>wT K fr' H
def Vp(P:w_)(S:Nat->Prop)(o:Oper)(H:Aa)(K:Fr->Aa->Prop)(fr:Fr):Prop:=match HV o&&DC P o with
 | true=>J7 P S o fr H λv=>Cf o.dst fr v λfr'=>wT K fr' H
 | false=>False
def cA(P:w_)(S:Nat->Prop)(z:Bool)(H0:Aa)(o:Oper)(H:Aa)(K:Fr->Aa->Prop)(fr:Fr):Prop:=match z with
 | true=>wH P zU (λ_=>True) o fr H λv H'=>Cf o.dst fr v λfr'=>wT K fr' H'
 | false=>wH P zU (λ_=>True) o fr H λv H'=>A_ S H0 H'/\Cf o.dst fr v λfr'=>wT K fr' H'
def M3(P:w_)(S:Nat->Prop)(Z:List Nat)(H0:Aa)(all:List Oper)(i:Nat)(fr:Fr)(H:Aa)(next:Fr->Aa->Prop):Prop:=match all[i]? with
 | none=>False
 | some o=>TZ all o fr (cA P S (Z.contains i) H0 o H next) (TH o H next)
def DW{w0:y_}{all:List Oper}{Q:Exit->Act->y_->Prop}{i:Nat}{fr:Fr}{a:Act}{w:y_}{next:Fr->Aa->Prop}{N:Act->y_->Prop}(d:At fr a) (m:Z_ w0 w) (n:Z.contains i=zU->yU w0 S w) (h:M3 P S Z w0.heap all i fr w.heap next)(p:∀f a' e,At f a'->Z_ w0 e->(Z.contains i=zU->yU w0 S e)->next f e.heap->N a' e):wpOp P all.toArray Q i N a w:=by
 unfold M3 at h;split at h;{exact h.elim};rename_i o q;have g:all.toArray[i]?=zY o:=by simpa using q
 rcases M7 d h with⟨b,h⟩ | ⟨b,h⟩;{unfold wpOp;rw[g];dsimp only;rw[H_ b];unfold cA at h;split at h;{rename_i r;refine .inl (Oper.wp_mono ?_ (Cn d h _));rintro a' e ⟨v,rfl,c,j⟩;rw[Bk]at j;exact p _ _ _ (d.put o.dst v) (m.trans c) (λk=>by rw[r]at k;cases k) j};refine .inl (Oper.wp_mono ?_ (Cn d h _));rintro a' e ⟨v,rfl,c,l,j⟩;rw[Bk]at j;exact p _ _ _ (d.put o.dst v) (m.trans c) (λ_=>⟨m.trans c,l⟩) j};unfold wpOp;rw[g];dsimp only;rw[G_ (by rw[b];exact Bool.false_ne_true)];unfold TH at h;rw[Bk]at h;exact p _ _ _ (d.put o.dst undef) m n h
section
open Go.Sort
structure Y6(P:w_)(f:FuncId):Prop where
 call:∀(args:Array v_) (w:y_),(callFunc f args).run P w= .ok (.enter f args) w
 some_:∀(blk off cap:Nat) (zs:List Int) (w:y_),Holds (Value.int .i64) w blk off zs.toArray->blk<w.heap.size->zs.length<4611686018427387904->
  Calls P f #[.slice (zY ⟨blk,off,zV⟩) zs.length cap] w λe w'=>e= .returned (.tuple #[])/\∃n os,w'=grow (putRow (Value.int .i64) (Sort.ahead w n) blk off (zs.mergeSort λx y=>zT (x<=y)).toArray) os
 none_:∀(p:Option Addr) (cap:Nat) (w:y_),Calls P f #[.slice p 0 cap] w λe w'=>e= .returned (.tuple #[])/\w'=w
def PV{S:Nat->Prop}{H:Aa}:∀{xs:List Int} {cs:List v_},(Dc .i64).reps S H cs xs->cs=xs.map (Value.int .i64)/\∀x∈xs,zC .i64 x
 | [],_,h=>by cases h;exact⟨rfl,λx b=>by cases b⟩
 | x::xs,_,h=>by
   obtain⟨c,r,rfl,⟨rfl,d⟩,e⟩:=h;obtain⟨rfl,f⟩:=PV e;refine⟨rfl,λy a=>?_⟩;rcases J'.1 a with rfl | a
   ·exact d
   ·exact f y a
def P7{S:Nat->Prop}{H:Aa}:∀{xs:List Int},(∀x∈xs,zC .i64 x)->(Dc .i64).reps S H (xs.map (Value.int .i64)) xs | [],_=>rfl | x::xs,h=>⟨[B_ x],xs.map (Value.int .i64),rfl,⟨rfl,h x (by simp)⟩,P7 λy a=>h y (by simp[a])⟩
def AmH{f:FuncId}{a:Option Addr}(F:Y6 P f)(q:D_ B H0 H ps)(i:Nat)(r:ps[i]?=zY (pS (Dc .i64) e a n cap xs))(t:xs.length<4611686018427387904)(k:∀H',D_ B H0 H' (ps.set i (pS (Dc .i64) e a n cap (xs.mergeSort λx y=>zT (x<=y))))->K (.tuple #[]) H'):An P f #[.slice a n cap] H K:=by obtain⟨u,-⟩:=q.at_ i r;obtain⟨W,⟨R,d⟩,h⟩:=u;obtain⟨rfl,z⟩:=PV h;refine⟨λw S=>⟨F.call _ w,?_⟩⟩;subst S;rcases d with⟨G,I⟩ | ⟨b,c,l,G,-,J,L,M,m,A⟩;{injection G with e1 e2 e3;subst e1;subst e2;subst e3;obtain rfl:=wL I;refine(F.none_ zV 0 w).mono ?_;rintro _ _ ⟨rfl,rfl⟩;exact⟨_,rfl,Z_.refl _,k _ (by rw[show([]:List Int).mergeSort (λx y=>zT (x<=y))=[] by simp];exact q.say i r _ (q.at_ i r) (λk p=>p))⟩};injection G with e1 e2 e3;subst e1;subst e2;subst e3;rw[show xs.length*(Dc .i64).size=xs.length from yW _]at A;rw[show cap*(Dc .i64).size=cap from yW _]at m;have N:=(Array.getElem?_eq_some_iff.1 J).1;have C:(xs.mergeSort λx y=>zT (x<=y)).length=xs.length:=dI _;have T:Holds (Value.int .i64) w b 0 xs.toArray:=holds_of_blockI (e:=e) (cur:=l.toArray) J (by simpa using A);refine(F.some_ b 0 cap xs w T N t).mono ?_;rintro _ X ⟨rfl,n,os,rfl⟩;have O:=heap_sortedI (n:=n) (os:=os) (xs.mergeSort λx y=>zT (x<=y)).toArray J;obtain⟨-,-,-,D,E⟩:=grownBy_sortedI (w:=w) (g:=b) (n:=n) (os:=os) (xs.mergeSort λx y=>zT (x<=y)).toArray;refine⟨_,rfl,⟨rfl,rfl,rfl⟩,k _ (q.upd i r (λj Q=>E j Q.1 λe=>?_) _ ⟨⟨_,⟨?_,.inr ⟨b,cap,(putCells (Value.int .i64) 0 (xs.mergeSort λx y=>zT (x<=y)).toArray l.toArray).toList,?_,V_ _,?_,zO,M,?_,?_⟩⟩,P7 λx U=>z x (eO.1 U)⟩,λk p=>p.elim⟩ (λk p=>.inl p) (λk p=>?_) D)⟩;{cases e;exact Q.2 (.inl ⟨0,_,_,rfl⟩)};{rw[d_];exact(yW _).symm};{rw[C]};{show _=_;rw[O]};{rw[sH];unfold putCells;rw[Array.size_mapIdx];simp only[eQ,m];exact(yW _).symm};{rw[show(xs.mergeSort λx y=>zT (x<=y)).length*(Dc .i64).size=(xs.mergeSort λx y=>zT (x<=y)).length from yW _];exact take_putCellsI l.toArray _ (by rw[C];simpa [m]using L)};have V:=(q.in_ i r p).2;exact yQ V D
end
def bF:Go.Shelf.Ren:=⟨fun | 189=>169 | 125=>185 | 257=>184 | 128=>208 | 129=>209 | 294=>199 | 295=>200 | 296=>201 | 297=>202 | 298=>203 | 299=>204 | 216=>205 | 300=>206 | 301=>207 | 328=>218 | 329=>219 | 330=>220 | 331=>221 | 332=>222 | 215=>223 | 343=>230 | n=>n,fun | 28=>181 | 3=>3 | 46=>168 | 0=>0 | 51=>333 | 53=>63 | 4=>4 | 183=>326 | 182=>325 | 131=>76 | 5=>5 | 9=>9 | 218=>343 | 222=>347 | 228=>355 | 229=>267 | n=>n,fun | n=>n⟩
def Wx:Go.Proofs.Lays.n189 prog bF:={
 mixed:=zX
 f125:=func185.trans (congrArg zY zX)
 f128:=func208.trans (congrArg zY zX)
 f129:=func209.trans (congrArg zY zX)
 f189:=func169.trans (congrArg zY zX)
 f215:=func223.trans (congrArg zY zX)
 f216:=func205.trans (congrArg zY zX)
 f257:=func184.trans (congrArg zY zX)
 f294:=func199.trans (congrArg zY zX)
 f295:=func200.trans (congrArg zY zX)
 f296:=func201.trans (congrArg zY zX)
 f297:=func202.trans (congrArg zY zX)
 f298:=func203.trans (congrArg zY zX)
 f299:=func204.trans (congrArg zY zX)
 f300:=func206.trans (congrArg zY zX)
 f301:=func207.trans (congrArg zY zX)
 f328:=func218.trans (congrArg zY zX)
 f329:=func219.trans (congrArg zY zX)
 f330:=func220.trans (congrArg zY zX)
 f331:=func221.trans (congrArg zY zX)
 f332:=func222.trans (congrArg zY zX)
 f343:=func230.trans (congrArg zY zX)
 t0:=underlying0
 a0:=isAgg0
 z0:=sizeOf0
 v0:=zeroValue0
 t3:=underlying3
 a3:=isAgg3
 z3:=sizeOf3
 v3:=zeroValue3
 t4:=underlying4
 a4:=isAgg4
 z4:=sizeOf4
 v4:=zeroValue4
 t5:=underlying5
 a5:=isAgg5
 z5:=sizeOf5
 v5:=zeroValue5
 t9:=underlying9
 a9:=isAgg9
 z9:=sizeOf9
 v9:=zeroValue9
 t28:=underlying181
 a28:=isAgg181
 z28:=sizeOf181
 v28:=zeroValue181
 t46:=underlying168
 a46:=isAgg168
 z46:=sizeOf168
 v46:=zeroValue168
 t51:=underlying333
 a51:=isAgg333
 z51:=sizeOf333
 v51:=zeroValue333
 t53:=underlying63
 a53:=isAgg63
 z53:=sizeOf63
 v53:=zeroValue63
 t131:=underlying76
 a131:=isAgg76
 z131:=sizeOf76
 v131:=zeroValue76
 t182:=underlying325
 a182:=isAgg325
 z182:=sizeOf325
 v182:=zeroValue325
 t183:=underlying326
 a183:=isAgg326
 z183:=sizeOf326
 v183:=zeroValue326
 t218:=underlying343
 a218:=isAgg343
 z218:=sizeOf343
 v218:=zeroValue343
 t222:=underlying347
 a222:=isAgg347
 z222:=sizeOf347
 v222:=zeroValue347
 t228:=underlying355
 a228:=isAgg355
 z228:=sizeOf355
 v228:=zeroValue355
 t229:=underlying267
 a229:=isAgg267
 z229:=sizeOf267
 v229:=zeroValue267}
def AjS:Y6 prog 169 where
 call:=call169
 some_:=λblk off cap c w d a b=>Any.slices_Sort_int Wx blk off cap c w d a b
 none_:=λp cap w=>Any.slices_Sort_int_none Wx p cap w
abbrev KD:=Fr->List Nat->Aa->Prop
section
variable(P:w_)(ro:Option Nat)(a b:Code)(fr:Fr)(ds:List Nat)(H:Aa)(kn:KD)(X:List (Nat×KD))(kr:KD)
end
def Zae(w:y_)(r:Nat)(o:Obj):Z_ w (w.putObj r o):=⟨rfl,rfl,rfl⟩
def D_.perm(a:D_ B H0 H ps)(h:ps.Perm qs):D_ B H0 H qs:=⟨a.old,a.lt0,a.size,λp b=>a.oks p (h.mem_iff.2 b),λp b=>a.rng p (h.mem_iff.2 b),(h.pairwise_iff fun{x y} c k e d=>c k d e).1 a.dis⟩
def D_.sub(a:D_ B H0 H ps)(h:qs.Sublist ps):D_ B H0 H qs:=⟨a.old,a.lt0,a.size,λp b=>a.oks p (h.subset b),λp b=>a.rng p (h.subset b),a.dis.sublist h⟩
def D_.pickN(b:D_ B H0 H ps)(n:Nat)(is:List Nat)(f:is.Nodup):D_ B H0 H ((is.filterMap λi=>(ps.take n)[i]?)++ps.drop n):=by have e:=rE n ps;rw[<-e]at b;generalize ps.take n=qs at*;generalize ps.drop n=p at*;have⟨t,g,h⟩:=vW.1 b.dis;have st1:D_ B H0 H qs:=b.sub (List.sublist_append_left _ _);have c:=st1.pick is f;have j:∀q,q∈is.filterMap (λi=>qs[i]?)->q∈qs:=λq a=>by{obtain⟨i,-,l⟩:=pK.1 a;exact Y_ l};refine⟨b.old,b.lt0,b.size,λq a=>?_,λq a k d=>?_,vW.2 ⟨c.dis,g,λq a r m=>h q (j q a) r m⟩⟩;{rcases n_.1 a with a | a;{exact c.oks q a};exact b.oks q (n_.2 (.inr a))};rcases n_.1 a with a | a;{exact c.rng q a k d};exact b.rng q (n_.2 (.inr a)) k d
abbrev kI:Int->v_:=Value.int .i64
def Wt:Fv prog 3 (Pa (α:=Int)) kI:=Fv.ofE underlying3 (jG .i64)
def Wz:D4 prog 295 3 3 (.int .i64 0):=⟨rfl,rfl⟩
abbrev Dom(mm:Int->Option v_):Int->Prop:=λq=>(mm q).isSome=zW
abbrev zF:Ty Int:=Dc .i64
def Kl:∀(n:Nat) (l:List Int),l.Nodup->(∀x∈l,0<=x/\x<(n:Int))->l.length<=n
 | 0,l,_,h=>by
   cases l with
   | nil=>exact I_ _
   | cons x l=>have:=h x yN;omega
 | n+1,l,hd,h=>by
   have c:=Kl n (l.filter λx=>zT (x<(n:Int))) (hd.filter _) (λx a=>by
    have⟨c,d⟩:=yS.1 a;exact⟨(h x c).1,by simpa using d⟩)
   have d:l.length<=(l.filter λx=>zT (x<(n:Int))).length+1:=by
    clear c
    induction l with
    | nil=>simp
    | cons x l f=>
      rw[List.nodup_cons]at hd;by_cases a:x<(n:Int)
      ·rw[vF (by simpa using a)];have:=f hd.2 (λy b=>h y (yD _ b));simp only[U_];omega
      ·rw[uG (by simpa using a)];have g:x=(n:Int):=by have:=h x yN;omega
       have:l.filter (λx=>zT (x<(n:Int)))=l:=List.filter_eq_self.2 λy b=>by
        have j:=h y (yD _ b);have:y≠x:=λe=>hd.1 (e ▸ b);rw[yL];omega
       rw[this];simp
   omega
def JB{x:Int}(h:0<=x/\x<65536):zC .i64 x:=⟨by simp[IntKind.min,IntKind.signed,IntKind.bits];omega,by simp[IntKind.max,IntKind.signed,IntKind.bits];omega⟩
def Vw{d:List Int}(h:d.Nodup):(d.mergeSort λx y=>zT (x<=y)).Pairwise (·<·):=by have e:(d.mergeSort λx y=>zT (x<=y)).Pairwise (·<=·):=(List.pairwise_mergeSort (λa b c e f=>by simp only[yL]at*;omega) (λa b=>by simp only[Bool.or_eq_true,yL];omega) _).imp λh=>of_decide_eq_true h;have f:(d.mergeSort λx y=>zT (x<=y)).Nodup:=(List.mergeSort_perm _ _).nodup_iff.2 h;exact(e.and f).imp λ⟨g,j⟩=>zO
open Classical in
noncomputable def mss(X:PS):Nat:=(E1 λp=>¬X p).length
def Zv{p q:Int->Bool}:∀(l:List Int),(∀x,p x=zW->q x=zW)->(l.filter p).length<=(l.filter q).length | [],_=>I_ _ | x::l,h=>by have c:=Zv l h;cases a:p x with
   | true=>rw[vF a,vF (h x a),U_,U_];omega
   | false=>
     rw[uG (by rw[a];decide)];cases b:q x with
     | true=>rw[vF b,U_];omega
     | false=>rw[uG (by rw[b];decide)];exact c
def Zw{p q:Int->Bool}{y:Int}:∀(l:List Int),(∀x,p x=zW->q x=zW)->y∈l->p y=zU->q y=zW->(l.filter p).length<(l.filter q).length
 | [],_,hy,_,_=>by cases hy
 | x::l,h,hy,h1,h2=>by
   have le:=Zv l h;by_cases a:x=y
   ·subst a;rw[uG (by rw[h1];decide),vF h2,U_];omega
   ·have b:y∈l:=by
     rcases J'.1 hy with e | e
     ·exact absurd e.symm a
     ·exact e
    have f:=Zw l h b h1 h2;cases c:p x with
    | true=>rw[vF c,vF (h x c),U_,U_];omega
    | false=>
      rw[uG (by rw[c];decide)];cases d:q x with
      | true=>rw[vF d,U_];omega
      | false=>rw[uG (by rw[d];decide)];exact f
def Aj0{X Y:PS}(h:∀p,X p->Y p)(h0:0<=q)(d:q<65536)(a:¬X q)(c:Y q):mss Y<mss X:=by unfold mss E1;refine Zw (y:=q) _ (λp b=>?_) (yT.2 ⟨q.toNat,xO.2 zO,zO⟩) ?_ ?_;{simp only[yL]at b ⊢;exact λa=>b (h p a)};{simp[c]};simp[a]
def Fc{a:Int->Option v_}{v:v_}(p:Int):Dom (put a q (zY v)) p↔Dom a p\/p=q:=by unfold Dom;by_cases h:p=q;{subst h;rw[BU];simp};rw[D3 h];simp[h]
open Go.Lib
section
open Go.RowKit
abbrev Th:String:= "internal/strconv.uint64pow10"
def Eo(P:w_)(H:Aa):Prop:=∀w:y_,w.heap=H->TabIs P w Th .u64 pow10Tab
def Xb{w w':y_}{a:String}{cs:Array v_}(h:w.var? P a=zY cs)(e:A_ (F_ w.heap) w.heap w'.heap):w'.var? P a=zY cs:=by unfold World.var? at*;cases d:P.globalNamed a with|none=>simp[d]at h|some g=>{simp only[d,xI]at h ⊢;have b:g<w.heap.size:=by{rcases Nat.lt_or_ge g w.heap.size with c | c;{exact c};rw[Array.getElem?_eq_none c]at h;simp at h};rw[e g b];exact h}
def Eo.agr{H':Aa}(h:Eo P H)(a:A_ (F_ H) H H'):Eo P H':=by intro w b;subst b;have:=h {w with heap:=H} rfl;exact Xb (w:={w with heap:=H}) (w':=w) this a
structure Yy(P:w_)(f:FuncId)(e:x_):Prop where
 call:∀(args:Array v_) (w:y_),(callFunc f args).run P w= .ok (.enter f args) w
 run_:∀(B n:Nat) (i:Int) (sv:v_) (xs:List v_) (w:y_),-9223372036854775808<=i->i<=9223372036854775807->w.ownsRow B e 1 sv n xs->B<=w.heap.size->n+21<=140737488355328->TabBelow P B w Th .u64 pow10Tab->
  Calls P f #[sv,B_ i,B_ 10] w λe' w'=>∃v',e'= .returned v'/\w'.ownsRow B e 1 v' (n+(itoa i).length) (xs++Go.Lib.byteCells (itoa i))/\Below B w w'/\OthersKept e zV w w'
abbrev tU8:Ty Int:=Dc .u8
def J8(i:Int):List Int:=(itoa i).map λb=>(b.toNat:Int)
def Zj(i:Int):(J8 i).length=(itoa i).length:=d_ _
def Nm{S:Nat->Prop}{H:Aa}:∀{xs:List Int} {cs:List v_},tU8.reps S H cs xs->cs=xs.map (Value.int .u8)/\∀x∈xs,zC .u8 x
 | [],_,h=>by cases h;exact⟨rfl,λx b=>by cases b⟩
 | x::xs,_,h=>by
   obtain⟨c,r,rfl,⟨rfl,d⟩,e⟩:=h;obtain⟨rfl,f⟩:=Nm e;refine⟨rfl,λy a=>?_⟩;rcases J'.1 a with rfl | a
   ·exact d
   ·exact f y a
def Xa{S:Nat->Prop}{H:Aa}:∀{xs:List Int},(∀x∈xs,zC .u8 x)->tU8.reps S H (xs.map (Value.int .u8)) xs | [],_=>rfl | x::xs,h=>⟨[.int .u8 x],xs.map (Value.int .u8),rfl,⟨rfl,h x (by simp)⟩,Xa λy a=>h y (by simp[a])⟩
def U9(i:Int):Go.Lib.byteCells (itoa i)=(J8 i).map (Value.int .u8):=by unfold Go.Lib.byteCells J8;rw[kH];rfl
def AlB(b:UInt8):zC .u8 (b.toNat:Int):=I1 (UInt8.toNat_lt b)
def kX{f:FuncId}{a:Option Addr}{i:Int}(W:Yy P f e)(D:St H0 H [pS tU8 e a n cap xs])(E:Eo P H0)(h0: -9223372036854775808<=i)(X:i<=9223372036854775807)(Y:xs.length+21<=140737488355328)(k:∀a' d H',St H0 H' [pS tU8 e a' (xs++J8 i).length d (xs++J8 i)]->K (.slice a' (xs++J8 i).length d) H'):An P f #[.slice a n cap,B_ i,B_ 10] H K:=by
 obtain⟨F,-⟩:=D.at_ 0 rfl;obtain⟨cs,⟨Z,m⟩,t⟩:=F;obtain⟨rfl,G⟩:=Nm t;refine⟨λw hw=>⟨W.call _ w,?_⟩⟩;subst hw;have a0:n=xs.length:=by{rcases m with⟨h,p⟩ | ⟨b,c,l,h,-⟩;{injection h with e1 e2 e3;omega};injection h};have I:w.ownsRow H0.size e 1 (.slice a n cap) xs.length (xs.map (Value.int .u8)):=by{refine⟨by rw[d_,yW],?_⟩;rcases m with⟨h,p⟩ | ⟨b,c,l,h,-,J,u,y,z,A⟩;{exact .inl ⟨h,p⟩};have B:H0.size<=b:=by{have:=(D.in_ 0 rfl (k:=b) (.inl ⟨0,n,cap,by rw[h];injection h with e1 e2 e3;subst e1;subst e2;subst e3;rfl⟩)).1;unfold F_ at this;omega};exact .inr ⟨b,c,l.toArray,h,B,J,u,y,by rw[eQ];exact z,A⟩};have L:TabBelow P H0.size w Th .u64 pow10Tab:=λq J=>(E.agr (D.old.trans (show A_ (F_ H0) w.heap q.heap from λj R=>J.block j R))) q rfl;refine(W.run_ H0.size xs.length i _ _ w h0 X I (Ay D.old) Y L).mono ?_;rintro _ q ⟨S,rfl,C,g,-⟩;have⟨M,N⟩:=C;have O:xs.length+(itoa i).length=(xs++J8 i).length:=by rw[M_,Zj]
 rw[O]at N M;have T:A_ (F_ H0) H0 q.heap:=D.old.trans (show A_ (F_ H0) w.heap q.heap from λj R=>g.block j R);have r:tU8.reps none_ q.heap (xs.map (Value.int .u8)++Go.Lib.byteCells (itoa i)) (xs++J8 i):=by{rw[U9,<-xV];refine Xa λx Q=>?_;rcases n_.1 Q with Q | Q;{exact G x Q};obtain⟨b,-,rfl⟩:=yT.1 Q;exact AlB b};have mk:∀a' d,S= .slice a' (xs++J8 i).length d->h_ tU8 none_ q.heap H0.size e S (xs++J8 i)->∃H',H'=q.heap/\St H0 H' [pS tU8 e a' (xs++J8 i).length d (xs++J8 i)]:=λa' d hv hs=>by{subst hv;refine⟨_,rfl,?_⟩;have⟨a2,c2,e2,U⟩:=(St.nil H0).got T hs;injection e2 with e21 e22 e23;subst e21;subst e23;exact U};have hs:h_ tU8 none_ q.heap H0.size e S (xs++J8 i):=by{refine⟨_,⟨M,?_⟩,r⟩;rcases N with⟨h,p⟩ | ⟨b,c,l,h,B,J,u,y,z,A⟩;{exact .inl ⟨h,p⟩};exact .inr ⟨b,c,l.toList,h,B,J,u,y,by rw[sH];exact z,A⟩};obtain⟨a',d,rfl⟩:=hs.hull;obtain⟨_,rfl,V⟩:=mk a' d rfl hs;exact⟨_,rfl,⟨g.os.symm ▸ rfl,g.tape.symm ▸ rfl,g.output.symm ▸ rfl⟩,k a' d _ V⟩
end
def Re:Go.Shelf.Ren:=⟨fun | 176=>170 | 249=>186 | 288=>210 | 283=>224 | 284=>225 | 285=>226 | 286=>227 | 129=>209 | 317=>231 | 318=>232 | 319=>233 | 320=>234 | 337=>238 | 338=>239 | n=>n,fun | 37=>167 | 2=>2 | 3=>3 | 53=>63 | 4=>4 | 9=>9 | 171=>350 | 0=>0 | 173=>352 | 212=>358 | 51=>333 | 5=>5 | 20=>20 | 213=>359 | 46=>168 | 232=>361 | 233=>362 | n=>n,fun | 17=>3 | 18=>4 | 19=>5 | n=>n⟩
def ZD:Go.Proofs.LaysM.n176 prog Re:={
 mixed:=zX
 f129:=func209.trans (congrArg zY zX)
 f176:=func170.trans (congrArg zY zX)
 f249:=func186.trans (congrArg zY zX)
 f283:=func224.trans (congrArg zY zX)
 f284:=func225.trans (congrArg zY zX)
 f285:=func226.trans (congrArg zY zX)
 f286:=func227.trans (congrArg zY zX)
 f288:=func210.trans (congrArg zY zX)
 f317:=func231.trans (congrArg zY zX)
 f318:=func232.trans (congrArg zY zX)
 f319:=func233.trans (congrArg zY zX)
 f320:=func234.trans (congrArg zY zX)
 f337:=func238.trans (congrArg zY zX)
 f338:=func239.trans (congrArg zY zX)
 t0:=underlying0
 a0:=isAgg0
 z0:=sizeOf0
 v0:=zeroValue0
 t2:=underlying2
 a2:=isAgg2
 z2:=sizeOf2
 v2:=zeroValue2
 t3:=underlying3
 a3:=isAgg3
 z3:=sizeOf3
 v3:=zeroValue3
 t4:=underlying4
 a4:=isAgg4
 z4:=sizeOf4
 v4:=zeroValue4
 t5:=underlying5
 a5:=isAgg5
 z5:=sizeOf5
 v5:=zeroValue5
 t9:=underlying9
 a9:=isAgg9
 z9:=sizeOf9
 v9:=zeroValue9
 t20:=underlying20
 a20:=isAgg20
 z20:=sizeOf20
 v20:=zeroValue20
 t37:=underlying167
 a37:=isAgg167
 z37:=sizeOf167
 v37:=zeroValue167
 t46:=underlying168
 a46:=isAgg168
 z46:=sizeOf168
 v46:=zeroValue168
 t51:=underlying333
 a51:=isAgg333
 z51:=sizeOf333
 v51:=zeroValue333
 t53:=underlying63
 a53:=isAgg63
 z53:=sizeOf63
 v53:=zeroValue63
 t171:=underlying350
 a171:=isAgg350
 z171:=sizeOf350
 v171:=zeroValue350
 t173:=underlying352
 a173:=isAgg352
 z173:=sizeOf352
 v173:=zeroValue352
 t212:=underlying358
 a212:=isAgg358
 z212:=sizeOf358
 v212:=zeroValue358
 t213:=underlying359
 a213:=isAgg359
 z213:=sizeOf359
 t232:=underlying361
 a232:=isAgg361
 z232:=sizeOf361
 v232:=zeroValue361
 t233:=underlying362
 a233:=isAgg362
 z233:=sizeOf362
 v233:=zeroValue362
 g17:=zX
 g18:=zX
 g19:=zX
 i0:=zX
 i2:=zX
 i3:=zX
 i4:=zX
 i5:=zX
 i9:=zX
 i20:=zX
 i37:=zX
 i46:=zX
 i51:=zX
 i53:=zX
 i171:=zX
 i173:=zX
 i212:=zX
 i232:=zX
 i233:=zX
 m17:=zX
 m18:=zX
 m19:=by kernel_rfl}
def aE:Yy prog 170 5 where
 call:=call170
 run_ B n i sv xs w h0 h1 hown hB hlim htab:=Go.Proofs.Any.strconv_AppendInt_10 ZD B n i h0 h1 sv xs w hown hB hlim htab
def D6(q:Int):List Nat:=(Go.Lib.itoa q).map UInt8.toNat
def AiA(q:Int):J8 q=(D6 q).map fun(x:Nat)=>(x:Int):=by unfold J8 D6;rw[kH];rfl
def OT(n:Nat)(l:List Nat):Nat:=l.foldl (λn b=>10*n+(b-48)) n
def Sw(u:Nat):(∀b∈(Go.Lib.decDigits u).map UInt8.toNat,48<=b/\b<=57)/\OT 0 ((Go.Lib.decDigits u).map UInt8.toNat)=u:=by induction u using Nat.strongRecOn with|_ u ih=>{rw[Go.Lib.decDigits];by_cases h:u<10;{rw[dif_pos h];have e:(UInt8.ofNat (48+u)).toNat=48+u:=by{rw[UInt8.toNat_ofNat'];omega};refine⟨λb a=>?_,?_⟩;{simp only[xY,rJ,Q_,e]at a;omega};simp only[xY,rJ,e,OT,wO,tW];omega};rw[dif_neg h];have⟨d,c⟩:=ih (u / 10) zO;have e:(UInt8.ofNat (48+u % 10)).toNat=48+u % 10:=by{rw[UInt8.toNat_ofNat'];omega};refine⟨λb a=>?_,?_⟩;{rw[xV,n_]at a;rcases a with a | a;{exact d b a};simp only[xY,rJ,Q_,e]at a;omega};unfold OT at c ⊢;rw[xV,wE,c];simp only[xY,rJ,e,wO,tW];omega}
def QR(h:0<=q):D6 q=(Go.Lib.decDigits q.toNat).map UInt8.toNat:=by unfold D6 Go.Lib.itoa;rw[G_ zO]
def KB(h:0<=q):∀b∈D6 q,48<=b/\b<=57:=by rw[QR h];exact(Sw _).1
def Wb(h:0<=q):(OT 0 (D6 q):Int)=q:=by rw[QR h,(Sw _).2];omega
def VX:∀(k u:Nat),u<10^(k+1)->(Go.Lib.decDigits u).length<=k+1
 | 0,u,h=>by
   rw[Go.Lib.decDigits,dif_pos (by simpa using h)];simp
 | k+1,u,h=>by
   rw[Go.Lib.decDigits];by_cases a:u<10
   ·rw[dif_pos a];simp
   ·rw[dif_neg a,M_];have:=VX k (u / 10) (by rw[kK zQ];rw[pG]at h;omega);simp only[U_,i_];omega
def Wa(h:0<=q/\q<65536):(D6 q).length<=5:=by rw[QR h.1,d_];exact VX 4 _ zO
def hJ:∀(l:List Nat) (n:Nat),(∀b∈l,48<=b)->n<=OT n l | [],n,_=>I_ _ | b::l,n,h=>by have a:=hJ l (10*n+(b-48)) λx c=>h x (yD _ c);unfold OT at a ⊢;rw[wO];omega
def Ag8{p r:List Nat}(h0:0<=q)(h:D6 q=p++r):(OT 0 p:Int)<=q:=by have c:=KB h0;have a:=Wb h0;rw[h]at c a;have d:=hJ r (OT 0 p) λb e=>(c b (uI _ e)).1;unfold OT at a d ⊢;rw[wE]at a;omega
def Bf(l:List Int):List Nat:=l.flatMap λq=>D6 q++[44]
def Of(l:List Int)(q:Int):Bf (l++[q])=Bf l++D6 q++[44]:=by unfold Bf;rw[tF];simp
def ZU{l:List Int}(h:∀q∈l,0<=q/\q<65536):∀b∈Bf l,b<256:=by intro b a;have⟨q,c,a⟩:=uS.1 a;rcases n_.1 a with a | a;{have:=KB (h q c).1 b a;omega};rw[Q_]at a;omega
def Jk:∀{l:List Int},(∀q∈l,0<=q/\q<65536)->(Bf l).length<=l.length*6
 | [],_=>V_ _
 | q::l,h=>by
   have c:=Jk (l:=l) λx a=>h x (yD _ a);have d:=Wa (h q (yN ..));have b:Bf (q::l)=(D6 q++[44])++Bf l:=by unfold Bf;rw[vG]
   rw[b];simp only[M_,U_,i_];omega
def uB(s:List Int×Nat)(b:Nat):List Int×Nat:=if b=44 then(s.1++[(s.2:Int)],0)else(s.1,10*s.2+(b-48))
def Od:∀(p:List Nat) (acc:List Int) (n:Nat),(∀b∈p,48<=b/\b<=57)->p.foldl uB (acc,n)=(acc,OT n p)| [],_,_,_=>rfl | b::p,acc,n,h=>by have c:=h b (yN ..);rw[wO,show uB (acc,n) b=(acc,10*n+(b-48)) by unfold uB;rw[G_ zO],Od p acc _ λx a=>h x (yD _ a)];rfl
def W4(h:0<=q)(acc:List Int):(D6 q++[44]).foldl uB (acc,0)=(acc++[q],0):=by rw[wE,Od _ _ _ (KB h)];show uB (acc,OT 0 (D6 q)) 44=_;unfold uB;rw[H_ rfl];simp only[Wb h]
def Nf:∀(l:List Int) (acc:List Int),(∀q∈l,0<=q)->(Bf l).foldl uB (acc,0)=(acc++l,0)
 | [],acc,_=>by simp[Bf]
 | q::l,acc,h=>by
   have a:Bf (q::l)=(D6 q++[44])++Bf l:=by unfold Bf;rw[vG]
   rw[a,wE,W4 (h q (yN ..)),Nf l _ λx b=>h x (yD _ b)];simp
def ZV{m:List Int}(b:∀q∈l,0<=q)(c:∀q∈m,0<=q)(h:Bf l=Bf m):l=m:=by have a:=Nf l [] b;rw[h,Nf m [] c]at a;simpa using a.symm
def W5:∀(l:List Int) (acc:List Int) (i:Nat),(∀q∈l,0<=q/\q<65536)->(((Bf l).take i).foldl uB (acc,0)).2<65536/\∃k,k<=l.length/\(((Bf l).take i).foldl uB (acc,0)).1=acc++l.take k
 | [],acc,i,_=>by simp[Bf]
 | q::l,acc,i,h=>by
   have a:=h q (yN ..);have c:Bf (q::l)=(D6 q++[44])++Bf l:=by unfold Bf;rw[vG]
   rw[c];by_cases d:i<=(D6 q).length
   ·have e:((D6 q++[44])++Bf l).take i=(D6 q).take i:=by
     rw[yP,dE d]
    rw[e,Od _ _ _ λb f=>KB a.1 b (kP f)];have:=Ag8 a.1 (rE i (D6 q)).symm;exact⟨by simp only;omega,0,V_ _,zZ⟩
   ·have e:((D6 q++[44])++Bf l).take i=(D6 q++[44])++(Bf l).take (i-(D6 q).length-1):=by
     rw[List.take_append,tU (by simp only[M_,U_,i_];omega)];simp only[M_,U_,i_];rw[(zO:i-((D6 q).length+(0+1))=i-(D6 q).length-1)]
    rw[e,wE,W4 a.1];have⟨g,k,n,j⟩:=W5 l (acc++[q]) (i-(D6 q).length-1) λx m=>h x (yD _ m);exact⟨g,k+1,by simp only[U_];omega,by rw[j];simp⟩
def yA(l:List Int):ByteArray:=⟨((Bf l).map UInt8.ofNat).toArray⟩
def aR{l:List Nat}(h:∀x∈l,x<256):zI ⟨(l.map UInt8.ofNat).toArray⟩=l:=by unfold zI;rw[kH];refine(sO λx a=>?_).trans (List.map_id _);show(UInt8.ofNat x).toNat=x;rw[UInt8.toNat_ofNat'];exact vY (h x a)
def QE(h:∀q∈l,0<=q/\q<65536):zI (yA l)=Bf l:=aR (ZU h)
def AeU{m:List Int}(b:∀q∈l,0<=q/\q<65536)(c:∀q∈m,0<=q/\q<65536)(h:yA l=yA m):l=m:=by have:=congrArg zI h;rw[QE b,QE c]at this;exact ZV (λq a=>(b q a).1) (λq a=>(c q a).1) this
def SY(h:∀q∈l,0<=q/\q<65536):(yA l).size=(Bf l).length:=by rw[<-MR,QE h]
section
variable{K:Type} [DecidableEq K]
def M'(most:Nat)(f:List K)(k:K):Option (List K×Nat):=match f.findIdx? (·=k)with
 | some i=>zY (f,i)
 | none=>if f.length<most then zY (f++[k],f.length)else zV
def Cs(most:Nat)(step:K->Nat->K)(x:K)(s:Option (List K×List Nat))(b:Nat):Option (List K×List Nat):=s.bind λp=>(M' most p.1 (step x b)).map λr=>(r.1,p.2++[r.2])
def Bl(most:Nat)(step:K->Nat->K)(bs:List Nat)(start:K):Nat->Option (List K×List (List Nat))| 0=>zY ([start],[])| n+1=>(Bl most step bs start n).bind λp=>match p.1[n]? with | none=>zY p | some x=>(bs.foldl (Cs most step x) (zY (p.1,[]))).map λr=>(r.1,p.2++[r.2])
variable{most:Nat}{step:K->Nat->K}{bs:List Nat}{start:K}
def Fu(x:K):∀l:List Nat,l.foldl (Cs most step x) zV=zV | []=>rfl | b::l=>by rw[wO];exact Fu x l
def K3{f c:List K}{k:K}{i:Nat}(h:M' most f k=zY (c,i))(p:f.length<=most)(m:f.Nodup):c[i]?=zY k/\c.length<=most/\c.Nodup/\f <+: c:=by unfold M' at h;cases d:f.findIdx? (·=k)with|some j=>{rw[d]at h;injection h with h;injection h with h1 h2;subst h1;subst h2;obtain⟨q,g,-⟩:=uT.1 d;have g:f[j]=k:=by{simpa using g};exact⟨by rw[zH q,g],p,m,sM _⟩}|none=>{rw[d]at h;simp only at h;split at h;{rename_i r;injection h with h;injection h with h1 h2;subst h1;subst h2;have l:k∉f:=λt=>by{have:=List.findIdx?_eq_none_iff.1 d k t;simp at this};refine⟨zZ,by simp only[M_,U_,i_];omega,?_,eP _ _⟩;rw[rG];exact⟨m,zZ,λa u b n=>by rw[Q_]at n;subst n;intro e;subst e;exact l u⟩};cases h}
omit [DecidableEq K]in
def EA{f a:List K}{i:Nat}{k:K}(h:f <+: a)(b:f[i]?=zY k):a[i]?=zY k:=by obtain⟨t,rfl⟩:=h;rw[zE (P_.1 b).1];exact b
structure N2(most:Nat)(step:K->Nat->K)(bs:List Nat)(start:K)(n:Nat)(f:List K)(rows:List (List Nat)):Prop where
 len:f.length<=most
 nd:f.Nodup
 zero:f[0]?=zY start
 rl:rows.length=n
 cols:∀row∈rows,row.length=bs.length
 ok:∀(i k:Nat) (row:List Nat) (b t:Nat) (x:K),rows[i]?=zY row->bs[k]?=zY b->row[k]?=zY t->f[i]?=zY x->f[t]?=zY (step x b)
def UG{f:List K}{x:K}(y:f.length<=most)(z:f.Nodup):∀(k:Nat),k<=bs.length->∀(a:List K) (row:List Nat),(bs.take k).foldl (Cs most step x) (zY (f,[]))=zY (a,row)->a.length<=most/\a.Nodup/\f <+: a/\row.length=k/\∀(j b t:Nat),bs[j]?=zY b->row[j]?=zY t->a[t]?=zY (step x b):=by intro k;induction k with|zero=>intro _ a row h;simp only[nT,tW,AqF.injEq,Prod.mk.injEq]at h;obtain⟨rfl,rfl⟩:=h;exact⟨y,z,sM _,rfl,λj b t _ h=>by simp at h⟩|succ k A=>{intro G a row h;have⟨b,q⟩:=Ai (l:=bs) (k:=k) zO;rw[Aj q,wE]at h;cases g:(bs.take k).foldl (Cs most step x) (zY (f,[]))with|none=>rw[g]at h;cases h|some p=>{have⟨u,B⟩:=p;have⟨C,D,E,w,F⟩:=A zO u B g;rw[g]at h;simp only[wO,tW,Cs,xI]at h;cases m:M' most u (step x b)with|none=>rw[m]at h;cases h|some r=>{have⟨H,I⟩:=r;rw[m]at h;simp only[wB,AqF.injEq,Prod.mk.injEq]at h;obtain⟨rfl,rfl⟩:=h;have⟨a1,a2,a3,a4⟩:=K3 m C D;refine⟨a2,a3,E.trans a4,by simp[w],λj c t e d=>?_⟩;by_cases J:j<k;{rw[zE zO]at d;exact EA a4 (F j c t e d)};have n:=(P_.1 d).1;simp only[M_,U_,i_]at n;obtain rfl:j=k:=zO;rw[q]at e;injection e with e;subst e;rw[y' zO,w,vZ]at d;simp only[wF,AqF.injEq]at d;subst d;exact a1}}}
def Mk{f:List K}{x:K}(c:f.length<=most)(d:f.Nodup){a:List K}{row:List Nat}(h:bs.foldl (Cs most step x) (zY (f,[]))=zY (a,row)):a.length<=most/\a.Nodup/\f <+: a/\row.length=bs.length/\∀(j b t:Nat),bs[j]?=zY b->row[j]?=zY t->a[t]?=zY (step x b):=UG c d bs.length (I_ _) a row (by rw[yH];exact h)
def IE(C:1<=most):∀(n:Nat) (f:List K) (rows:List (List Nat)),Bl most step bs start n=zY (f,rows)->(∀j,j<n->j<f.length)->N2 most step bs start n f rows
 | 0,f,rows,h,_=>by
   simp only[Bl,AqF.injEq,Prod.mk.injEq]at h;obtain⟨rfl,rfl⟩:=h;exact⟨C,zZ,rfl,rfl,(λrow h=>by cases h),λi k row b t x h=>by simp at h⟩
 | n+1,f,rows,h,hlt=>by
   simp only[Bl]at h;cases w:Bl most step bs start n with
   | none=>rw[w]at h;cases h
   | some p=>
     have⟨q,d⟩:=p;rw[w]at h;simp only[xI]at h;cases g:q[n]? with
     | none=>
       rw[g]at h;simp only[AqF.injEq,Prod.mk.injEq]at h;obtain⟨rfl,rfl⟩:=h;have:=hlt n zO;rw[dH]at g;omega
     | some x=>
       rw[g]at h;simp only at h;cases z:bs.foldl (Cs most step x) (zY (q,[]))with
       | none=>rw[z]at h;cases h
       | some r=>
         have⟨J,row⟩:=r;rw[z]at h;simp only[wB,AqF.injEq,Prod.mk.injEq]at h;obtain⟨rfl,rfl⟩:=h;have G:=(P_.1 g).1;have c:=IE C n q d w λj L=>zO
         have⟨g1,g2,u,H,I⟩:=Mk c.len c.nd z;refine⟨g1,g2,EA u c.zero,by simp[c.rl],λr a=>?_,λi k r b t y e D E F=>?_⟩
         ·rcases n_.1 a with a | a
          ·exact c.cols r a
          ·rw[Q_]at a;subst a;exact H
         ·by_cases A:i<n
          ·rw[zE (by rw[c.rl];exact A)]at e;have⟨M,m⟩:=Ai (l:=q) (k:=i) zO;have:=EA u m;rw[F]at this;injection this with this
           subst this;exact EA u (c.ok i k r b t y e D E m)
          ·have B:=(P_.1 e).1;simp only[M_,U_,i_,c.rl]at B;obtain rfl:i=n:=zO
           rw[y' (by rw[c.rl];exact I_ _),c.rl,vZ]at e;simp only[wF,AqF.injEq]at e;subst e;have:=EA u g;rw[F]at this;injection this with this
           subst this;exact I k b t D E
def Kp{n:Nat}{f:List K}{rows:List (List Nat)}(h:Bl most step bs start n=zY (f,rows))(c:f.length<=n):∀m,n<=m->Bl most step bs start m=zY (f,rows):=by intro m d;induction m with|zero=>obtain rfl:n=0:=zO;exact h|succ m a=>by_cases b:n=m+1;{subst b;exact h};have:=a zO;simp only[Bl,this,xI];rw[yR zO]
def Vt{n:Nat}(h:Bl most step bs start n=zV):∀m,n<=m->Bl most step bs start m=zV:=by intro m c;induction m with|zero=>obtain rfl:n=0:=zO;exact h|succ m a=>by_cases b:n=m+1;{subst b;exact h};have:=a zO;simp only[Bl,this,Option.bind_none]
def DZ(most:Nat)(step:K->Nat->K)(bs:List Nat)(start:K):Option (List K×List (List Nat)):=Bl most step bs start most
def Pw{n:Nat}{f:List K}{rows:List (List Nat)}(h:Bl most step bs start n=zY (f,rows))(a:f.length=n)(b:f.length<=most):DZ most step bs start=zY (f,rows):=Kp h zO most zO
def Px{n:Nat}(h:Bl most step bs start (n+1)=zV)(a:n<most):DZ most step bs start=zV:=Vt h most a
end
section
variable{α:Type}{T:Ty α}{te:x_}{nb:Nat}{vs:List v_}{xs:List (List α)}
def gL{tt ty q by_ f:Nat}{a:Option Addr}{x:List α}{y:α}(m:D_ B H0 H ps)(i:Nat)(w:SlT P tt e T.size by_ z)(p:ps[i]?=zY (pT T e te nb vs xs))(r:vs[t]?=zY (.slice a n cap))(A:xs[t]?=zY x)(hd:AO H q 0 ds) (C:T.rep none_ H ds y) (D:ds.all (·.oneCell')=zW) (j:x.length+1<=34359738368) (hby:by_<=1024)(k:∀a' c H1,Mid T B H0 H H1 ps i e te nb vs xs t (.slice a' (x.length+1) c) (x++[y])->A_ (λk=>k<H.size/\¬R_ (.slice a n cap) k) H H1->K (.slice a' (x.length+1) c) H1):Bu P (Builtin.append_ #[tt,tt] ty [.slice a n cap,.slice (k_ q) 1 f].toArray) H K:=by have tab:=m.tab i p;have g:=tab.own t _ _ r A;refine C8 (T:=T) (S:=none_) (lo:=nb+1) (ys:=[y]) w g tab.blk.lt (λk E=>E.elim) hd (Ty.reps_one C) rfl (λu F=>xJ.1 D u F) (by unfold maxLen;simp only[g_];omega) (by have:=rW j hby;simp only[g_];omega) ?_;intro G H1 b d l h;obtain⟨a',c,rfl⟩:=b.hull;rw[M_,g_]at b h ⊢;exact k a' c H1 ⟨m,p,b,⟨_,r,d,h⟩,l⟩ d
def D_.rowNe(b:D_ B H0 H ps)(i:Nat)(c:ps[i]?=zY (pT T e te nb vs xs)){v:v_}{x:List α}(d:vs[t]?=zY v)(f:xs[t]?=zY x):¬R_ v nb:=λh=>by
 have a:=(b.tab i c).own t _ _ d f;have:=(a.lt h).1;omega
end
section
variable{β:Type}
def xL(n:Nat)(key:U'->Option (Nat×β))(l:List U'):List (List β):=(ApW n).map λq=>l.filterMap λe=>(key e).bind λp=>if p.1=q then zY p.2 else zV
def Da(n:Nat)(a:U'->Option (Nat×β))(l:List U'):(xL n a l).length=n:=by simp[xL]
def Hv{q:Nat}(a:U'->Option (Nat×β))(l:List U')(h:q<n):(xL n a l)[q]?=zY (l.filterMap λe=>(a e).bind λp=>if p.1=q then zY p.2 else zV):=by unfold xL;rw[I',List.getElem?_range h];rfl
def QX(n:Nat)(a:U'->Option (Nat×β)):xL n a []=Aq6 n []:=by unfold xL;simp[List.map_const']
def F7{a:U'->Option (Nat×β)}{l:List U'}{e:U'}(h:a e=zV):xL n a (l++[e])=xL n a l:=by unfold xL;refine sO λq _=>?_;rw[dJ];simp[h]
def NL{q:Nat}{a:U'->Option (Nat×β)}{l:List U'}{e:U'}{y:β}{row:List β}(h:a e=zY (q,y))(c:(xL n a l)[q]?=zY row):xL n a (l++[e])=(xL n a l).set q (row++[y]):=by
 have f:q<n:=by have:=(P_.1 c).1;rwa [Da]at this
 rw[Hv a l f]at c;injection c with c;apply List.ext_getElem?;intro j;by_cases d:j<n;{rw[Hv a _ d,dJ,List.getElem?_set,Da,Hv a _ d];by_cases b:q=j;{subst b;rw[H_ rfl,H_ d,<-c];simp[h]};rw[G_ b];simp[h,b]};rw[yR (by rw[Da];omega),yR (by rw[wM,Da];omega)]
end
def EK(a:O_):Nat:=if 0<=a.st/\a.st<=65536 then a.st.toNat else 0
def Ry(a:O_):EK a<=65536:=by unfold EK;split<;>omega
def S6(a:O_)(q:Int):a.has q=(zT (0<=q)&&zT (q<(EK a:Int))):=by rw[Bool.eq_iff_iff,O_.has_iff];unfold EK;simp only[o_,yL];split<;>omega
def wU(a:O_)(e:U'):Bool:=a.has e.fr&&a.has e.to
def yY(a:O_)(e:U'):Option (Nat×Int):=if wU a e&&e.sil then zY (e.fr.toNat,e.to)else zV
def Kg(a:O_)(e:U'):Option (Nat×U'):=if wU a e&& !e.sil then zY (e.fr.toNat,e)else zV
def lJ(a:O_):List (List Int):=xL (EK a) (yY a) a.edges
def OL(a:O_):List (List U'):=xL (EK a) (Kg a) a.edges
abbrev cF:x_:=275
def sX(sv tv:v_)(n:Nat):List v_:=[sv,tv,B_ n]
def MB(S:Nat->Prop)(H:Aa)(v:v_)(a:O_):Prop:=∃nb sa sc ta tc,v= J_ nb/\S nb/\AO H nb 0 (sX (.slice sa (EK a) sc) (.slice ta (EK a) tc) (EK a))/\c_ (xR zF) S H sa sc (lJ a)/\c_ (xR yB) S H ta tc (OL a)
def MB.frame{H':Aa}{v:v_}(h:MB S H v a)(k:A_ S H H'):MB S H' v a:=by have⟨nb,sa,sc,c,d,e,b,f,g,j⟩:=h;exact⟨nb,sa,sc,c,d,e,b,f.eq (k nb b),g.frame k,j.frame k⟩
def MB.mono{S':Nat->Prop}{v:v_}(h:MB S H v a)(k:∀i,S i->S' i):MB S' H v a:=by have⟨nb,sa,sc,b,c,d,e,f,g,j⟩:=h;exact⟨nb,sa,sc,b,c,d,k _ e,f,g.mono k,j.mono k⟩
def Vd{nb:Nat}{d e:v_}(h:AO H nb 0 (sX d e (EK a))):AT prog 137 #[J_ nb,B_ q] H (.bool (a.has q)):=by refine Am.of_vc func137 rfl (call137 _) ?_;by_cases c:0<=q;{have b:zT ((0:Int)<=q)=zW:=a_ c;(conv=>whnf);rw[b];refine fa ?_;refine lT (v:=B_ (EK a:Int)) (h 2 _ rfl) ?_;(conv=>whnf);exact⟨by rw[S6,b,sI],A_.refl _ _⟩};have b:zT ((0:Int)<=q)=zU:=b_ c;(conv=>whnf);rw[b];(conv=>whnf);exact⟨by rw[S6,b,vX],A_.refl _ _⟩
def jO:(prog.info? 275).bind (·.zero)=zY (.agg #[.slice zV 0 0,.slice zV 0 0,B_ 0]):=rfl
def AfI{v:v_}(hS:∀k,S k->k<H.size)(h:sZ S H v a):Am prog 136 #[v] H λr H'=>A_ (F_ H) H H'/\MB (F_ H') H' r a:=by have hr:=h.1;have hl:=h.2.1;refine Am.of_vc func136 rfl (call136 _) (Ru h λea ec ao h1=>?_);subst ao;intro p H1 hp ap aq au;have st1:=(St.nil H).box hp ap aq au;refine Ad underlying275 rfl _ jO (sX (.slice zV 0 0) (.slice zV 0 0) 0) rfl (Ec st1 (sX (.slice zV 0 0) (.slice zV 0 0) 0) rfl λnb H2 K=>?_);have a0:=Ry a;obtain⟨n,T⟩:∃n,n=EK a:=⟨_,rfl⟩;rw[<-T]at a0;have U:=K.blk 0 rfl;have A:∀c:Bool,c=(zT ((0:Int)<=a.st)&&zT (a.st<=65536))->(c=zW->(n:Int)=a.st)/\(c=zU->n=0):=by{intro c hc;rw[hc,T];unfold EK;constructor;{intro h;simp only[o_,yL]at h;rw[H_ h];omega};intro h;rw[G_ λh2=>by simp[h2.1,h2.2]at h]};(conv=>whnf);refine AC.cut (α:=Unit) [] (λ_=>[]) (λ_ H3=>St H H3 [pB 225 p (yG a (.slice ea a.edges.length ec)),pB cF nb (sX (.slice zV 0 0) (.slice zV 0 0) n)]) ?_ ?_;{refine fa ?_;refine lT (U.cellE rfl) ?_;by_cases h0:0<=a.st;{have d0:zT ((0:Int)<=a.st)=zW:=a_ h0;(conv=>whnf);rw[d0];refine fa ?_;refine lT (U.cellE rfl) ?_;by_cases h6:a.st<=65536;{have d6:zT (a.st<=(65536:Int))=zW:=a_ h6;have aw:(n:Int)=a.st:=(A zW (by rw[d0,d6];rfl)).1 rfl;(conv=>whnf);rw[d6];refine fa ?_;refine C_ (U.cellE rfl) zA (fa ?_);refine Bc K 1 rfl (zQ:2<3) rfl λH3 L=>(⟨rfl,(),rfl,?_⟩);unfold sX;rw[aw];exact L};have d6:zT (a.st<=(65536:Int))=zU:=b_ h6;obtain rfl:n=0:=(A zU (by rw[d0,d6];rfl)).2 rfl;(conv=>whnf);rw[d6];(conv=>whnf);exact⟨rfl,(),rfl,K⟩};have d0:zT ((0:Int)<=a.st)=zU:=b_ h0;obtain rfl:n=0:=(A zU (by rw[d0];rfl)).2 rfl;(conv=>whnf);rw[d0];(conv=>whnf);exact⟨rfl,(),rfl,K⟩};rintro⟨⟩ H3 ay L;refine fa ?_;refine C_ ((L.blk 1 rfl).cellE rfl) zA (EV CS rfl zO zO zO zO ?_);intro V H4 az b0 a8 b4;rw[zG]at a8 ⊢;have b5:=L.tabNew zF 3 az b0 a8 b4;refine fa ?_;refine Bc b5 1 rfl (zQ:0<3) rfl λH5 a9=>(fa ?_);refine C_ ((a9.blk 1 rfl).cellE rfl) zA (EV TI rfl zO zO zO zO ?_);intro tb H6 b7 b8 ab b9;rw[zG]at ab ⊢;have bd:=a9.tabNew yB 277 b7 b8 ab b9;refine fa ?_;refine Bc bd 1 rfl (zQ:1<3) rfl λH7 ad=>?_;have be:=ad.blk 0 rfl;refine fa ?_;refine lT (be.cellE rfl) ?_;(conv=>whnf);refine AD.mk [40] (λi:Nat=>[B_ i]) (λi H8=>i<=a.edges.length/\∃vs vt,St H H8 [pB 225 p (yG a (.slice ea a.edges.length ec)),pB cF nb (sX (.slice (k_ V) n n) (.slice (k_ tb) n n) n),pT zF 3 181 V vs (xL n (yY a) (a.edges.take i)),pT yB 277 223 tb vt (xL n (Kg a) (a.edges.take i))]) (λi _=>a.edges.length-i) ?_ ?_;{(conv=>whnf);refine⟨0,rfl,V_ _,Aq6 n (.slice zV 0 0),Aq6 n (.slice zV 0 0),?_⟩;rw[nT,QX,QX];exact ad};rintro i H8 bf ⟨hi,vs,vt,q⟩;refine Av.m2 (λhz=>?_) (λhz=>?_);{have⟨e,he⟩:=Ai (l:=a.edges) (k:=i) zO;refine AC.run (zP (i:=i) EO (h1.frame (q.old.mono hS)) he rfl ?_);rintro b6 o6 c6 bo bh ⟨rfl,ae⟩;refine K_ (cs:=zN e) bh zA (Aq _ [B_ 0,B_ 0,.bool zU,.int .u64 0,.int .u64 0,.int .u64 0,.int .u64 0] JZ rfl ?_);intro x H9 hx ah ai aj;have P:=q.box hx ah ai aj;refine AB (cs:=zN e) P 4 rfl rfl (I_ _) rfl λH10 Q=>?_;rw[AA (show(zN e).length=7 from rfl)]at Q;clear P ah ai aj;obtain⟨H9,rfl⟩:∃H9,H9=H10:=⟨_,rfl⟩;have M:=Q;have hX:=M.blk 4 rfl;have z:AO H9 nb 0 (sX (.slice (k_ V) n n) (.slice (k_ tb) n n) (EK a)):=by{rw[<-T];exact(M.blk 1 rfl).cells λj v N=>by rw[N_];exact N};refine fa ?_;refine C_ (hX.cellE rfl) zA (Af (Vd z) λH14 R=>?_);have B:=M.call R;cases J:a.has e.fr with|false=>have k1:yY a e=zV:=by{unfold yY wU;rw[J,vX,vX];rfl};have k2:Kg a e=zV:=by{unfold Kg wU;rw[J,vX,vX];rfl};have g1:=F7 (n:=n) (l:=a.edges.take i) k1;have g2:=F7 (n:=n) (l:=a.edges.take i) k2;rw[<-Aj he]at g1 g2;(conv=>whnf);rw[S_ i zO];refine⟨rfl,i+1,zZ,⟨zO,vs,vt,?_⟩,zO⟩;rw[g1,g2];exact B.pick [0,1,2,3] zQ|true=>{refine fa ?_;refine C_ ((B.blk 4 rfl).cellE rfl) zA (Af (Vd (z.eq (R nb (M.in_ 1 rfl rfl).2))) λHq ak=>?_);have d:=B.call ak;cases ht:a.has e.to with|false=>have k1:yY a e=zV:=by{unfold yY wU;rw[J,ht,lW,vX];rfl};have k2:Kg a e=zV:=by{unfold Kg wU;rw[J,ht,lW,vX];rfl};have g1:=F7 (n:=n) (l:=a.edges.take i) k1;have g2:=F7 (n:=n) (l:=a.edges.take i) k2;rw[<-Aj he]at g1 g2;(conv=>whnf);rw[S_ i zO];refine⟨rfl,i+1,zZ,⟨zO,vs,vt,?_⟩,zO⟩;rw[g1,g2];exact d.pick [0,1,2,3] zQ|true=>{have bp:=O_.has_iff.1 J;have bq:0<=e.fr/\e.fr<(n:Int):=by{have:=S6 a e.fr;rw[J,<-T]at this;simpa using this.symm};have br:e.fr.toNat<n:=zO;refine fa ?_;refine lT ((d.blk 4 rfl).cellE rfl) ?_;cases O:e.sil with|true=>{(conv=>whnf);have⟨row,b⟩:=Ai (l:=xL n (yY a) (a.edges.take i)) (k:=e.fr.toNat) (by rw[Da];omega);have bj:row.length<=i:=by{rw[Hv _ _ (zO:e.fr.toNat<n)]at b;injection b with b;rw[<-b];exact V' (nM _ _) (eN _ _)};obtain⟨ra,rc,m,-⟩:=d.row 2 rfl b;have W:=d.rowNe 2 rfl m b;have t:∀k,R_ (.slice ra row.length rc) k->(pT zF 3 181 V vs (xL n (yY a) (a.edges.take i))).foot k:=λk u=>.inr ⟨e.fr.toNat,_,m,u⟩;have d1:=d.apart2 (i:=1) (j:=2) rfl rfl zQ;have d4:=d.apart2 (i:=4) (j:=2) rfl rfl zQ;have qn:nb<Hq.size/\¬R_ (.slice ra row.length rc) nb:=⟨(d.in_ 1 rfl rfl).2,λh=>d1 nb rfl (t nb h)⟩;have X:x<Hq.size/\¬R_ (.slice ra row.length rc) x:=⟨(d.in_ 4 rfl rfl).2,λh=>d4 x rfl (t x h)⟩;have qt:V<Hq.size/\¬R_ (.slice ra row.length rc) V:=⟨(d.in_ 2 rfl (.inl rfl)).2,W⟩;have C:=d.blk 1 rfl;have w:=d.blk 4 rfl;refine Ap.heldZ (λk=>k<Hq.size/\¬R_ (.slice ra row.length rc) k) [19] (sq [0,1,2,3,4,5,6,7,8,9,10,11,12,13,14,15] (.f 16 (.f 17 (sq [18] (.f 19 .e))))) rfl zX (fa ?_);refine C_ (C.cellE rfl) qn (fa ?_);refine C_ (w.cellE rfl) X (fa ?_);refine C_ (C.cellE rfl) qn (fa ?_);refine C_ (w.cellE rfl) X (ix CS zO zO (C_ (d.tcell 2 rfl m (by rw[N_,yW])) qt (fa ?_)));refine C_ (w.cellE rfl) X (Az AQ [B_ e.to] rfl rfl zQ zQ ?_);intro bn H11 D am E g;have F:=d.skip D g;refine⟨g.mono λk u=>by have:=u.1;omega,?_⟩;refine gL (ds:=[B_ e.to]) (y:=e.to) F 2 AQ rfl m b (E.cells λj v N=>by rw[N_];exact N) ⟨rfl,ae.2⟩ rfl zO zQ λwa wc H12 mid G=>?_;refine⟨(g.mono λk u=>by have:=u.1;omega).trans (G.mono λk u=>⟨by have:=u.1;omega,u.2⟩),?_⟩;refine ix CS zO zO (jY mid (by rw[N_,yW]) λH13 I=>?_);have Y:yY a e=zY (e.fr.toNat,e.to):=by{unfold yY wU;rw[J,ht,O];rfl};have Z:Kg a e=zV:=by{unfold Kg wU;rw[J,ht,O];rfl};have g1:=NL Y b;have g2:=F7 (n:=n) (l:=a.edges.take i) Z;rw[<-Aj he]at g1 g2;(conv=>whnf);rw[S_ i zO];refine⟨rfl,i+1,zZ,⟨zO,vs.set e.fr.toNat (.slice wa (row.length+1) wc),vt,?_⟩,zO⟩;rw[g1,g2];exact I.pick [0,1,2,3] zQ}|false=>{(conv=>whnf);have⟨row,b⟩:=Ai (l:=xL n (Kg a) (a.edges.take i)) (k:=e.fr.toNat) (by rw[Da];omega);have bj:row.length<=i:=by{rw[Hv _ _ (zO:e.fr.toNat<n)]at b;injection b with b;rw[<-b];exact V' (nM _ _) (eN _ _)};obtain⟨ra,rc,m,-⟩:=d.row 3 rfl b;have W:=d.rowNe 3 rfl m b;have t:∀k,R_ (.slice ra row.length rc) k->(pT yB 277 223 tb vt (xL n (Kg a) (a.edges.take i))).foot k:=λk u=>.inr ⟨e.fr.toNat,_,m,u⟩;have d1:=d.apart2 (i:=1) (j:=3) rfl rfl zQ;have d4:=d.apart2 (i:=4) (j:=3) rfl rfl zQ;have qn:nb<Hq.size/\¬R_ (.slice ra row.length rc) nb:=⟨(d.in_ 1 rfl rfl).2,λh=>d1 nb rfl (t nb h)⟩;have X:x<Hq.size/\¬R_ (.slice ra row.length rc) x:=⟨(d.in_ 4 rfl rfl).2,λh=>d4 x rfl (t x h)⟩;have qt:tb<Hq.size/\¬R_ (.slice ra row.length rc) tb:=⟨(d.in_ 3 rfl (.inl rfl)).2,W⟩;have C:=d.blk 1 rfl;have w:=d.blk 4 rfl;refine Ap.heldZ (λk=>k<Hq.size/\¬R_ (.slice ra row.length rc) k) [18] (sq [0,1,2,3,4,5,6,7,8,9,10,11,12,13,14] (.f 15 (.f 16 (sq [17] (.f 18 .e))))) rfl zX (fa ?_);refine C_ (C.cellE rfl) qn (fa ?_);refine C_ (w.cellE rfl) X (fa ?_);refine C_ (C.cellE rfl) qn (fa ?_);refine C_ (w.cellE rfl) X (ix TI zO zO (C_ (d.tcell 3 rfl m (by rw[N_,yW])) qt ?_));refine K_ (cs:=zN e) (w.cells λj v N=>by rw[N_];exact N) X ?_;refine Az EO (zN e) rfl rfl zQ zQ ?_;intro bn H11 D am E g;have F:=d.skip D g;refine⟨g.mono λk u=>by have:=u.1;omega,?_⟩;refine gL (ds:=zN e) (y:=e) F 3 EO rfl m b (E.cells λj v N=>by rw[N_];exact N) ⟨rfl,ae⟩ (Jf e) zO zQ λwa wc H12 mid G=>?_;refine⟨(g.mono λk u=>by have:=u.1;omega).trans (G.mono λk u=>⟨by have:=u.1;omega,u.2⟩),?_⟩;refine ix TI zO zO (jY mid (by rw[N_,yW]) λH13 I=>?_);have Y:Kg a e=zY (e.fr.toNat,e):=by{unfold Kg wU;rw[J,ht,O];rfl};have Z:yY a e=zV:=by{unfold yY wU;rw[J,ht,O];rfl};have g1:=NL Y b;have g2:=F7 (n:=n) (l:=a.edges.take i) Z;rw[<-Aj he]at g1 g2;(conv=>whnf);rw[S_ i zO];refine⟨rfl,i+1,zZ,⟨zO,vs,vt.set e.fr.toNat (.slice wa (row.length+1) wc),?_⟩,zO⟩;rw[g1,g2];exact I.pick [0,1,2,3] zQ}}}};obtain rfl:i=a.edges.length:=zO;rw[yH]at q;(conv=>whnf);refine⟨q.old,nb,zY ⟨V,0,zV⟩,n,zY ⟨tb,0,zV⟩,n,rfl,(q.in_ 1 rfl rfl).2,?_,?_,?_⟩;{rw[<-T];exact(q.blk 1 rfl).cells λj v N=>by rw[N_];exact N};{have:=q.tview 2 rfl (by rw[Da];unfold maxLen;omega);unfold lJ;rw[<-T];rw[Da]at this;exact this};have:=q.tview 3 rfl (by rw[Da];unfold maxLen;omega);unfold OL;rw[<-T];rw[Da]at this;exact this
def Pr{S:Nat->Prop}{H:Aa}:∀xs:List Bool,Cu.reps S H (xs.map Value.bool) xs | []=>rfl | x::xs=>⟨[.bool x],xs.map Value.bool,rfl,rfl,Pr xs⟩
abbrev tI:Ty Int:=Dc .i64
abbrev M4:Ty (List Int):=xR tI
def AfP(ca na fa:Option Addr)(cc nc fc I:Nat)(cells:List (BitVec 256))(next:List (List Int))(S:Nat->Prop)(H:Aa)(hS:∀k,S k->k<H.size)(hc:c_ Co S H ca cc cells) (hn:c_ M4 S H na nc next) (aj:I<=9223372036854775807):AT prog 187 #[.slice ca cells.length cc,.slice na next.length nc,.slice fa I fc] H (.bool (Bt cells next I)):=by
 have lc:=hc.le;have ln:=hn.le;unfold maxLen at lc ln;refine Am.of_vc func187 rfl (call187 _) (Aq (AX 0) (Ag 0) rfl rfl ?_);intro p H1 hp ak Q R;(conv=>whnf);refine AD.mk [16] (λk:Nat=>[B_ k]) (λk H2=>k<=cells.length/\A_ (F_ H) H H2/\p<H2.size/\∃all,D1 0#256 (cells.take k)=zY all/\L_ H2 p 65 (Ag all)) (λk _=>cells.length-k) ?_ ?_;{(conv=>whnf);exact⟨0,rfl,zO,R.mono (λk t=>by unfold F_ at t;omega),zO,0,rfl,Q⟩};rintro k H2 ah ⟨t,C,T,all,f,K⟩;(conv=>whnf);refine Av.m2 (λh=>?_) (λh=>?_);{have⟨c,D⟩:=Ai (l:=cells) (k:=k) zO;refine zP Cj (hc.frame (C.mono hS)) D rfl ?_;rintro b o cs U g rfl;refine K_ (cs:=Ag c) g zA (Aq (AX 0) (Ag 0) rfl rfl ?_);intro q H3 O am V L;refine wG rfl V (zQ:0+4<=4) rfl ?_;intro H4 W M ao;have z:L_ H4 q 65 (Ag c):=W;have A:L_ H4 p 65 (Ag all):=(K.agr L (zO:p<q)).agr M (zO:p≠q);refine K_ (cs:=Ag all) (A.cells (λj v w=>by simpa using w)) zA (K_ (cs:=Ag c) (z.cells (λj v w=>by simpa using w)) zA (Af (UY all c H4) ?_));intro H5 a;refine Em De (AX 0) rfl (Ag 0) rfl (No (all &&& c) 0#256 ?_);have hA:A_ (F_ H) H H5:=(C.trans ((L.mono (λk t=>by unfold F_ at t;omega)).trans (M.mono (λk t=>by unfold F_ at t;omega)))).trans (a.mono (λk t=>by unfold F_ at*;omega));by_cases P:all &&& c=0#256;{rw[show zT (all &&& c=0#256)=zW by simpa using P];have E:=A.agr a (zO:p<H4.size);have N:=z.agr a (zO:q<H4.size);refine K_ (cs:=Ag all) (E.cells (λj v w=>by simpa using w)) zA (K_ (cs:=Ag c) (N.cells (λj v w=>by simpa using w)) zA (Af (Jv all c H5) ?_));intro H6 F;refine wG rfl (E.agr F E.lt) (zQ:0+4<=4) rfl ?_;intro H7 X Y ap;(conv=>whnf);rw[S_ k zO];have aq:=Ay F;have au:=Ay a;refine⟨rfl,k+1,zZ,⟨zO,?_,zO,all ||| c,?_,X⟩,zO⟩;{exact(hA.trans (F.mono (λk t=>by unfold F_ at*;omega))).trans (Y.mono (λk t=>by unfold F_ at t;omega))};rw[Aj D,Mf f,H_ P]};rw[show zT (all &&& c=0#256)=zU by simpa using P];(conv=>whnf);refine⟨?_,hA⟩;have:D1 0#256 cells=zV:=by{rw[<-rE (k+1) cells,JE,Aj D,Mf f,G_ P]<;>rfl};simp[Bt,this]};have Z:k=cells.length:=zO;subst Z;rw[yH]at f;(conv=>whnf);refine Ap.quiet (F_ H2) rfl zX ?_;have d:∀{H':Aa},A_ (F_ H2) H2 H'->A_ (λk=>k<H.size) H H':=λh=>C.trans (h.mono (λk t=>by unfold F_ at*;omega));refine K_ (cs:=Ag all) (K.cells (λj v w=>by simpa using w)) T (Ei (λH' _=>GF 0 255 zQ zQ H') (No all (AR 0 255) ?_));rw[Ks];refine Av.mk (λJ=>?_) (λJ=>?_)<;>simp only[wD,Bool.not_eq_false',yL,qC]at J;{
 (conv=>whnf);intro H5 a;(conv=>whnf)
 exact⟨by
  have e:(all==ApZ 256)=zU:=beq_eq_false_iff_ne.2 J;rw[Bt,f];simp only[e,vX],d a⟩};refine Av.m2 (λh2=>?_) (λh2=>?_);{(conv=>whnf);intro H5 a;(conv=>whnf);exact⟨by simp[Bt,f,show¬1<=next.length by omega],d a⟩};refine Av.m2 (λh3=>?_) (λh3=>?_);{(conv=>whnf);intro H5 a;(conv=>whnf);exact⟨by simp[Bt,f,show¬next.length<=65536 by omega],d a⟩};(conv=>whnf);intro H5 a;refine Av.mk (λh4=>?_) (λh4=>?_)<;>simp only[bne_iff_ne,ne_eq,bne_eq_false_iff_eq]at h4;{(conv=>whnf);exact⟨by simp[Bt,f,show¬next.length=I by omega],d a⟩};have a0:next.length=I:=zO
 have y:Bt cells next I=next.all (GZ next.length cells.length):=by{have e:(all==ApZ 256)=zW:=beq_iff_eq.2 J;rw[Bt,f];simp only[e,a_ (zO:1<=next.length),a_ (zO:next.length<=65536),beq_iff_eq.2 a0,Bool.and_self,sI]}
 rw[y];have G:∀{k:Nat} {row:List Int},next[k]?=zY row->GZ next.length cells.length row=zU->next.all (GZ next.length cells.length)=zU:=by{intro k row J h2;rw[kS];exact⟨row,Y_ J,by simp[h2]⟩}
 have a8:=hn.frame ((d a).mono hS);(conv=>whnf);refine AD.mk [51] (λk:Nat=>[B_ k]) (λk H'=>H'=H5/\k<=next.length/\(next.take k).all (GZ next.length cells.length)=zW) (λk _=>next.length-k) ?_ ?_;{(conv=>whnf);exact⟨0,rfl,rfl,zO,rfl⟩};rintro k H6 a9 ⟨rfl,aw,n⟩;(conv=>whnf);refine Av.m2 (λh=>?_) (λh=>?_);{
 have⟨row,m⟩:=Ai (l:=next) (k:=k) zO;refine zP CS a8 m rfl ?_;rintro b o cs U g ⟨ra,rc,rfl,hr⟩;have lr:=hr.le;unfold maxLen at lr;refine lT g.one ?_;refine Av.mk (λh5=>?_) (λh5=>?_)<;>simp only[bne_iff_ne,ne_eq,bne_eq_false_iff_eq]at h5;{(conv=>whnf);exact⟨by rw[G m (by simp[GZ];intro h;omega)],d a⟩};(conv=>whnf);refine AD.mk [62] (λj:Nat=>[B_ j]) (λj H'=>H'=H6/\j<=row.length/\(row.take j).all (λq=>zT (0<=q)&&zT (q<(next.length:Int)))=zW) (λj _=>row.length-j) ?_ ?_;{(conv=>whnf);exact⟨0,rfl,rfl,zO,rfl⟩};rintro j H7 ab ⟨rfl,hj,r⟩;(conv=>whnf);refine Av.m2 (λh=>?_) (λh=>?_);{
 have⟨q,O⟩:=Ai (l:=row) (k:=j) zO;have B:¬(0<=q/\q<(next.length:Int))->GZ next.length cells.length row=zU:=by{intro hb;have:(row.all λq=>zT (0<=q)&&zT (q<(next.length:Int)))=zU:=by{rw[kS];exact⟨q,Y_ O,by simpa using hb⟩};simp only[GZ,this,lW]}
 refine zP AQ hr O rfl ?_;rintro b2 o2 ay ai u ⟨rfl,az⟩;refine lT u.one ?_;refine Av.m2 (λh6=>?_) (λh6=>?_);{(conv=>whnf);exact⟨by rw[G m (B zO)],d a⟩};refine Av.m2 (λh7=>?_) (λh7=>?_);{(conv=>whnf);exact⟨by rw[G m (B zO)],d a⟩};(conv=>whnf);rw[S_ j zO];refine⟨rfl,j+1,zZ,⟨rfl,zO,?_⟩,zO⟩;rw[Aj O,kT,r];simp;omega};have ad:j=row.length:=zO;subst ad;rw[yH]at r;(conv=>whnf);rw[S_ k zO];refine⟨rfl,k+1,zZ,⟨rfl,zO,?_⟩,zO⟩;rw[Aj m,kT,n];simp only[List.all_cons,List.all_nil,Bool.and_true,sI,GZ,r,beq_iff_eq];omega};have ae:k=next.length:=zO
 subst ae;rw[yH]at n;(conv=>whnf);exact⟨by rw[n],d a⟩
def aD(t:Option Addr)(u c d m:Nat)(next:List (List Int))(S:Nat->Prop)(H:Aa)(w:c_ M4 S H t u next)(F:∀row∈next,row.length=m)(M:c<m)(hd:d<m)(z:m<=9223372036854775807):AT prog 211 #[.slice t next.length u,B_ c,B_ d] H (.bool (Ey next c d)):=by
 have ln:=w.le;unfold maxLen at ln;refine Am.of_vc func211 rfl (call211 _) ?_;refine Av.mk (λh=>?_) (λh=>?_)<;>simp only[beq_iff_eq,beq_eq_false_iff_ne,Int.natCast_inj,ne_eq]at h;{(conv=>whnf);exact⟨by simp[Ey,h],A_.refl _ _⟩};have n:(c==d)=zU:=by simpa using h
 (conv=>whnf);refine AD.mk [14] (λk:Nat=>[B_ k]) (λk H'=>H'=H/\k<=next.length/\(next.take k).all (λrow=>row[c]?==row[d]?)=zW) (λk _=>next.length-k) ?_ ?_;{(conv=>whnf);exact⟨0,rfl,rfl,zO,rfl⟩};rintro k H1 A ⟨rfl,N,e⟩;refine Av.m2 (λh=>?_) (λh=>?_);{have⟨row,a⟩:=Ai (l:=next) (k:=k) zO;have B:=F row (Y_ a);refine zP CS w a rfl ?_;rintro b o O G j ⟨ra,rc,rfl,C⟩;refine C_ j.one zA (Ap.lex rfl zX ?_);have⟨x,p⟩:=Ai (l:=row) (k:=c) zO;have⟨y,q⟩:=Ai (l:=row) (k:=d) zO;refine zP AQ C p rfl ?_;rintro P Q I D f ⟨rfl,J⟩;refine C_ f.one zA (zP AQ C q rfl ?_);rintro R T K E g ⟨rfl,L⟩;refine lT g.one ?_;refine Av.mk (λh=>?_) (λh=>?_)<;>simp only[bne_iff_ne,ne_eq,bne_eq_false_iff_eq]at h;{(conv=>whnf);refine⟨?_,A_.refl _ _⟩;have:(next.all λrow=>row[c]?==row[d]?)=zU:=by{rw[kS];exact⟨row,Y_ a,by simp[p,q,h]⟩};simp only[Ey,n,this,Bool.or_false]};(conv=>whnf);rw[S_ k zO];refine⟨rfl,k+1,zZ,⟨rfl,zO,?_⟩,zO⟩;rw[Aj a,kT,e];simp[p,q,h]};have r:k=next.length:=zO
 subst r;rw[yH]at e;(conv=>whnf);exact⟨by simp only[Ey,n,e,eI],A_.refl _ _⟩
def BT(cv:v_)(cell:List Nat)(nv fv av:v_):List v_:=cv::(cell.map (λn:Nat=>Value.int .u8 (n:Int))++Aq6 (256-cell.length) (.int .u8 0))++[nv,fv,av]
def IX{cell:List Nat}(h:cell.length<=256):(BT cv cell nv fv av).length=260:=by simp[BT];omega
def MO{cell:List Nat}:(BT cv cell nv fv av)[0]?=zY cv:=by simp[BT]
def Ul{x:v_}{cell:List Nat}:(BT cv cell nv fv av).set 0 x=BT x cell nv fv av:=by simp[BT]
section
variable{cell:List Nat}
def Lq(h:cell.length<=256)(j:Nat):(BT cv cell nv fv av)[257+j]?=[nv,fv,av][j]? :=by unfold BT;rw[qZ,(zO:257+j=(256+j)+1),nI,y' (by simp;omega)];congr 1;simp;omega
def Fm(h:cell.length<=256):(BT cv cell nv fv av)[257]?=zY nv:=Lq h 0
def Lo(h:cell.length<=256):(BT cv cell nv fv av)[258]?=zY fv:=Lq h 1
def Lp(h:cell.length<=256):(BT cv cell nv fv av)[259]?=zY av:=Lq h 2
end
section
variable{x:v_}{cell:List Nat}
def N8(h:cell.length<=256)(j:Nat):(BT cv cell nv fv av).set (257+j) x=cv::(cell.map (λn:Nat=>Value.int .u8 (n:Int))++Aq6 (256-cell.length) (.int .u8 0))++[nv,fv,av].set j x:=by
 unfold BT;rw[qZ,(zO:257+j=(256+j)+1),kR,dK (h:=by simp;omega)];have e:256+j-(List.map (λn:Nat=>Value.int .u8 (n:Int)) cell++Aq6 (256-cell.length) (Value.int .u8 0)).length=j:=by simp;omega
 rw[e];rfl
def Q5(h:cell.length<=256):(BT cv cell nv fv av).set 257 x=BT cv cell x fv av:=N8 h 0
def Q6(h:cell.length<=256):(BT cv cell nv fv av).set 259 x=BT cv cell nv fv x:=N8 h 2
end
def Uk{cell:List Nat}(h:cell.length<256)(p:Nat):(BT cv cell nv fv av).set (1+cell.length) (.int .u8 (p:Int))=BT cv (cell++[p]) nv fv av:=by unfold BT;rw[qZ,(zO:1+cell.length=cell.length+1),kR,yP,dK (h:=zZ)];have e:cell.length-(List.map (λn:Nat=>Value.int .u8 (n:Int)) cell).length=0:=zZ;rw[e,(zO:256-cell.length=(256-(cell.length+1))+1),List.replicate_succ];simp
def FG(cols:List Nat)(row:List Int):List Int:=cols.map λc=>row.getD c 0
def AeN(pb:Nat)(fv av:v_)(ca na:Option Addr)(cc nc:Nat)(cells:List (BitVec 256))(next:List (List Int))(fl:Nat)(S:Nat->Prop)(H:Aa)(hS:∀k,S k->k<H.size/\k≠pb)(hb:L_ H pb 247 (BT (.slice zV 0 0) [] (.slice zV 0 0) fv av)) (hc:c_ Co S H ca cc cells) (hn:c_ M4 S H na nc next) (hs:Bt cells next fl=zW):Am prog 188 #[J_ pb,.slice ca cells.length cc,.slice na next.length nc] H λv H'=> let d:=Bh next cells (λb=>AR b b) 256
   A_ (λk=>k<H.size/\k≠pb) H H'/\H.size<=H'.size/\∃ac N an c9,L_ H' pb 247 (BT (.slice ac d.sets.length N) d.cell (.slice an next.length c9) fv av)/\
    c_ Co (λk=>H.size<=k/\k<H'.size) H' ac N d.sets/\c_ M4 (λk=>H.size<=k/\k<H'.size) H' an c9 (next.map (FG d.cols)):=by
 have lc:=hc.le;have ln:=hn.le;unfold maxLen at lc ln;have⟨n1,n2,n3,ay⟩:=DU hs;refine Am.of_vc func188 rfl (call188 _) ?_;have fw:=hb.lt;generalize dw:(λb=>AR b b)=sp;have az:∀b,b<256->AW cells b<cells.length:=λb hb=>(BI hs hb).1;refine EV CS rfl zO zO zO zO ?_;intro nb H1 fx fy c2 d6;refine fa ?_;refine st1 (hb.agr d6 (zO:pb<nb)) (by rw[IX zZ];omega) rfl ?_;intro H2 d7 d8 fz;rw[N_,Q5 zZ]at d7;replace c2:=c2.agr d8 (zO:nb≠pb);rw[zG]at c2;have dx:A_ (λk=>k<H.size/\k≠pb) H H2:=(d6.mono λk a=>zO).trans (d8.mono λk a=>a.2);(conv=>whnf);refine AD.mk [6,22] (λx:Nat×v_=>[x.2,B_ x.1]) (λx H3=>x.1<=256/\A_ (λk=>k<H.size/\k≠pb) H H3/\H2.size<=H3.size/\
  h_ tI (λ_=>False) H3 (nb+1) 3 x.2 ((Bh next cells sp x.1).cols.map As1)/\L_ H3 nb 181 (Aq6 next.length (.slice zV 0 0))/\
  ∃cv,h_ Co (λ_=>False) H3 (nb+1) 65 cv (Bh next cells sp x.1).sets/\(∀k,R_ x.2 k->¬R_ cv k)/\
   L_ H3 pb 247 (BT cv (Bh next cells sp x.1).cell (.slice (k_ nb) next.length next.length) fv av)) (λx _=>256-x.1) ?_ ?_
 ·(conv=>whnf);exact⟨(0,_),rfl,zO,dx,I_ _,h_.nil,c2,_,h_.nil,(by rintro k ⟨o,n,c,h⟩;cases h),d7⟩
 ·rintro⟨b,v6⟩ H3 ew ⟨cp,c3,dy,g,aj,cv,C,ak,aq⟩;dsimp only at cp g C ak aq;obtain⟨ac,N,rfl,-,-⟩:=g.view (S':=λk=>R_ v6 k) (λk a=>a) (λk a=>a.elim);refine Av.m2 (λh=>?_) (λh=>?_)
  ·have w:=Ff (next:=next) (sp:=sp) az b zO;generalize d9:Bh next cells sp b=d at*
   have⟨da,cq⟩:=BI hs (b:=b) zO;(conv=>whnf);refine AD.mk [8] (λf:Nat=>[B_ f]) (λf H4=>A_ (F_ H3) H3 H4/\f<=AW cells b) (λf _=>cells.length-f) ?_ ?_
   ·(conv=>whnf);exact⟨0,rfl,A_.refl _ _,zO⟩
   ·rintro f H4 cr ⟨X,hf⟩;have c4:A_ (λk=>k<H.size/\k≠pb) H H4:=c3.trans (X.mono λk a=>by unfold F_;omega);have⟨c,ct⟩:=Ai (l:=cells) (k:=f) zO;refine zP Cj (hc.frame (c4.mono λk a=>hS k a)) ct rfl ?_;rintro b' o cs g3 c5 rfl;refine lN (cs:=Ag c) c5 ?_;(conv=>whnf);rw[w8 (x:=(b:Int)) zO zO];refine Af (P6 c b zO H4) ?_;intro H5 au;have ey:=Ay X;have Y:A_ (F_ H3) H3 H5:=X.trans (au.mono λk a=>by unfold F_ at*;omega);by_cases cd:f=AW cells b
    ·have b0:c.getLsbD b=zW:=cq c (cd ▸ ct);rw[b0];(conv=>whnf);subst cd;generalize dz:AW cells b=fr at*;have F:=g.agr Y (λk a=>(g.lt a).2) (λk a=>a.elim);have ez:=Ay Y;refine AC.cut [9] (λpl:Option Nat=>[B_ (match pl with | none=> -1 | some i=>(i:Int))]) (λpl H6=>pl=KM next d.cols fr/\A_ (F_ H5) H5 H6) ?_ ?_
     ·have⟨g4,e0,he,ab,db⟩:=F.view (S':=F_ H5) (λk a=>(F.lt a).2) (λk a=>a.elim);cases he;have dc:∀row∈next,row.length=cells.length:=λrow hr=>(ay row hr).1
      (conv=>whnf);refine AD.mk [9,37] (λk:Nat=>[B_ (-1),B_ k]) (λk H6=>A_ (F_ H5) H5 H6/\k<=d.cols.length/\(d.cols.take k).findIdx? (λc=>Ey next c fr)=zV) (λk _=>d.cols.length-k) ?_ ?_
      ·(conv=>whnf);exact⟨0,rfl,A_.refl _ _,zO,rfl⟩
      ·rintro k H6 b5 ⟨D,a,R⟩;have e3:=w.le;(conv=>whnf);rw[d_];refine Av.m2 (λh=>?_) (λh=>?_)
       ·have⟨c0,I⟩:=Ai (l:=d.cols) (k:=k) zO;have ce:=w.cols c0 (Y_ I);refine I2 (x:=(c0:Int)) AQ (ab.frame D) zZ (by simp[I]) rfl ?_;rintro b2 o2 e4 de J ⟨rfl,-⟩;refine lT J.one ?_;have e5:c_ M4 S H6 na nc next:=hn.frame ((c3.trans ((Y.trans (D.mono λk a=>by unfold F_ at*;omega)).mono λk a=>by unfold F_;omega)).mono λk a=>hS k a)
        refine Af (aD na nc c0 fr cells.length next S H6 e5 dc ce da zO) ?_;intro H7 Z;have fb:=Ay D;have cg:A_ (F_ H5) H5 H7:=D.trans (Z.mono λk a=>by unfold F_ at*;omega);refine Av.mk (λh7=>?_) (λh7=>?_)
        ·(conv=>whnf);refine⟨rfl,zY k,rfl,?_,cg⟩;unfold KM;rw[<-rE k d.cols,pI,R];have:d.cols.drop k=c0::d.cols.drop (k+1):=by
          rw[P_]at I;have⟨h1,h2⟩:=I;rw[List.drop_eq_getElem_cons h1,h2]
         rw[this,vH,h7];simp;omega
        ·(conv=>whnf);rw[S_ k zO];refine⟨rfl,k+1,zZ,⟨cg,zO,?_⟩,zO⟩;rw[Aj I,pI,R];simp[h7]
       ·(conv=>whnf);refine⟨rfl,zV,rfl,?_,D⟩;have:k=d.cols.length:=zO
        subst this;rw[yH]at R;exact R.symm
     ·rintro pl H6 b5 ⟨df,D⟩;have O:A_ (F_ H3) H3 H6:=Y.trans (D.mono λk a=>by unfold F_ at*;omega);have fd:=Ay O;have G:=g.agr O (λk a=>(g.lt a).2) (λk a=>a.elim);have A:=C.agr O (λk a=>(C.lt a).2) (λk a=>a.elim);have b6:=aj.agr O aj.lt;have b7:=aq.agr O aq.lt;have dg:A_ (λk=>k<H.size/\k≠pb) H H6:=c3.trans (O.mono λk a=>by unfold F_;omega);have dh:d.cell.length<=256:=by rw[w.cell];omega
      (conv=>whnf);refine AC.cut [6,9] (λx:v_×Nat=>[x.1,B_ x.2]) (λx H7=>A_ (λk=>k<H.size/\k≠pb) H H7/\H2.size<=H7.size/\x.2=(GA next d.cols d.sets fr).2.2/\
       h_ tI (λ_=>False) H7 (nb+1) 3 x.1 ((GA next d.cols d.sets fr).1.map As1)/\L_ H7 nb 181 (Aq6 next.length (.slice zV 0 0))/\
       ∃cv,h_ Co (λ_=>False) H7 (nb+1) 65 cv (GA next d.cols d.sets fr).2.1/\(∀k,R_ x.1 k->¬R_ cv k)/\
        L_ H7 pb 247 (BT cv d.cell (.slice (k_ nb) next.length next.length) fv av)) ?_ ?_
      ·cases hf:KM next d.cols fr with
       | some i=>
         rw[df,hf];have hm:GA next d.cols d.sets fr=(d.cols,d.sets,i):=by unfold GA;rw[hf]
         rw[hm];(conv=>whnf);exact⟨rfl,(_,i),rfl,dg,zO,rfl,G,b6,cv,A,ak,b7⟩
       | none=>
         rw[df,hf];have hm:GA next d.cols d.sets fr=(d.cols++[fr],d.sets++[0#256],d.cols.length):=by unfold GA;rw[hf]
         rw[hm];(conv=>whnf);rw[d_];refine Az AQ [B_ fr] rfl rfl zQ zQ ?_;intro q H7 hq di c6 Z;have e3:=w.le;have m:=G.agr Z (λk a=>by have:=(G.lt a).2;omega) (λk a=>a.elim);refine C8 (T:=tI) (S:=λ_=>False) (ys:=[(fr:Int)]) (ds:=[B_ fr]) (lo:=nb+1) (xs:=d.cols.map As1) AQ (by simpa using m) zO (λk a=>a.elim)
          (c6.cells (λj v hv=>by simpa using hv)) (Ty.reps_one ⟨rfl,CF zO⟩) rfl (by intro u hu;cases Q_.1 hu;rfl) (by simp only[maxLen,d_,g_];omega) (by simp only[d_,g_];omega) ?_
         intro v8 H8 U M dj b8;have V:∀k,k<H6.size->¬R_ (.slice ac (d.cols.map (As1:Nat->Int)).length N) k->H8[k]?=H6[k]? :=λk h1 h2=>by
          rw[M k ⟨zO,by simpa using h2⟩,Z k zO]
         have am:h_ Co (λ_=>False) H8 (nb+1) 65 cv d.sets:=A.agr (S':=λk=>k<H6.size/\¬R_ (.slice ac (d.cols.map (As1:Nat->Int)).length N) k) (λk a=>V k a.1 a.2)
          (λk a=>⟨(A.lt a).2,λh=>ak k h a⟩) (λk a=>a.elim)
         have b9:∀k,k<=nb->¬R_ (.slice ac (d.cols.map (As1:Nat->Int)).length N) k:=λk a h=>by have:=(G.lt h).1;omega
         have ch:=b6.eq (V nb b6.lt (b9 nb zO));have K:=b7.eq (V pb b7.lt (b9 pb zO));refine fa ?_;refine C_ (v:=cv) (by rw[K.cell];exact MO) zA ?_;refine Em De (AX 0) rfl (Ag 0) rfl (Az Cj (Ag 0) rfl rfl zQ zQ ?_);intro q2 H9 g5 g6 e6 W;have fe:=K.lt;have e7:=ch.lt;refine C8 (T:=Co) (S:=λ_=>False) (ys:=[0#256]) (ds:=Ag 0) (lo:=nb+1) (xs:=d.sets) Cj (am.agr W (λk a=>by have:=(am.lt a).2;omega) (λk a=>a.elim)) zO (λk a=>a.elim)
          (e6.cells (λj v hv=>by simpa using hv)) (Ty.reps_one rfl) rfl (by intro u hu;simp only[Ag,J',List.not_mem_nil,or_false]at hu;rcases hu with rfl | rfl | rfl | rfl<;>rfl)
          (by have:=w.len;simp only[maxLen,g_];omega) (by have:=w.len;simp only[g_];omega) ?_
         intro v9 H10 L P fg aw;have bd:∀k,k<=nb->¬R_ cv k:=λk a h=>by have:=(A.lt h).1;omega
         have dk:=(K.agr W zO).agr P ⟨zO,bd pb zO⟩;refine fa ?_;refine st1 dk (by rw[IX dh];omega) L.one ?_;intro H11 a8 B dl;(conv=>whnf);have t:∀k,R_ v8 k->k<H8.size/\nb+1<=k:=λk a=>⟨(U.lt a).2,(U.lt a).1⟩;have be:∀k,R_ v8 k->¬R_ cv k:=λk a hc=>by
          rcases b8 k a with h | h
          ·exact ak k (by simpa using h) hc
          ·have:=(A.lt hc).2;omega
         have bf:=(U.agr W (λk a=>by have:=t k a;omega) (λk a=>a.elim)).agr P (λk a=>⟨by have:=t k a;omega,be k a⟩) (λk a=>a.elim);have cu:=(ch.agr W zO).agr P ⟨zO,bd nb zO⟩;refine⟨rfl,(v8,d.cols.length),rfl,?_,zO,rfl,?_,cu.agr B zO,v9,L.agr B (λk a=>by have:=(L.lt a).1;omega) (λk a=>a.elim),?_,?_⟩
         ·intro k a;rw[B k a.2,P k ⟨zO,bd k zO⟩,W k zO,V k zO (b9 k zO),dg k a]
         ·have:=bf.agr B (λk a=>by have:=t k a;omega) (λk a=>a.elim);simpa using this
         ·intro k a e8;rcases aw k e8 with h | h
          ·exact be k a h
          ·have:=t k a;omega
         ·rw[Nat.add_zero,Ul]at a8;exact a8
      ·rintro⟨v7,p⟩ H7 e9 ⟨ea,di,hp,m,ao,g7,ap,ad,c6⟩;dsimp only at hp m ad;have ci:=Ri (next:=next) w.len w.le w.cols da;have eb:Bh next cells sp (b+1)=Oa next cells d b (sp b):=by rw[<-d9];rfl
       generalize hr:GA next d.cols d.sets fr=r at*
       have⟨cw,y,p'⟩:=r;dsimp only at hp m ap ci;subst hp;have⟨g8,g9,ga,gb,gc⟩:=ci;have bh:Bh next cells sp (b+1)=⟨cw,y.set p (y.getD p 0#256 ||| sp b),d.cell++[p]⟩:=by
        rw[eb];unfold Oa;rw[dz,hr]
       obtain⟨bq,bj,lq,gd,rfl,fh,ae,cx,cy,dv,cz⟩:=ap.place (i:=p) zO;have fj:=c6.lt;refine fa ?_;refine yX gN zO zO ?_;rw[w8 (x:=(p:Int)) zO zO];refine st1 c6 (by rw[IX dh];omega) rfl ?_;intro H8 K M dj;rw[show 0+1+(b:Int).toNat*1=1+d.cell.length by rw[w.cell];omega,Uk (by rw[w.cell];omega)]at K;(conv=>whnf);refine Ap.held (F_ H8) 19 (sq [0,1,2,3,4,5,6,7,8,9,10,11,12,13,14,15] (.f 16 (.f 17 (sq [18] (.f 19 .e))))) rfl zX (fa ?_);refine C_ (v:=.slice (k_ bq) y.length bj) (by rw[K.cell];exact MO) (zO:pb<H8.size) ?_;refine fa ?_;refine C_ (v:=.slice (k_ bq) y.length bj) (by rw[K.cell];exact MO) (zO:pb<H8.size) ?_;refine ix Cj zO zO ?_;have⟨x0,bn⟩:=Ai (l:=y) (k:=p) zO;obtain⟨c0,I,rfl⟩:=cy x0 bn;have bo:bq≠pb:=zO
       refine K_ (cs:=Ag x0) (by rw[N_,zG];exact I.eq (M bq bo)) (show bq<H8.size by have:=ae.lt;omega) ?_;(conv=>whnf);rw[w8 (x:=(b:Int)) zO zO];refine Af (GF b b zO zO H8) ?_;intro H9 W;refine⟨W,?_⟩;refine Af (Jv x0 (AR b b) H9) ?_;intro H10 P;have fk:=Ay W;have z:A_ (F_ H8) H8 H10:=W.trans (P.mono λk a=>by unfold F_ at*;omega);refine⟨z,?_⟩;refine ix Cj zO zO ?_;have ec:=Ay z;have c7:=(ae.agr M bo).agr z (show bq<H8.size by have:=ae.lt;omega);refine wG rfl c7 (by rw[N_,zG];exact cx) rfl ?_;intro H11 a8 B dl;(conv=>whnf);rw[S_ b zO];have cj:∀k,R_ v7 k->nb+1<=k/\k<H7.size:=λk a=>m.lt a;have bp:=((m.agr M (λk a=>by have:=cj k a;omega) (λk a=>a.elim)).agr z (λk a=>by have:=cj k a;unfold F_;omega) (λk a=>a.elim)).agr B
        (λk a ed=>by subst ed;exact ad _ a ⟨0,_,_,rfl⟩) (λk a=>a.elim)
       have d0:=(((ao.agr M (zO:nb≠pb)).agr z (show nb<H8.size by have:=ao.lt;omega)).agr B (zO:nb≠bq));have d1:=(K.agr z (zO:pb<H8.size)).agr B (show pb≠bq from Ne.symm bo);refine⟨rfl,(b+1,v7),zZ,⟨zO,?_,zO,?_,d0,.slice (k_ bq) y.length bj,?_,ad,?_⟩,zO⟩
       ·intro k a;rw[B k zO,z k (by unfold F_;omega),M k a.2,ea k a]
       ·rw[bh];exact bp
       ·rw[bh];have hg:y.getD p 0#256=x0:=by rw[yV,bn];rfl
        rw[hg,<-dw];rw[N_,zG]at a8;have:=cz H11 (Ag (x0 ||| AR b b)) (x0 ||| AR b b) a8 (λk a=>a.elim) rfl;exact this
       ·rw[bh];exact d1
    ·have b0:c.getLsbD b=zU:=Pb zO ct;rw[b0];(conv=>whnf);rw[S_ f zO];exact⟨rfl,f+1,zZ,⟨Y,zO⟩,zO⟩
  ·have ee:b=256:=zO
   subst ee;have w:=Ff (next:=next) (sp:=sp) az 256 zO;generalize d9:Bh next cells sp 256=d at*
   have fm:=w.le;have fo:=w.len;(conv=>whnf);refine AD.mk [95] (λq:Nat=>[B_ q]) (λq H4=>q<=next.length/\A_ (λk=>k<H3.size/\k≠nb) H3 H4/\H3.size<=H4.size/\∃vs:List v_,vs.length=next.length/\L_ H4 nb 181 vs/\
    (∀i,q<=i->i<next.length->vs[i]?=zY (.slice zV 0 0))/\∀i v row,i<q->vs[i]?=zY v->next[i]?=zY row->h_ tI (λ_=>False) H4 H3.size 3 v (FG d.cols row)) (λq _=>next.length-q) ?_ ?_
   ·(conv=>whnf);refine⟨0,rfl,zO,A_.refl _ _,I_ _,_,zZ,aj,λi _ hi=>by simp[hi],λi v row hi=>zO⟩
   ·rintro q H4 cr ⟨hq,X,gf,vs,dm,ck,cm,br⟩;have fp:=aj.lt;have co:=aq.lt;have c4:A_ (λk=>k<H.size/\k≠pb) H H4:=c3.trans (X.mono λk a=>zO);refine Av.m2 (λh=>?_) (λh=>?_)
    ·have⟨row,Q⟩:=Ai (l:=next) (k:=q) zO;have⟨dc,gg⟩:=ay row (Y_ Q);have ef:=hn.frame (c4.mono λk a=>hS k a);refine zP CS ef Q rfl ?_;rintro b2 o2 e4 de J ⟨ra,rc,rfl,hr⟩;refine lT J.one ?_;(conv=>whnf);rw[d_];refine AD.mk [102] (λj:Nat=>[B_ j]) (λj H5=>j<=d.cols.length/\A_ (λk=>k<H4.size/\k≠nb) H4 H5/\H4.size<=H5.size/\∃a9,L_ H5 nb 181 (vs.set q a9)/\
      h_ tI (λ_=>False) H5 H4.size 3 a9 (FG (d.cols.take j) row)) (λj _=>d.cols.length-j) ?_ ?_
     ·(conv=>whnf);refine⟨0,rfl,zO,A_.refl _ _,I_ _,.slice zV 0 0,?_,h_.nil⟩;have:vs.set q (.slice zV 0 0)=vs:=by
       have h1:=cm q (I_ _) zO;rw[P_]at h1;have⟨h2,h3⟩:=h1;rw[<-h3];exact List.set_getElem_self h2
      rw[this];exact ck
     ·rintro j H5 b5 ⟨hj,au,gh,a9,bu,E⟩;have bv:A_ (λk=>k<H3.size/\k≠nb) H3 H5:=X.trans (au.mono λk a=>zO);have eg:=aq.agr bv ⟨co,zO⟩;have F:=g.agr bv (λk a=>by have:=g.lt a;omega) (λk a=>a.elim);have⟨gi,eh,ei,ab,db⟩:=F.view (S':=λk=>k<H3.size) (λk a=>(g.lt a).2) (λk a=>a.elim);cases ei;refine Av.m2 (λh=>?_) (λh=>?_)
      ·have⟨c0,I⟩:=Ai (l:=d.cols) (k:=j) zO;have ce:=w.cols c0 (Y_ I);refine I2 (x:=(c0:Int)) AQ ab zZ (by simp[I]) rfl ?_;rintro b3 o3 gj fq bw ⟨rfl,-⟩;refine lT bw.one ?_;obtain⟨ej,d2,rfl,-,-⟩:=E.view (S':=λk=>R_ a9 k) (λk a=>a) (λk a=>a.elim);(conv=>whnf);refine Ap.held (λk=>k<H4.size) 19 (sq [0,1,2,3,4,5,6,7,8,9,10,11,12,13,14,15] (.f 16 (.f 17 (sq [18] (.f 19 .e))))) rfl zX ?_;have d3:cell H5 nb (0+(q:Int).toNat*1)=zY (.slice ej (FG (d.cols.take j) row).length d2):=by
        rw[bu.cell,(zO:0+(q:Int).toNat*1=q),xW zO]
       have ek:=hr.frame (au.mono λk a=>by have:=hS k a;omega);have bx:cell H5 pb (0+257)=zY (.slice (k_ nb) next.length next.length):=by
        rw[eg.cell,N_];exact Fm (by rw[w.cell];omega)
       refine fa ?_;refine C_ bx (zO:pb<H4.size) (fa ?_);refine C_ bx (zO:pb<H4.size) (ix CS zO zO (C_ d3 (zO:nb<H4.size) ?_));have⟨x0,bn⟩:=Ai (l:=row) (k:=c0) zO;refine zP AQ ek bn rfl ?_;rintro b4 o4 gk dp bz ⟨rfl,dq⟩;refine C_ bz.one (show b4<H4.size by have:=hS b4 dp;omega) ?_;refine Az AQ [B_ x0] rfl rfl zQ zQ ?_;intro q6 H6 gl gm b7 D;refine⟨D.mono λk a=>zO,?_⟩;have d4:=E.agr D (λk a=>by have:=(E.lt a).2;omega) (λk a=>a.elim);have ft:(FG (d.cols.take j) row).length<=256:=by simp[FG];omega
       refine C8 (T:=tI) (S:=λ_=>False) (ys:=[x0]) (ds:=[B_ x0]) (lo:=H4.size) (xs:=FG (d.cols.take j) row) AQ d4 zO (λk a=>a.elim)
         (b7.cells (λj v hv=>by simpa using hv)) (Ty.reps_one ⟨rfl,dq⟩) rfl (by intro u hu;cases Q_.1 hu;rfl) (by simp only[maxLen,g_];omega) (by simp only[g_];omega) ?_
       intro v7 H7 ah Z di dr;refine⟨λk a=>?_,?_⟩
       ·rw[Z k ⟨zO,λh=>by have:=(E.lt h).1;omega⟩,D k zO]
       have ao:=(bu.agr D zO).agr Z ⟨zO,λh=>by have:=(E.lt h).1;omega⟩;refine ix CS zO zO ?_;refine st1 ao (by simp;omega) ah.one ?_;intro H8 K M dj;(conv=>whnf);rw[S_ j zO];refine⟨rfl,j+1,zZ,⟨zO,?_,zO,v7,?_,?_⟩,zO⟩
       ·intro k a;rw[M k a.2,Z k ⟨zO,λh=>by have:=(E.lt h).1;omega⟩,D k zO,au k a]
       ·rw[(zO:0+(q:Int).toNat*1=q),List.set_set]at K;exact K
       ·have:=ah.agr M (λk a=>by have:=(ah.lt a).1;omega) (λk a=>a.elim);have e1:FG (d.cols.take (j+1)) row=FG (d.cols.take j) row++[x0]:=by
         unfold FG;rw[Aj I,xV];simp[bn]
        rw[e1];exact this
      ·have el:j=d.cols.length:=zO
       subst el;rw[yH]at E;(conv=>whnf);rw[S_ q zO];refine⟨rfl,q+1,zZ,⟨zO,bv,zO,vs.set q a9,by simp[dm],bu,?_,?_⟩,zO⟩
       ·intro i h1 h2;rw[xX zO];exact cm i zO h2
       ·intro i v dt hi hv ai;by_cases en:i=q
        ·subst en;rw[xW zO]at hv;rw[Q]at ai;cases hv;cases ai;exact E.lower zO
        ·rw[xX zO]at hv;have hd:=br i v dt zO hv ai;exact hd.agr au (λk a=>by have:=hd.lt a;omega) (λk a=>a.elim)
    ·have eo:q=next.length:=zO
     subst eo;(conv=>whnf);have fu:H2.size<=H3.size:=dy;obtain⟨ep,d5,eu,c8,-⟩:=(C.agr X (λk a=>by have:=C.lt a;omega) (λk a=>a.elim)).view (S':=λk=>H.size<=k/\k<H4.size)
      (λk a=>by have:=C.lt a;omega) (λk a=>a.elim)
     subst eu;refine⟨c4,zO,ep,d5,zY ⟨nb,0,zV⟩,next.length,aq.agr X ⟨co,zO⟩,c8,c_.intro (zO:H.size<=nb/\nb<H4.size) zZ (by simp[maxLen];omega) (ck.cells (cs:=vs) (λj v hv=>by simpa using hv)) ?_⟩;refine Ej (by simp[dm]) λi v x hv hx=>?_;rw[I']at hx;obtain⟨row,Q,rfl⟩:=Option.map_eq_some_iff.1 hx;have hd:=br i v row (P_.1 Q).1 hv Q;obtain⟨a0,du,rfl,ev,-⟩:=hd.view (S':=λk=>H.size<=k/\k<H4.size) (λk a=>by have:=hd.lt a;omega) (λk a=>a.elim);exact⟨a0,du,rfl,ev⟩
inductive Es(rows:List (List Int))(fin:List Bool):Nat->Prop
 | fin {q:Nat}:fin[q]?=zY zW->Es rows fin q
 | step {q t:Nat} {row:List Int}:rows[q]?=zY row->(t:Int)∈row->Es rows fin t->Es rows fin q
def Nw(rows:List (List Int))(q j t:Nat)(p:Int):Prop:=∃(q':Nat) (row:List Int),p=(q':Int)/\rows[q']?=zY row/\(q'<q/\(t:Int)∈row\/q'=q/\(t:Int)∈row.take j)
def nF(al:List Bool):Nat:=al.count zU
def Vc{p:Nat}(h:al[p]?=zY zU):nF (al.set p zW)+1=nF al:=by unfold nF;induction al generalizing p with|nil=>simp at h|cons a al b=>{cases p with|zero=>simp at h;subst h;simp[eS]|succ p=>simp at h;simp only[kR,eS];have:=b h;omega}
structure WI(rows:List (List Int))(final:List Bool)(bk:List (List Int))(al:List Bool)(td:List Int)(ex:Option (Nat×Nat)):Prop where
 len:al.length=rows.length
 sound:∀q:Nat,al[q]?=zY zW->Es rows final q
 fin:∀q:Nat,final[q]?=zY zW->al[q]?=zY zW
 tdok:∀x∈td,∃q:Nat,x=(q:Int)/\al[q]?=zY zW
 cnt:td.length+nF al<=rows.length
 closed:∀(q:Nat) (x:List Int),al[q]?=zY zW->bk[q]?=zY x->(q:Int)∈td\/(∀p∈x,al[p.toNat]?=zY zW)\/∃j,ex=zY (q,j)/\∀p∈x.take j,al[p.toNat]?=zY zW
def mT(rows:List (List Int))(bk:List (List Int)):Prop:=bk.length=rows.length/\∀(t:Nat) (x:List Int),bk[t]?=zY x->∀p,p∈x↔∃(q':Nat) (row:List Int),p=(q':Int)/\rows[q']?=zY row/\(t:Int)∈row
section
variable{rows:List (List Int)}{final:List Bool}
def WI.pop{td:List Int}{q:Nat}(h:WI rows final bk al (td++[(q:Int)]) zV):WI rows final bk al td (zY (q,0)):=by refine⟨h.len,h.sound,h.fin,λx b=>h.tdok x (xU _ b),by have:=h.cnt;simp at this;omega,λd x c b=>?_⟩;rcases h.closed d x c b with a | a | ⟨j,a,_⟩;{rcases n_.1 a with a | a;{exact .inl a};rw[Q_]at a;have:d=q:=zO;subst this;exact .inr (.inr ⟨0,rfl,zZ⟩)};{exact .inr (.inl a)};cases a
def WI.skip{td:List Int}{q e:Nat}{x:List Int}(h:WI rows final bk al td (zY (q,j)))(f:bk[q]?=zY x)(g:x[j]?=zY (e:Int))(k:al[e]?=zY zW):WI rows final bk al td (zY (q,j+1)):=by refine⟨h.len,h.sound,h.fin,h.tdok,h.cnt,λl m d b=>?_⟩;rcases h.closed l m d b with c | c | ⟨r,c,n⟩;{exact .inl c};{exact .inr (.inl c)};cases c;rw[f]at b;cases b;refine .inr (.inr ⟨j+1,rfl,λp a=>?_⟩);rw[Aj g,n_,Q_]at a;rcases a with a | rfl;{exact n p a};simpa using k
def WI.mark{td:List Int}{q a:Nat}{x:List Int}(r:mT rows bk)(h:WI rows final bk al td (zY (q,j)))(A:al[q]?=zY zW)(u:bk[q]?=zY x)(w:x[j]?=zY (a:Int))(z:al[a]?=zY zU):WI rows final bk (al.set a zW) (td++[(a:Int)]) (zY (q,j+1)):=by have e:a<al.length:=(P_.1 z).1;have keep:∀i,al[i]?=zY zW->(al.set a zW)[i]?=zY zW:=λi g=>by{by_cases c:a=i;{subst c;rw[xW e]};rw[xX c];exact g};have l:Es rows final a:=by{have⟨n,row,c,d,t⟩:=(r.2 q x u (a:Int)).1 (Y_ w);have:a=n:=zO;subst this;exact .step d t (h.sound q A)};refine⟨by simp[h.len],λi g=>?_,λi g=>keep i (h.fin i g),λy k=>?_,?_,λn B m f=>?_⟩;{by_cases c:a=i;{subst c;exact l};rw[xX c]at g;exact h.sound i g};{rcases n_.1 k with k | k;{have⟨i,c,d⟩:=h.tdok y k;exact⟨i,c,keep i d⟩};rw[Q_]at k;exact⟨a,k,by rw[xW e]⟩};{have c:=Vc z;have d:=h.cnt;simp only[M_,g_];omega};by_cases c:a=n;{subst c;exact .inl (uI _ (Q_.2 rfl))};rw[xX c]at m;rcases h.closed n B m f with d | d | ⟨C,d,t⟩;{exact .inl (xU _ d)};{exact .inr (.inl λp b=>keep _ (d p b))};cases d;rw[u]at f;cases f;refine .inr (.inr ⟨j+1,rfl,λp b=>?_⟩);rw[Aj w,n_,Q_]at b;rcases b with b | rfl;{exact keep _ (t p b)};rw[zG,xW e]
def WI.done{td:List Int}{q:Nat}{x:List Int}(h:WI rows final bk al td (zY (q,x.length)))(e:bk[q]?=zY x):WI rows final bk al td zV:=by refine⟨h.len,h.sound,h.fin,h.tdok,h.cnt,λf g c a=>?_⟩;rcases h.closed f g c a with b | b | ⟨j,b,d⟩;{exact .inl b};{exact .inr (.inl b)};cases b;rw[e]at a;cases a;rw[yH]at d;exact .inr (.inl d)
def WI.finish(a:mT rows bk)(d:∀row∈rows,∀t∈row,0<=t/\t<(rows.length:Int))(h:WI rows final bk al [] zV)(q:Nat):al[q]?=zY zW↔Es rows final q:=by refine⟨h.sound q,λe=>?_⟩;induction e with|fin f=>exact h.fin _ f|@step q t row h1 h2 _ ih=>{have j:=d row (Y_ h1) _ h2;have⟨x,c⟩:=Ai (l:=bk) (k:=t) (by rw[a.1];omega);have g:(q:Int)∈x:=(a.2 t x c (q:Int)).2 ⟨q,row,rfl,h1,h2⟩;rcases h.closed t x ih c with b | b | ⟨_,b,_⟩;{cases b};{simpa using b _ g};cases b}
end
def AkH(pb:Nat)(cv av:v_)(cell:List Nat)(an af:Option Addr)(K L:Nat)(rows:List (List Int))(final:List Bool)(S:Nat->Prop)(H:Aa)(hS:∀k,S k->k<H.size/\k≠pb)
  (n:L_ H pb 247 (BT cv cell (.slice an rows.length K) (.slice af final.length L) av)) (O:cell.length<=256) (hn:c_ M4 S H an K rows) (hf:c_ Cu S H af L final)
  (ea:rows.length<=65536) (d6:final.length=rows.length) (am:∀row∈rows,row.length<=256/\∀t∈row,0<=t/\t<(rows.length:Int)):
  Am prog 189 #[J_ pb] H λv H'=>A_ (λk=>k<H.size/\k≠pb) H H'/\H.size<=H'.size/\
   ∃(al:List Bool) (aa:Option Addr) (bv:Nat),al.length=rows.length/\(∀q,q<rows.length->(al[q]?=zY zW↔Es rows final q))/\
    L_ H' pb 247 (BT cv cell (.slice an rows.length K) (.slice af final.length L) (.slice aa al.length bv))/\c_ Cu (λk=>H.size<=k/\k<H'.size) H' aa bv al:=by
 have eb:=n.lt;refine Am.of_vc func189 rfl (call189 _) (fa ?_);refine C_ (by rw[n.cell,N_];exact Fm O) zA ?_;refine EV CS rfl zO zO zO zO ?_;intro nb H1 ec ed bw co;rw[zG]at bw;have cp:=n.agr co (zO:pb<nb);refine fa ?_;refine C_ (by rw[cp.cell,N_];exact Fm O) zA ?_;(conv=>whnf);refine AD.mk [24] (λq:Nat=>[B_ q]) (λq H2=>q<=rows.length/\A_ (λk=>k<H1.size/\k≠nb) H1 H2/\H1.size<=H2.size/\∃vs bk,Tab tI (λ_=>False) H2 (nb+1) 3 nb 181 vs bk/\bk.length=rows.length/\
  (∀(t:Nat) (x:List Int),bk[t]?=zY x->x.length<=q*256/\∀p,p∈x↔Nw rows q 0 t p)) (λq _=>rows.length-q) ?_ ?_
 ·(conv=>whnf);refine⟨0,rfl,zO,A_.refl _ _,I_ _,_,_,Tab.new bw zO,zZ,λt x P=>?_⟩;rw[tR]at P;split at P
  ·cases P;refine⟨zZ,λp=>⟨(λh=>by cases h),?_⟩⟩;rintro⟨X,row,_,_,⟨h,_⟩ | ⟨_,h⟩⟩
   ·omega
   ·simp at h
  ·cases P
 ·rintro q H2 du ⟨hq,c4,d7,vs,bk,m,C,Q⟩;have c5:A_ (λk=>k<H.size/\k≠pb) H H2:=(co.mono λk a=>zO).trans (c4.mono λk a=>zO);have cq:=cp.agr c4 ⟨zO,zO⟩;refine Av.m2 (λh=>?_) (λh=>?_)
  ·have⟨row,e⟩:=Ai (l:=rows) (k:=q) zO;have⟨ee,d8⟩:=am row (Y_ e);refine zP CS (hn.frame (c5.mono λk a=>hS k a)) e rfl ?_;rintro b2 o2 ef dv ao ⟨ra,rc,rfl,hr⟩;refine lT ao.one ?_;(conv=>whnf);refine AD.mk [31] (λj:Nat=>[B_ j]) (λj H3=>j<=row.length/\A_ (λk=>k<H1.size/\k≠nb) H2 H3/\H1.size<=H3.size/\∃vs bk,Tab tI (λ_=>False) H3 (nb+1) 3 nb 181 vs bk/\bk.length=rows.length/\
    (∀(t:Nat) (x:List Int),bk[t]?=zY x->x.length<=q*256+j/\∀p,p∈x↔Nw rows q j t p)) (λj _=>row.length-j) ?_ ?_
   ·(conv=>whnf);exact⟨0,rfl,zO,A_.refl _ _,d7,vs,bk,m,C,Q⟩
   ·clear m C Q vs bk;rintro j H3 c6 ⟨hj,ai,d9,vs,bk,m,C,Q⟩;have da:=hr.frame (ai.mono λk a=>by have:=hS k a;omega);refine Av.m2 (λh=>?_) (λh=>?_)
    ·have⟨ti,ap⟩:=Ai (l:=row) (k:=j) zO;have⟨db,eg⟩:=d8 ti (Y_ ap);obtain⟨t,rfl⟩:=uF db;refine zP AQ da ap rfl ?_;rintro b3 o3 cr bx g ⟨rfl,eh⟩;refine lT g.one ?_;have⟨v,x,R,P,dc⟩:=m.get (i:=t) zO;have⟨ei,de⟩:=Q t x P;obtain⟨ej,df,rfl,-,-⟩:=dc.view (S':=λk=>R_ v k) (λk a=>a) (λk a=>a.elim);have dw:t<vs.length:=(P_.1 R).1;refine ix CS zO zO ?_;refine C_ (by rw[m.blk.cell,(zO:0+(t:Int).toNat*1=t)];exact R) zA ?_;refine Az AQ [B_ q] rfl rfl zQ zQ ?_;intro q4 H4 ek dg aq au;have dx:=m.blk.lt;have D:=m.agr au zO (λb _ n=>zO) (λk a=>a.elim);refine C8 (T:=tI) (S:=λ_=>False) (ys:=[(q:Int)]) (ds:=[B_ q]) (lo:=nb+1) (xs:=x) AQ (D.own t _ x R P) zO (λk a=>a.elim)
      (aq.cells (λj v R=>by simpa using R)) (Ty.reps_one ⟨rfl,CF zO⟩) rfl (by intro u hu;cases Q_.1 hu;rfl) (by simp only[maxLen,g_];omega) (by simp only[g_];omega) ?_
     intro v5 H5 aw c7 ct ay;have cu:=D.blk.agr c7 ⟨zO,λa=>by have:=((D.own t _ x R P).lt a).1;omega⟩;refine ix CS zO zO (st1 cu zO aw.one ?_);intro H6 Y aj cw;rw[(zO:0+(t:Int).toNat*1=t)]at Y;(conv=>whnf);rw[S_ j zO];refine⟨rfl,j+1,zZ,⟨zO,?_,zO,_,_,D.push R aw c7 ay Y aj (λk a=>a.elim),by simp[C],?_⟩,zO⟩
     ·intro k a;rw[aj k a.2,c7 k ⟨zO,λn=>by have:=((D.own t _ x R P).lt n).1;omega⟩,au k zO,ai k a]
     ·intro t' x' bf;have bz:∀p,Nw rows q (j+1) t' p↔Nw rows q j t' p\/(t'=t/\p=(q:Int)):=by
       intro p;unfold Nw;constructor
       ·rintro⟨X,r,B,d,⟨W,w⟩ | ⟨W,w⟩⟩
        ·exact .inl ⟨X,r,B,d,.inl ⟨W,w⟩⟩
        ·subst W;rw[e]at d;cases d;rw[Aj ap,n_,Q_]at w;rcases w with w | w
         ·exact .inl ⟨_,_,B,e,.inr ⟨rfl,w⟩⟩
         ·exact .inr ⟨zO,B⟩
       ·rintro(⟨X,r,B,d,⟨W,w⟩ | ⟨W,w⟩⟩ | ⟨rfl,rfl⟩)
        ·exact⟨X,r,B,d,.inl ⟨W,w⟩⟩
        ·subst W;rw[e]at d;cases d;exact⟨_,_,B,e,.inr ⟨rfl,by rw[Aj ap,n_];exact .inl w⟩⟩
        ·exact⟨q,row,rfl,e,.inr ⟨rfl,by rw[Aj ap,n_];exact .inr (Q_.2 rfl)⟩⟩
      by_cases c8:t'=t
      ·subst c8;rw[xW zO]at bf;cases bf;refine⟨by simp only[M_,g_];omega,λp=>?_⟩;rw[bz p,n_,de p,Q_];simp
      ·rw[xX (Ne.symm c8)]at bf;have⟨B,d⟩:=Q t' x' bf;refine⟨zO,λp=>?_⟩;rw[bz p,d p];simp[c8]
    ·have c9:j=row.length:=zO
     subst c9;(conv=>whnf);rw[S_ q zO];refine⟨rfl,q+1,zZ,⟨zO,c4.trans ai,zO,vs,bk,m,C,λt x P=>?_⟩,zO⟩;have⟨g1,g2⟩:=Q t x P;refine⟨by rw[Nat.succ_mul];omega,λp=>?_⟩;rw[g2 p];unfold Nw;constructor
     ·rintro⟨X,r,B,d,⟨W,w⟩ | ⟨W,w⟩⟩
      ·exact⟨X,r,B,d,.inl ⟨zO,w⟩⟩
      ·exact⟨X,r,B,d,.inl ⟨zO,kP w⟩⟩
     ·rintro⟨X,r,B,d,⟨W,w⟩ | ⟨W,w⟩⟩
      ·by_cases cd:X=q
       ·rw[cd,e]at d;cases d;exact⟨X,_,B,by rw[cd];exact e,.inr ⟨cd,by rw[yH];exact w⟩⟩
       ·exact⟨X,r,B,d,.inl ⟨zO,w⟩⟩
      ·simp at w
  ·have dh:q=rows.length:=zO
   subst dh;have az:mT rows bk:=⟨C,λt x P p=>by
    rw[(Q t x P).2 p];unfold Nw;constructor
    ·rintro⟨X,row,B,d,⟨W,w⟩ | ⟨_,w⟩⟩
     ·exact⟨X,row,B,d,w⟩
     ·simp at w
    ·rintro⟨X,row,B,d,w⟩;exact⟨X,row,B,d,.inl ⟨(P_.1 d).1,w⟩⟩⟩
   have dy:=m.blk.lt;have ce:=m.view (S':=λk=>nb<=k/\k<H2.size) C.symm (by simp[maxLen];omega) (λk B d=>⟨B,d⟩) (λk a=>a.elim);clear Q;refine fa ?_;refine C_ (by rw[cq.cell,N_];exact Fm O) zA ?_;refine EV DT rfl zO zO zO zO ?_;intro F H3 el d9 a8 ai;rw[zG]at a8;have di:=cq.agr ai (zO:pb<F);refine fa ?_;refine st1 di (by rw[IX O];omega) rfl ?_;intro H4 aq au dg;rw[N_,Q6 O]at aq;replace a8:=a8.agr au (zO:F≠pb);have cx:A_ (λk=>k<H2.size/\k≠pb) H2 H4:=(ai.mono λk a=>zO).trans (au.mono λk a=>a.2);refine fa ?_;refine C_ (by rw[aq.cell,N_];exact Lo O) zA ?_;(conv=>whnf);refine AD.mk [7,61] (λx:Nat×v_=>[x.2,B_ x.1]) (λx H5=>x.1<=rows.length/\A_ (λk=>k<H2.size/\k≠pb) H2 H5/\H4.size<=H5.size/\
    L_ H5 pb 247 (BT cv cell (.slice an rows.length K) (.slice af final.length L) (.slice (k_ F) (rows.length:Int).toNat (rows.length:Int).toNat))/\
    ∃al td,al.length=rows.length/\L_ H5 F 4 (al.map .bool)/\h_ tI (λ_=>False) H5 (F+1) 3 x.2 td/\
     (∀q,al[q]?=zY zW↔q<x.1/\final[q]?=zY zW)/\(∀q:Nat,al[q]?=zY zW->(q:Int)∈td)/\(∀y∈td,∃q:Nat,y=(q:Int)/\al[q]?=zY zW)/\td.length+nF al=rows.length) (λx _=>rows.length-x.1) ?_ ?_
   ·(conv=>whnf);refine⟨(0,_),rfl,zO,cx,I_ _,aq,Aq6 rows.length zU,[],zZ,by simpa using a8,h_.nil,λq=>⟨λh=>?_,λh=>zO⟩,λq h=>?_,(λy hy=>by cases hy),by simp[nF,List.count_replicate]⟩
    ·rw[tR]at h;split at h<;>simp at h
    ·rw[tR]at h;split at h<;>simp at h
   ·rintro⟨i,v7⟩ H5 c6 ⟨hi,b0,ct,ak,al,td,z,U,c,E,a9,ad,c2⟩;dsimp only at hi c E;refine Av.m2 (λh=>?_) (λh=>?_)
    ·have cy:=c5.trans (b0.mono λk a=>zO);have⟨f,cg⟩:=Ai (l:=final) (k:=i) zO;refine AC.run (zP DT (hf.frame (cy.mono λk a=>hS k a)) cg rfl ?_);rintro b3 o3 cr bx g rfl;refine C_ g.one zA (Av.mk (λd=>?_) (λd=>?_))
     ·subst d;have cz:al[i]?=zY zU:=by
       cases P:al[i]? with
       | none=>rw[dH]at P;omega
       | some b=>
         cases b with
         | false=>rfl
         | true=>have:=((E i).1 P).1;omega
      refine fa ?_;refine C_ (by rw[ak.cell,N_];exact Lp O) zA ?_;refine ix DT zO zO ?_;refine st1 U (by simp;omega) rfl ?_;intro H6 A aj cw;rw[(zO:0+(i:Int).toNat*1=i)]at A;refine Az AQ [B_ i] rfl rfl zQ zQ ?_;intro q7 H7 en d0 V bh;have eo:=ak.lt;have dz:=U.lt;have d1:h_ tI (λ_=>False) H7 (F+1) 3 v7 td:=(c.agr aj (λb n=>by have:=c.lt n;omega) (λk a=>a.elim)).agr bh (λb n=>by have:=c.lt n;omega) (λk a=>a.elim);have dj:=Vc cz;refine C8 (T:=tI) (S:=λ_=>False) (ys:=[(i:Int)]) (ds:=[B_ i]) (lo:=F+1) (xs:=td) AQ d1 zO (λk a=>a.elim)
       (V.cells (λj v R=>by simpa using R)) (Ty.reps_one ⟨rfl,CF zO⟩) rfl (by intro u hu;cases Q_.1 hu;rfl) (by simp only[maxLen,g_];omega) (by simp only[g_];omega) ?_
      intro v8 H8 ch Z dk d2;(conv=>whnf);rw[S_ i zO];have a0:∀k,R_ v7 k->F+1<=k:=λk a=>(c.lt a).1;refine⟨rfl,(i+1,v8),rfl,⟨by dsimp only;omega,?_,zO,?_,al.set i zW,td++[(i:Int)],by simp[z],?_,ch,λq=>?_,λq hq=>?_,λy hy=>?_,?_⟩,by dsimp only;omega⟩
      ·intro k a;rw[Z k ⟨zO,λn=>by have:=a0 k n;omega⟩,bh k zO,aj k zO,b0 k a]
      ·exact((ak.agr aj zO).agr bh zO).agr Z ⟨zO,λn=>by have:=a0 _ n;omega⟩
      ·rw[List.map_set];exact(A.agr bh zO).agr Z ⟨zO,λn=>by have:=a0 _ n;omega⟩
      ·dsimp only;by_cases G:i=q
       ·subst G;rw[xW zO];exact⟨λ_=>⟨zO,cg⟩,λ_=>rfl⟩
       ·rw[xX G,E q];constructor
        ·rintro⟨B,d⟩;exact⟨zO,d⟩
        ·rintro⟨B,d⟩;exact⟨zO,d⟩
      ·by_cases G:i=q
       ·subst G;exact uI _ (Q_.2 rfl)
       ·rw[xX G]at hq;exact xU _ (a9 q hq)
      ·rcases n_.1 hy with hy | hy
       ·have⟨q,B,d⟩:=ad y hy;refine⟨q,B,?_⟩;by_cases G:i=q
        ·subst G;rw[xW zO]
        ·rw[xX G];exact d
       ·rw[Q_]at hy;exact⟨i,hy,by rw[xW zO]⟩
      ·simp only[M_,g_];omega
     ·subst d;(conv=>whnf);rw[S_ i zO];refine⟨rfl,(i+1,v7),rfl,⟨by dsimp only;omega,b0,ct,ak,al,td,z,U,c,λq=>?_,a9,ad,c2⟩,by dsimp only;omega⟩;rw[E q];dsimp only;constructor
      ·rintro⟨B,d⟩;exact⟨zO,d⟩
      ·rintro⟨B,d⟩;refine⟨?_,d⟩;by_cases G:q=i
       ·subst G;rw[cg]at d;cases d
       ·omega
    ·have dl:i=rows.length:=zO
     subst dl;have I:WI rows final bk al td zV:=by
      refine⟨z,λq hq=>.fin ((E q).1 hq).2,λq hq=>(E q).2 ⟨?_,hq⟩,ad,zO,λq x hq P=>.inl (a9 q hq)⟩;rw[<-d6];exact(P_.1 hq).1
     clear E a9 ad c2;(conv=>whnf);refine AD.mk [7] (λx:v_×List Bool×List Int=>[x.1]) (λx H6=>A_ (λk=>k<H2.size/\k≠pb) H2 H6/\H5.size<=H6.size/\
      L_ H6 pb 247 (BT cv cell (.slice an rows.length K) (.slice af final.length L) (.slice (k_ F) (rows.length:Int).toNat (rows.length:Int).toNat))/\
      L_ H6 F 4 (x.2.1.map .bool)/\h_ tI (λ_=>False) H6 (F+1) 3 x.1 x.2.2/\WI rows final bk x.2.1 x.2.2 zV) (λx _=>2*nF x.2.1+x.2.2.length) ?_ ?_
     ·(conv=>whnf);exact⟨(v7,al,td),rfl,b0,I_ _,ak,U,c,I⟩
     ·clear c I U ak b0 z;rintro⟨v7,al,td⟩ H6 dm ⟨ci,cw,Y,A,c,I⟩;dsimp only at c A I;obtain⟨ep,e0,rfl,cj,e1⟩:=c.view (S':=λk=>F+1<=k/\k<H6.size) (λk a=>c.lt a) (λk a=>a.elim);refine Av.m2 (λh=>?_) (λh=>?_)
      ·obtain⟨J,y,rfl⟩:∃J y,td=J++[y]:=⟨td.dropLast,td.getLast (by intro d;subst d;simp at h),(dF _).symm⟩;obtain⟨q,rfl,d3⟩:=I.tdok y zZ;have eu:q<rows.length:=by have:=(P_.1 d3).1;have:=I.len;omega
       have ev:(J++[(q:Int)]).length=J.length+1:=zZ
       have e3:=I.cnt;refine zP (i:=J.length) (x:=(q:Int)) AQ cj zZ (by rw[vU zO zO];omega) ?_;rintro b3 o3 cr bx g ⟨rfl,-⟩;refine lT g.one ?_;(conv=>whnf);rw[vU (x:=((J++[(q:Int)]).length:Int)-1) zO zO];refine mQ AQ zO (by have:=cj.le;omega) ?_;rw[show(((J++[(q:Int)]).length:Int)-1).toNat=J.length by omega];have ae:=c.pop;clear c cj;have⟨xb,b6⟩:=Ai (l:=bk) (k:=q) zO;have bj:=ce.frame (ci.mono λk a=>zO);refine I2 CS bj zO b6 rfl ?_;rintro b4 o4 ew e4 b7 ⟨xa,xc,rfl,b8⟩;refine lT b7.one ?_;(conv=>whnf);refine AD.mk [7,97] (λx:Nat×v_×List Bool×List Int=>[x.2.1,B_ x.1]) (λx H7=>x.1<=xb.length/\A_ (λk=>k<H2.size/\k≠pb) H6 H7/\H6.size<=H7.size/\
        L_ H7 pb 247 (BT cv cell (.slice an rows.length K) (.slice af final.length L) (.slice (k_ F) (rows.length:Int).toNat (rows.length:Int).toNat))/\
        L_ H7 F 4 (x.2.2.1.map .bool)/\h_ tI (λ_=>False) H7 (F+1) 3 x.2.1 x.2.2.2/\WI rows final bk x.2.2.1 x.2.2.2 (zY (q,x.1))/\x.2.2.1[q]?=zY zW/\2*nF x.2.2.1+x.2.2.2.length<=2*nF al+J.length)
        (λx _=>xb.length-x.1) ?_ ?_
       ·(conv=>whnf);exact⟨(0,_,al,J),rfl,by dsimp only;omega,A_.refl _ _,I_ _,Y,A,ae,I.pop,d3,I_ _⟩
       ·clear Y A ae;rintro⟨j,v7,bn,td⟩ H7 dp ⟨hj,bo,d0,V,M,c,N,ah,b9⟩;dsimp only at hj c M N ah b9;refine Av.m2 (λd=>?_) (λd=>?_)
        ·have⟨p,bp⟩:=Ai (l:=xb) (k:=j) zO;obtain⟨pn,e5,rfl,ck,-⟩:=(az.2 q xb b6 p).1 (Y_ bp);have ey:pn<rows.length:=(P_.1 ck).1;have z:=N.len;have dq:=N.cnt;have⟨f,bq⟩:=Ai (l:=bn) (k:=pn) zO;have ez:=V.lt;have e6:=M.lt;refine AC.run (zP AQ (b8.frame (bo.mono λk a=>zO)) bp rfl ?_);rintro b5 o5 fb e7 bd ⟨rfl,-⟩;refine C_ bd.one zA (fa ?_);refine C_ (by rw[V.cell,N_];exact Lp O) zA ?_;refine ix DT zO zO ?_;refine C_ (v:=.bool f) (by rw[M.cell,(zO:0+(pn:Int).toNat*1=pn),I',bq];rfl) zA ?_;refine Av.mk (λW=>?_) (λW=>?_)
         ·obtain rfl:f=zU:=by simpa using W
          have dj:=Vc bq;refine fa ?_;refine C_ (by rw[V.cell,N_];exact Lp O) zA ?_;refine ix DT zO zO ?_;refine st1 M (by simp;omega) rfl ?_;intro H8 c3 Z dk;rw[(zO:0+(pn:Int).toNat*1=pn)]at c3;refine Az AQ [B_ pn] rfl rfl zQ zQ ?_;intro q9 H9 fd fe dr br;have d4:h_ tI (λ_=>False) H9 (F+1) 3 v7 td:=(c.agr Z (λb n=>by have:=c.lt n;omega) (λk a=>a.elim)).agr br (λb n=>by have:=c.lt n;omega) (λk a=>a.elim);refine C8 (T:=tI) (S:=λ_=>False) (ys:=[(pn:Int)]) (ds:=[B_ pn]) (lo:=F+1) (xs:=td) AQ d4 zO (λk a=>a.elim)
           (dr.cells (λj v R=>by simpa using R)) (Ty.reps_one ⟨rfl,CF zO⟩) rfl (by intro u hu;cases Q_.1 hu;rfl) (by simp only[maxLen,g_];omega) (by simp only[g_];omega) ?_
          intro dt H10 bu be e8 cm;(conv=>whnf);rw[vU (x:=(j:Int)+1) (by have:=b8.le;simp only[maxLen]at this;omega) (by have:=b8.le;simp only[maxLen]at this;omega)];have a0:∀k,R_ v7 k->F+1<=k:=λk a=>(c.lt a).1;refine⟨rfl,(j+1,dt,bn.set pn zW,td++[(pn:Int)]),rfl,⟨by dsimp only;omega,?_,zO,?_,?_,bu,N.mark az ah b6 bp bq,?_,?_⟩,by dsimp only;omega⟩
          ·intro k a;rw[be k ⟨zO,λn=>by have:=a0 k n;omega⟩,br k zO,Z k zO,bo k a]
          ·exact((V.agr Z zO).agr br zO).agr be ⟨zO,λn=>by have:=a0 _ n;omega⟩
          ·dsimp only;rw[List.map_set];exact(c3.agr br zO).agr be ⟨zO,λn=>by have:=a0 _ n;omega⟩
          ·dsimp only;by_cases d5:pn=q
           ·subst d5;rw[xW zO]
           ·rw[xX d5];exact ah
          ·simp only[M_,g_];omega
         ·obtain rfl:f=zW:=by simpa using W
          (conv=>whnf);rw[vU (x:=(j:Int)+1) (by have:=b8.le;simp only[maxLen]at this;omega) (by have:=b8.le;simp only[maxLen]at this;omega)];exact⟨rfl,(j+1,v7,bn,td),rfl,⟨by dsimp only;omega,bo,d0,V,M,c,N.skip b6 bp bq,ah,b9⟩,by dsimp only;omega⟩
        ·have c9:j=xb.length:=zO
         subst c9;(conv=>whnf);exact⟨rfl,(v7,bn,td),rfl,⟨ci.trans bo,zO,V,M,c,N.done b6⟩,by dsimp only;omega⟩
      ·have ae:td=[]:=wL zO;subst ae;(conv=>whnf);have z:=I.len;have fg:=Y.lt;refine⟨c5.trans (ci.mono λk a=>zO),zO,al,zY ⟨F,0,zV⟩,rows.length,z,λq _=>I.finish az (λrow e=>(am row e).2) q,?_,?_⟩
       ·rw[z];exact Y
       ·have e9:=A.lt;refine c_.intro (zO:H.size<=F/\F<H6.size) zO (by simp only[maxLen];omega) (A.cells (cs:=al.map .bool) (λj v R=>by rw[N_];exact R)) (Ej zZ λi v x R P=>?_);rw[I',P]at R;cases R;rfl
section
attribute [local irreducible] Bh
structure AM where
 sets:List (BitVec 256)
 cell:List Nat
 next:List (List Int)
 final:List Bool
def BE(cells:List (BitVec 256))(next:List (List Int))(final:List Bool):AM:=⟨(Bh next cells (λb=>AR b b) 256).sets,(Bh next cells (λb=>AR b b) 256).cell,next.map (FG (Bh next cells (λb=>AR b b) 256).cols),final⟩
structure AM.Ok(A:AM):Prop where
 n1:1<=A.next.length
 n2:A.next.length<=65536
 fl:A.final.length=A.next.length
 cell:A.cell.length=256
 places:∀p∈A.cell,p<A.sets.length
 sl:A.sets.length<=256
 rows:∀row∈A.next,row.length=A.sets.length/\∀t∈row,0<=t/\t<(A.next.length:Int)
structure Nr(S:Nat->Prop)(H:Aa)(pb:Nat)(A:AM):Prop where
 own:S pb
 ok:A.Ok
 rep:∃ac cc an cn af cf aa ca al,L_ H pb 247 (BT (.slice ac A.sets.length cc) A.cell (.slice an A.next.length cn) (.slice af A.final.length cf) (.slice aa al.length ca))/\
  c_ Co S H ac cc A.sets/\c_ M4 S H an cn A.next/\c_ Cu S H af cf A.final/\c_ Cu S H aa ca al/\al.length=A.next.length/\∀q:Nat,q<A.next.length->(al[q]?=zY zW↔Es A.next A.final q)
def Nr.frame{H':Aa}{pb:Nat}{A:AM}(h:Nr S H pb A)(k:A_ S H H'):Nr S H' pb A:=by have⟨a,b,c,d,e,f,g,j,l,m,al,n,p,q,r,t,u⟩:=h;exact⟨a,b,c,d,e,f,g,j,l,m,al,n.agr k a,p.frame k,q.frame k,r.frame k,t.frame k,u⟩
def Nr.mono{S':Nat->Prop}{pb:Nat}{A:AM}(h:Nr S H pb A)(k:∀b,S b->S' b):Nr S' H pb A:=by have⟨a,c,d,e,f,g,j,l,m,n,al,p,q,r,t,u,w⟩:=h;exact⟨k _ a,c,d,e,f,g,j,l,m,n,al,p,q.mono k,r.mono k,t.mono k,u.mono k,w⟩
def AS(S:Nat->Prop)(H:Aa)(v:v_):Option AM->Prop | none=>v= .pointer zV | some A=>∃pb,v= J_ pb/\Nr S H pb A
def AS.frame{H':Aa}{v:v_}{o:Option AM}(h:AS S H v o)(k:A_ S H H'):AS S H' v o:=by cases o with|none=>exact h|some A=>have⟨pb,a,b⟩:=h;exact⟨pb,a,b.frame k⟩
def AS.mono{S':Nat->Prop}{v:v_}{o:Option AM}(h:AS S H v o)(k:∀b,S b->S' b):AS S' H v o:=by cases o with|none=>exact h|some A=>have⟨pb,a,c⟩:=h;exact⟨pb,a,c.mono k⟩
def SL{cells:List (BitVec 256)}{next:List (List Int)}{final:List Bool}(h:Bt cells next final.length=zW):(BE cells next final).Ok:=by have⟨j,k,l,d⟩:=DU h;have e:=Ff (next:=next) (sp:=λb=>AR b b) (λb m=>(BI h m).1) 256 (I_ _);have g:=e.len;have n:=e.le;have f:=e.cell;refine⟨by simpa [BE]using j,by simpa [BE]using k,by simp[BE,l],?_,?_,?_,?_⟩;{exact f};{intro p q;have:=e.places p q;simp only[BE];omega};{simp only[BE];omega};intro row a;simp only[BE,yT]at a;obtain⟨r,u,rfl⟩:=a;refine⟨by simp only[FG,BE,d_];omega,λt w=>?_⟩;obtain⟨c,x,rfl⟩:=yT.1 w;have y:=e.cols c x;have:=d r u;simp only[BE,d_];rw[yV,zH zO,rI];exact this.2 _ (List.getElem_mem _)
def ZX(G I fa:Option Addr)(J K fc:Nat)(cells:List (BitVec 256))(next:List (List Int))(final:List Bool)(S:Nat->Prop)(H:Aa)(y:∀k,S k->k<H.size)(W:c_ Co S H G J cells) (X:c_ M4 S H I K next) (Y:c_ Cu S H fa fc final):Am prog 173 #[.slice G cells.length J,.slice I next.length K,.slice fa final.length fc] H λv H'=> A_ (F_ H) H H'/\H.size<=H'.size/\AS (λk=>H.size<=k/\k<H'.size) H' v (if Bt cells next final.length then zY (BE cells next final)else zV):=by
 have lf:=Y.le;unfold maxLen at lf;refine Am.of_vc func173 rfl (call173 _) (Af (AfP G I fa J K fc final.length cells next S H y W X zO) λH1 l=>?_);have L:H.size<=H1.size:=by{rcases Nat.eq_zero_or_pos H.size with h | h;{omega};have:=Ak l (k:=H.size-1) (by unfold F_;omega);omega};refine Av.mk (λh=>?_) (λh=>?_);{
 (conv=>whnf);have q:Bt cells next final.length=zU:=by simpa using h
 rw[q];exact⟨l,L,rfl⟩};have q:Bt cells next final.length=zW:=by simpa using h
 rw[q];have⟨n1,n2,n3,M⟩:=DU q;refine OU (T:=Cu) (S:=S) (lo:=H1.size) (xs:=[]) DT V0 h_.nil (I_ _) (λk a=>⟨by have:=y k a;omega,?_⟩) (Y.frame (l.mono y)) (by simp only[maxLen,i_];omega) (by simp only[i_];omega) ?_;{rintro⟨o,n,c,h⟩;cases h};intro v2 H2 e N a0 _;rw[nS]at e;have m:h_ Cu (λ_=>False) H2 H1.size 4 v2 final:=e.free Vz;obtain⟨z,d,rfl,A,-⟩:=m.view (S':=λk=>H1.size<=k/\k<H2.size) (λk a=>e.lt a) (λk a=>a.elim);refine Ad rfl rfl _ rfl (BT (.slice zV 0 0) [] (.slice zV 0 0) (.slice z final.length d) (.slice zV 0 0)) (by rfl) (BF (BT (.slice zV 0 0) [] (.slice zV 0 0) (.slice z final.length d) (.slice zV 0 0)) rfl ?_);intro pb H3 a8 a9 O B;have Z:H2.size=pb:=zO;have P:∀k,F_ H k->k<H1.size:=λk a=>by unfold F_ at a;omega
 have u:A_ (λk=>k<H.size) H H3:=(l.trans (N.mono λk a=>⟨P k a,λq=>by have⟨o,n,c,h⟩:=q;cases h⟩)).trans (B.mono λk a=>by unfold F_ at a;omega);have Q:∀k,S k->k<H3.size/\k≠pb:=λk a=>by have:=y k a;omega
 refine An.mk (AeN pb (.slice z final.length d) (.slice zV 0 0) G I J K cells next final.length S H3 Q O (W.frame (u.mono y)) (X.frame (u.mono y)) q) ?_;rintro v4 H4 ⟨C,ab,ac,r,an,t,R,w,f⟩;have j:c_ Cu (λk=>H1.size<=k/\k<H2.size) H4 z d final:=(A.frame (B.mono λk a=>zO)).frame (C.mono λk a=>zO);have g:=SL q;(conv=>whnf);refine An.mk (AkH pb (.slice ac (Bh next cells (λb=>AR b b) 256).sets.length r) (.slice zV 0 0) (Bh next cells (λb=>AR b b) 256).cell an z t d (next.map (FG (Bh next cells (λb=>AR b b) 256).cols)) final (λk=>H1.size<=k/\k<H4.size/\k≠pb) H4 (λk a=>zO) (by rw[d_];exact R) (rH g.cell) (f.mono λk a=>zO) (j.mono λk a=>zO) (by simpa using n2) (by simp[n3]) (λrow D=>?_)) ?_;{have:=g.rows row D;have h2:=g.sl;exact⟨zO,this.2⟩};rintro v5 H5 ⟨p,ad,al,aa,E,F,x,U,V⟩;(conv=>whnf);refine⟨?_,zO,pb,rfl,⟨zO,zO⟩,g,ac,r,an,t,z,d,aa,E,al,U,?_,?_,?_,?_,F,x⟩;{exact(u.trans (C.mono λk a=>zO)).trans (p.mono λk a=>zO)};{exact(w.frame (p.mono λk a=>zO)).mono λk a=>zO};{exact(f.frame (p.mono λk a=>zO)).mono λk a=>zO};{exact(j.frame (p.mono λk a=>zO)).mono λk a=>zO};exact V.mono λk a=>zO
def stN:Option AM->Nat | none=>1 | some A=>A.next.length
def R6:prog.underlying 36=zY (.pointer 247):=rfl
def OI{v:v_}{o:Option AM}(h:AS S H v o):AT prog 125 #[v] H (.int .i64 (stN o:Int)):=by cases o with|none=>obtain rfl:=h;refine Am.of_vc func125 rfl (call125 _) (Pi R6 ?_);(conv=>whnf);exact⟨rfl,A_.refl _ _⟩|some A=>obtain⟨pb,rfl,f,a,m,n,p,q,r,t,u,w,al,k,b,c,g,l,j,d⟩:=h;have e:A.cell.length<=256:=rH a.cell;refine Am.of_vc func125 rfl (call125 _) (Oo R6 (fa ?_));refine C_ (by rw[k.cell,N_];exact Fm e) zA ?_;(conv=>whnf);exact⟨rfl,A_.refl _ _⟩
def AL:Option AM->Int->Bool | none,_=>zU | some A,q=>zT (0<=q)&&(A.final[q.toNat]?).getD zU
def BS{v:v_}{o:Option AM}(h:AS S H v o):AT prog 90 #[v,B_ q] H (.bool (AL o q)):=by cases o with|none=>obtain rfl:=h;refine Am.of_vc func90 rfl (call90 _) (Te R6 ?_);(conv=>whnf);exact⟨rfl,A_.refl _ _⟩|some A=>{obtain⟨pb,rfl,l,c,z,B,C,D,E,F,G,I,al,m,g,j,d,u,p,k⟩:=h;have e:A.cell.length<=256:=rH c.cell;have w:=c.fl;have x:=c.n2;refine Am.of_vc func90 rfl (call90 _) ?_;cases q with|negSucc n=>refine PO R6 ?_;(conv=>whnf);exact⟨rfl,A_.refl _ _⟩|ofNat n=>refine PO R6 (fa ?_);refine C_ (by rw[m.cell,N_];exact Lo e) zA ?_;by_cases b:n<A.final.length;{have⟨f,r⟩:=Ai b;have hd:zT (As6 n<(A.final.length:Int))=zW:=a_ (by simpa using b);(conv=>whnf);rw[hd];refine fa ?_;refine C_ (by rw[m.cell,N_];exact Lo e) zA ?_;refine zP DT d r rfl ?_;rintro J K y t a rfl;refine lT a.one ?_;(conv=>whnf);exact⟨by simp[AL,r],A_.refl _ _⟩};have hd:zT (As6 n<(A.final.length:Int))=zU:=b_ (by simpa using b);(conv=>whnf);rw[hd];(conv=>whnf);exact⟨by simp[AL,yR (Nat.le_of_not_lt b)],A_.refl _ _⟩}
def YF{cell:List Nat}(h:cell[b]?=zY c):(BT cv cell nv fv av)[1+b]?=zY (.int .u8 (c:Int)):=by have a:=(P_.1 h).1;unfold BT;rw[qZ,Nat.add_comm,nI,yP,zE (by simpa using a),I',h];rfl
def Ao(o:Option AM)(q:Int)(b:Nat):Int:=if q<0\/(stN o:Int)<=q then -1 else match o with
  | none=>0
  | some A=>((A.next[q.toNat]?).getD []).getD (A.cell.getD b 0) 0
def iW{v:v_}{o:Option AM}(h:AS S H v o):1<=stN o/\stN o<=65536:=by cases o with|none=>simp[stN]|some A=>obtain⟨pb,rfl,b,a,_⟩:=h;exact⟨a.n1,a.n2⟩
def BW{v:v_}{o:Option AM}(K:∀k,S k->k<H.size)(h:AS S H v o)(r:b<256):AT prog 89 #[v,B_ q,.int .u8 (b:Int)] H (.int .i64 (Ao o q b)):=by refine Am.of_vc func89 rfl (call89 _) ?_;cases q with|negSucc n=>have hd:zT (Int.negSucc n<0)=zW:=a_ (eJ n);(conv=>whnf);rw[hd];(conv=>whnf);exact⟨by simp[Ao,eJ],A_.refl _ _⟩|ofNat n=>{refine Af (OI h) λH1 f=>?_;have B:=h.frame (f.mono K);by_cases p:stN o<=n;{have hd:zT ((stN o:Int)<=As6 n)=zW:=a_ (by simpa using p);(conv=>whnf);rw[hd];(conv=>whnf);exact⟨by simp[Ao,p],f⟩};have hd:zT ((stN o:Int)<=As6 n)=zU:=b_ (by simpa using p);(conv=>whnf);rw[hd];have m:∀x,x=(match o with | none=>(0:Int) | some A=>((A.next[n]?).getD []).getD (A.cell.getD b 0) 0)->Ao o (As6 n) b=x:=by{intro x L;subst L;unfold Ao;rw[G_ (by simp;omega)];cases o<;>rfl};cases o with|none=>obtain rfl:=B;refine Pi R6 ?_;(conv=>whnf);exact⟨by rw[m 0 rfl],f⟩|some A=>obtain⟨pb,rfl,C,g,T,U,V,W,X,Y,Z,ca,al,D,u,j,E,M,F,w⟩:=B;have y:A.cell.length<=256:=rH g.cell;simp only[stN]at p;have⟨row,a⟩:=Ai (l:=A.next) (k:=n) zO;have⟨c,z⟩:=Ai (l:=A.cell) (k:=b) (by rw[g.cell];exact r);have N:=(g.rows row (Y_ a)).1;have O:=g.places c (Y_ z);have⟨t,G⟩:=Ai (l:=row) (k:=c) zO;refine Oo R6 (Ap.lex rfl zX (fa ?_));refine C_ (by rw[D.cell,N_];exact Fm y) zA ?_;refine zP CS j a rfl ?_;rintro b2 o2 P I d ⟨ra,rc,rfl,Q⟩;refine C_ d.one zA (fa ?_);refine yX gN zO zO ?_;refine C_ (v:=.int .u8 (c:Int)) (by rw[D.cell,(zO:0+1+(b:Int).toNat*1=1+b)];exact YF z) zA ?_;refine zP AQ Q G rfl ?_;rintro b3 o3 R J e ⟨rfl,-⟩;refine lT e.one ?_;(conv=>whnf);exact⟨by rw[m t (by simp[a,z,G,yV])],f⟩}
def Ya(o:Option AM)(s:ByteArray)(k:Nat):Int:=(s.data.toList.take k).foldl (λq b=>Ao o q b.toNat) 0
def Yb{o:Option AM}{s:ByteArray}{b:UInt8}(h:s.data[k]?=zY b):Ya o s (k+1)=Ao o (Ya o s k) b.toNat:=by unfold Ya;rw[Aj (x:=b) (by rw[eF];exact h),wE];rfl
def lL:prog.underlying 9=zY .string:=rfl
def Zy{s:ByteArray}(h:k<s.size):∃b,s.data[k]?=zY b:=⟨s.data[k]'h,tE h⟩
def Ee(o:Option AM)(s:ByteArray):Bool:=AL o (Ya o s s.size)
def GK{v:v_}{o:Option AM}{s:ByteArray}(e:∀k,S k->k<H.size)(h:AS S H v o)(hs:s.size<=maxLen):AT prog 55 #[v,.string s] H (.bool (Ee o s)):=by unfold maxLen at hs;refine Am.of_vc func55 rfl (call55 _) ?_;(conv=>whnf);refine AD.mk [5,9] (λk:Nat=>[B_ (Ya o s k),B_ k]) (λk H2=>k<=s.size/\A_ (F_ H) H H2) (λk _=>s.size-k) ?_ ?_;{(conv=>whnf);exact⟨0,rfl,zO,A_.refl _ _⟩};rintro k H2 f ⟨d,a⟩;have g:=h.frame (a.mono e);refine Av.m2 (λh=>?_) (λh=>?_);{have⟨b,j⟩:=Zy (s:=s) (k:=k) zO;refine En lL rfl j (Af (BW (λk d=>Ak a (e k d)) g (UInt8.toNat_lt b)) λH3 c=>?_);(conv=>whnf);rw[S_ k zO];exact⟨rfl,k+1,by rw[Yb j];simp,⟨zO,a.trans (c.mono λk d=>Ak a d)⟩,zO⟩};obtain rfl:k=s.size:=zO;refine Af (BS g) λH3 c=>?_;(conv=>whnf);exact⟨rfl,a.trans (c.mono λk d=>Ak a d)⟩
open Classical in
noncomputable def Q4:Option AM->Int->Bool
 | none,_=>zU
 | some A,q=>zT (Es A.next A.final q.toNat)
def TN{A:AM}(d:A.Ok)(h0:0<=q)(m:q<A.next.length)(h:b<256):0<=Ao (zY A) q b/\Ao (zY A) q b<A.next.length:=by obtain⟨n,rfl⟩:=uF h0;have⟨row,a⟩:=Ai (l:=A.next) (k:=n) zO;have⟨c,f⟩:=Ai (l:=A.cell) (k:=b) (by rw[d.cell];exact h);have e:=d.rows row (Y_ a);have j:=d.places c (Y_ f);have⟨t,g⟩:=Ai (l:=row) (k:=c) zO;unfold Ao;rw[G_ (by simp[stN];omega)];simp only[zG,a,yV,f,rI,g];exact e.2 t (Y_ g)
def Js:Co.Ones:=by intro S H b x h u a;obtain rfl:=h;simp[Ag]at a;rcases a with rfl | rfl | rfl | rfl<;>rfl
def Ym:Co.Free:=λS S' H H' a x h=>h
def c_.ofBlk{α:Type}{T:Ty α}{l:List v_}{xs:List α}(a:L_ H b e l)(c:S b)(d:T.reps S H l xs)(f:n=xs.length)(g:n<=maxLen):c_ T S H (k_ b) n xs:=c_.intro c (rH f.symm) g (a.cells (λj v h=>by rw[N_];exact h)) d
def Au:Option AM->List (BitVec 256)| none=>[ApZ 256]| some A=>A.sets
def Jb{v:v_}{o:Option AM}(x:∀k,S k->k<H.size)(h:AS S H v o):Am prog 126 #[v] H λy H'=>A_ (F_ H) H H'/\H.size<=H'.size/\h_ Co (λ_=>False) H' H.size 65 y (Au o):=by refine Am.of_vc func126 rfl (call126 _) ?_;cases o with|none=>obtain rfl:=h;refine Pi R6 (Af (GF 0 255 zQ zQ H) λH1 f=>?_);rw[Ks];have z:=Ay f;refine Az Cj (Ag (ApZ 256)) rfl rfl zQ zQ ?_;intro b H2 m g p d;(conv=>whnf);exact⟨f.trans (d.mono λk j=>by unfold F_ at j;omega),zO,h_.ofBlk zO p (Ty.reps_one rfl) rfl zQ⟩|some A=>obtain⟨pb,rfl,t,l,E,F,G,I,J,K,L,M,al,m,e,q,u,B,w,r⟩:=h;have C:A.cell.length<=256:=rH l.cell;have D:=l.sl;refine Oo R6 (E_ ?_);refine C_ (by rw[m.cell];exact MO) zA ?_;refine OU (T:=Co) (S:=S) (lo:=H.size) (xs:=[]) Cj Js h_.nil (I_ _) (λk j=>⟨x k j,?_⟩) e (by simp only[maxLen,i_];omega) (by simp only[i_];omega) ?_;{rintro⟨o,n,c,h⟩;cases h};intro N H2 a d g _;rw[nS]at a;(conv=>whnf);exact⟨d.mono λk j=>⟨j,λm=>by have⟨o,n,c,h⟩:=m;cases h⟩,g,a.free Ym⟩
end
def JW(s b:BitVec 256):List (BitVec 256):=[b &&& s,b &&& ~~~s].filter λx=> !zT (x=0)
def Mt(bl:List (BitVec 256))(s:BitVec 256):List (BitVec 256):=bl.flatMap (JW s)
def Cw(sets:List (BitVec 256)):List (BitVec 256):=sets.foldl Mt [ApZ 256]
def BP(bl:List (BitVec 256))(b:Nat):List (BitVec 256):=bl.filter λs=>(AI s 0).1==b
def Bg(sets:List (BitVec 256)):List (BitVec 256):=(ApW 256).flatMap (BP (Cw sets))
def BH(sets:List (BitVec 256)):List Nat:=(Bg sets).map λc=>(AI c 0).1
def Xn(x:BitVec 256)(h:∀b,b<256->x.getLsbD b=zU):x=0:=by apply BitVec.eq_of_getLsbD_eq;intro i a;rw[h i a];simp
def FA(h:x≠0):x.getLsbD (AI x 0).1=zW/\∀b,b<(AI x 0).1->x.getLsbD b=zU:=by unfold AI;cases e:(ApW 256).find? λb=>zT (0<=b)&&x.getLsbD b with|none=>exfalso;apply h;apply Xn;intro b f;have:=List.find?_eq_none.1 e b (xO.2 f);simpa using this|some c=>have g:=List.find?_some e;simp only[V_,decide_true,sI]at g;refine⟨g,λb f=>?_⟩;have j:c<256:=by{simpa using dG e};obtain⟨_,i,k,a,d⟩:=List.find?_eq_some_iff_getElem.1 e;simp only[List.getElem_range]at a;subst a;have:=d b f;simpa using this
def Ai9(s b:BitVec 256):∀x∈JW s b,x≠0:=λx a=>by
 have:=(yS.1 a).2;simpa using this
def Ai8(s b:BitVec 256)(h:b.getLsbD c=zW):∃x∈JW s b,x.getLsbD c=zW:=by
 have f:c<256:=by{apply Classical.byContradiction;intro j;rw[BitVec.getLsbD_of_ge _ _ zO]at h;cases h};have a:∀x:BitVec 256,x.getLsbD c=zW->x≠0:=λx e g=>by rw[g]at e;simp at e
 cases hs:s.getLsbD c with|true=>have d:(b &&& s).getLsbD c=zW:=by{rw[wN,h,hs];rfl};exact⟨b &&& s,yS.2 ⟨zZ,by rw[b_ (a _ d)];rfl⟩,d⟩|false=>have d:(b &&& ~~~s).getLsbD c=zW:=by{rw[wN,rU,h,hs];simp[f]};exact⟨b &&& ~~~s,yS.2 ⟨zZ,by rw[b_ (a _ d)];rfl⟩,d⟩
def VW(s b:BitVec 256)(a:x∈JW s b)(h:x.getLsbD c=zW):b.getLsbD c=zW:=by have:=(yS.1 a).1;rcases J'.1 this with rfl | this;{rw[wN,o_]at h;exact h.1};rw[Q_]at this;subst this;rw[wN,o_]at h;exact h.1
def Zc(s b:BitVec 256)(f:x∈JW s b){d:Nat}(h:x.getLsbD c=zW)(k:x.getLsbD d=zW):s.getLsbD c=s.getLsbD d:=by have:=(yS.1 f).1;rcases J'.1 this with rfl | this;{rw[wN,o_]at h k;rw[h.2,k.2]};rw[Q_]at this;subst this;rw[wN,o_,rU]at h k;have a:=h.2;have e:=k.2;simp only[o_,wD]at a e;rw[a.2,e.2]
def Xt(h:x≠0):1<=BB x:=by have b:=(FA h).1;have c:=Ch x 0;unfold BB;exact List.length_pos_of_mem (a:=(AI x 0).1) (yS.2 ⟨xO.2 c,b⟩)
def NK(p q r:Nat->Bool):∀l:List Nat,(∀c∈l,(p c=zW/\q c=zU/\r c=zW)\/(p c=zU/\q c=zW/\r c=zW)\/(p c=zU/\q c=zU/\r c=zU))->(l.filter p).length+(l.filter q).length=(l.filter r).length | [],_=>rfl | c::l,h=>by have f:=NK p q r l λd hd=>h d (yD _ hd);rcases h c yN with⟨a,b,e⟩ | ⟨a,b,e⟩ | ⟨a,b,e⟩<;>simp only[sN,a,b,e,if_true,uE,if_false,U_]<;>omega
def Xs(s b:BitVec 256):BB (b &&& s)+BB (b &&& ~~~s)=BB b:=by
 unfold BB;refine NK _ _ _ _ λc a=>?_;have a:=xO.1 a;have d:(b &&& s).getLsbD c=(b.getLsbD c&&s.getLsbD c):=wN;have e2:(b &&& ~~~s).getLsbD c=(b.getLsbD c&& !s.getLsbD c):=by rw[wN,rU];simp[a]
 rw[d,e2];cases b.getLsbD c<;>cases s.getLsbD c<;>simp
def U6:BB 0=0:=by unfold BB;simp
def AdB(s b:BitVec 256):((JW s b).map BB).sum=BB b:=by rw[<-Xs s b];unfold JW;have a:∀x:BitVec 256,(([x].filter λx=> !zT (x=0)).map BB).sum=BB x:=λx=>by{by_cases h:x=0;{subst h;rw[U6];rfl};rw[vF (by rw[b_ h];rfl)];simp};rw[show [b &&& s,b &&& ~~~s]=[b &&& s]++[b &&& ~~~s]from rfl,uH,xV,eT,a,a]
structure Io(bl sets:List (BitVec 256)):Prop where
 ne:∀x∈bl,x≠0
 all:∀c,c<256->∃x∈bl,x.getLsbD c=zW
 same:∀x∈bl,∀c d,x.getLsbD c=zW->x.getLsbD d=zW->∀s∈sets,s.getLsbD c=s.getLsbD d
 sum:(bl.map BB).sum=256
def Io.len{a sets:List (BitVec 256)}(h:Io a sets):a.length<=256:=by refine V' ?_ (rH h.sum);have b:∀l:List (BitVec 256),(∀x∈l,x≠0)->l.length<=(l.map BB).sum:=by{intro l;induction l with|nil=>intro _;exact I_ _|cons x l c=>intro h;have:=c λy d=>h y (yD _ d);have:=Xt (h x yN);simp only[U_,xY,pF];omega};exact b a h.ne
def Io.cut{j sets:List (BitVec 256)}(h:Io j sets)(s:BitVec 256):Io (Mt j s) (sets++[s]):=by refine⟨λx a=>?_,λc m=>?_,λx a c d e g t f=>?_,?_⟩;{have⟨b,k,a⟩:=uS.1 a;exact Ai9 s b x a};{have⟨b,k,l⟩:=h.all c m;have⟨x,a,e⟩:=Ai8 s b l;exact⟨x,uS.2 ⟨b,k,a⟩,e⟩};{have⟨b,k,a⟩:=uS.1 a;rcases n_.1 f with f | f;{exact h.same b k c d (VW s b a e) (VW s b a g) t f};rw[Q_]at f;subst f;exact Zc t b a e g};refine Eq.trans ?_ h.sum;unfold Mt;clear h;induction j with|nil=>rfl|cons b j n=>rw[vG,xV,eT,n,AdB,xY,pF]
def HE(sets:List (BitVec 256)):Io (Cw sets) sets:=by have b:∀(rest done a:List (BitVec 256)),Io a done->Io (rest.foldl Mt a) (done++rest):=by{intro rest;induction rest with|nil=>intro done a h;simpa using h|cons s rest f=>intro done a h;have:=f (done++[s]) (Mt a s) (h.cut s);simpa using this};refine b sets [] [ApZ 256] ⟨λx e=>?_,λc g=>⟨_,Q_.2 rfl,by rw[rD];exact a_ g⟩,λx e c d _ _ s hs=>(by cases hs),zX⟩;rw[Q_]at e;subst e;decide
def IC(sets:List (BitVec 256)):(BH sets).Pairwise (·<=·):=by unfold BH Bg;rw[List.pairwise_map];have a:∀b x,x∈BP (Cw sets) b->(AI x 0).1=b:=λb x c=>by{have:=(yS.1 c).2;simpa using this};have e:∀l:List Nat,l.Pairwise (·<·)->(l.flatMap (BP (Cw sets))).Pairwise λx y=>(AI x 0).1<=(AI y 0).1:=by{intro l;induction l with|nil=>intro _;exact List.Pairwise.nil|cons b l g=>intro h;have⟨j,k⟩:=List.pairwise_cons.1 h;rw[vG,vW];refine⟨?_,g k,λx c y d=>?_⟩;{refine List.pairwise_of_forall_mem_list λx c y d=>?_;rw[a b x c,a b y d];exact I_ _};have⟨b',f,d⟩:=uS.1 d;rw[a b x c,a b' y d];exact Nat.le_of_lt (j b' f)};exact e _ List.pairwise_lt_range
def KV(sets:List (BitVec 256)):∀r∈BH sets,r<256:=λr a=>by
 obtain⟨x,-,rfl⟩:=yT.1 a;exact Ch x 0
def cR(sets:List (BitVec 256))(d:c<256):∃r∈BH sets,r<=c/\∀s∈sets,s.getLsbD r=s.getLsbD c:=by have h:=HE sets;have⟨x,b,a⟩:=h.all c d;have⟨e,f⟩:=FA (h.ne x b);refine⟨(AI x 0).1,yT.2 ⟨x,uS.2 ⟨(AI x 0).1,xO.2 (Ch x 0),yS.2 ⟨b,zZ⟩⟩,rfl⟩,?_,λs hs=>h.same x b _ _ e a s hs⟩;apply Classical.byContradiction;intro g;have:=f c zO;rw[a]at this;cases this
def NJ(k:Nat):∀n,((ApW n).filter λb=>k==b).length=if k<n then 1 else 0
 | 0=>rfl
 | n+1=>by
   rw[wS,uH,M_,NJ k n,sN,List.filter_nil];cases a:(k==n)with
   | true=>
     have h:=beq_iff_eq.1 a;subst h;simp
   | false=>
     have h:k≠n:=λh=>by rw[h]at a;simp at a
     rw[G_ (show¬(zU=zW) by decide)];by_cases c:k<n
     ·rw[H_ c,H_ (zO:k<n+1)]<;>rfl
     ·rw[G_ c,G_ (show¬k<n+1 by omega)]<;>rfl
def reps_len(sets:List (BitVec 256)):(Bg sets).length<=256:=by have h:=(HE sets).len;have c:∀(a:List (BitVec 256)),((ApW 256).flatMap (BP a)).length=a.length:=by{intro a;induction a with|nil=>have:∀l:List Nat,l.flatMap (BP [])=[]:=λl=>by{simp[BP]};rw[this]|cons x a d=>{have e:∀l:List Nat,(l.flatMap (BP (x::a))).length=(l.flatMap (BP a)).length+(l.filter λb=>(AI x 0).1==b).length:=by{intro l;induction l with|nil=>rfl|cons b l d=>rw[vG,vG,M_,M_,d,sN];have:(BP (x::a) b).length=(BP a b).length+if((AI x 0).1==b)=zW then 1 else 0:=by{unfold BP;rw[sN];split<;>simp};rw[this];split<;>simp<;>omega};rw[e,d,U_];congr 1;rw[NJ,H_ (Ch x 0)]}};unfold Bg;rw[c];exact h
def D_.newCap{α:Type}{T:Ty α}{H':Aa}{l:List v_}(d:D_ B H0 H ps)(f:b=H.size)(hs:H'.size=b+1)(a:L_ H' b e l)(g:A_ (λk=>k<b) H H')(j:l.length=cap*T.size)(m:cap<=maxLen):D_ B H0 H' (ps++[pS T e (k_ b) 0 cap []]):=by subst f;have h:=Sl.made (sz:=T.size) (n:=0) (cap:=cap) (V_ _) a (V_ _) m j;rw[Nat.zero_mul,nT]at h;refine d.add (g.mono λk a=>a) _ ⟨⟨[],h,rfl⟩,λk a=>a.elim⟩ λk a=>?_;rcases a with⟨o,p,c,h⟩ | h;{cases h;omega};exact h.elim
def Za(s b:BitVec 256):(JW s b).length<=2:=V' (r' _ _) (I_ 2)
def PM(s:BitVec 256):∀a:List (BitVec 256),(a.flatMap (JW s)).length<=2*a.length | []=>I_ _ | b::a=>by have c:=PM s a;have d:=Za s b;rw[vG,M_,U_];omega
def LR{α β:Type}(f:α->List β){l:List α}{x:α}(h:l[k]?=zY x):(l.take (k+1)).flatMap f=(l.take k).flatMap f++f x:=by rw[Aj h,tF];simp
def Sn{sets:List (BitVec 256)}{s:BitVec 256}(h:sets[k]?=zY s):Cw (sets.take (k+1))=(Cw (sets.take k)).flatMap (JW s):=by unfold Cw;rw[Aj h,wE];rfl
def AmX:(prog.info? 289).bind (·.zero)=zY (.agg #[.int .u64 0,.int .u64 0,.int .u64 0,.int .u64 0,.int .u64 0,.int .u64 0,.int .u64 0,.int .u64 0]):=zX
def Al4(x y:BitVec 256):Instr.fill (λi=>zY (i*4,4)) (Value.agg #[.int .u64 0,.int .u64 0,.int .u64 0,.int .u64 0,.int .u64 0,.int .u64 0,.int .u64 0,.int .u64 0]).cells [(0,AX x),(1,AX y)]=zY (Ag x++Ag y).toArray:=by unfold AX Ag;generalize wd x 0=a;generalize wd x 1=a1;generalize wd x 2=a2;generalize wd x 3=a3;generalize wd y 0=b;generalize wd y 1=c;generalize wd y 2=d;generalize wd y 3=e;simp[Instr.fill,Value.cells]
def KZ(s:BitVec 256):As (Ag 0) 0 (Ag s)=Ag s:=by simp[As,Ag]
def Hl{sc:Nat}{sets:List (BitVec 256)}(hS:∀k,S k->k<H.size)(h:c_ Co S H ra sc sets)(c5:sets.length<=33554432):Am prog 127 #[.slice ra sets.length sc] H λv H'=>A_ (F_ H) H H'/\∃a cap,v= .slice a (Bg sets).length cap/\c_ Co (F_ H') H' a cap (Bg sets):=by
 refine Am.of_vc func127 rfl (call127 _) (Af (GF 0 255 zQ zQ H) λH1 ay=>?_);rw[Ks];have st1:=(St.nil H).call ay;refine Az Cj (Ag (ApZ 256)) rfl rfl zQ zQ ?_;intro b2 H2 az b0 b5 b6;have b7:=st1.new (T:=Co) (n:=1) (xs:=[ApZ 256]) az b0 b5 b6 (Ty.reps_one rfl) rfl zQ;(conv=>whnf);refine AD.mk [3,21] (λx:Nat×List (BitVec 256)×Option Addr×Nat=>match x with | (k,g,a,c)=>[.slice a g.length c,B_ k]) (λx H3=>x.1<=sets.length/\x.2.1=Cw (sets.take x.1)/\St H H3 [pS Co 65 x.2.2.1 x.2.1.length x.2.2.2 x.2.1]) (λx _=>sets.length-x.1) ?_ ?_;{(conv=>whnf);exact⟨(0,[ApZ 256],zY ⟨b2,0,zV⟩,1),rfl,zZ,rfl,b7⟩};rintro⟨k,g,a3,c3⟩ H3 bv ⟨hk,E,J⟩;simp only at hk E J;have L:=HE (sets.take k);rw[<-E]at L;have bw:=L.len;refine Av.m2 (λhz=>?_) (λhz=>?_);{have⟨s,hs⟩:=Ai (l:=sets) (k:=k) zO;have F:=Sn hs;rw[<-E]at F;refine zP (i:=k) Cj (h.frame (J.old.mono hS)) hs rfl ?_;rintro b4 o4 c8 bx G rfl;refine K_ (cs:=Ag s) G zA (Aq (AX 0) (Ag 0) rfl rfl ?_);intro p5 H5 M N K O;have P:=J.box M N K O;refine AB (cs:=Ag s) P 1 rfl rfl (zQ:0+4<=4) rfl λH6 B=>?_;rw[KZ]at B;(conv=>whnf);refine AD.mk [6,27] (λx:Nat×List (BitVec 256)×Option Addr×Nat=>match x with | (j,nx,a,c)=>[.slice a nx.length c,B_ j]) (λx H7=>x.1<=g.length/\x.2.1=(g.take x.1).flatMap (JW s)/\St H H7 [pS Co 65 a3 g.length c3 g,pB 65 p5 (Ag s),pS Co 65 x.2.2.1 x.2.1.length x.2.2.2 x.2.1]) (λx _=>g.length-x.1) ?_ ?_;{(conv=>whnf);exact⟨(0,[],zV,0),rfl,zZ,rfl,D_.nils B Co 65⟩};rintro⟨j,nx,a7,c7⟩ H7 Q ⟨hj,r,w⟩;simp only at hj r w;refine Av.m2 (λR=>?_) (λR=>?_);{have⟨b,hb⟩:=Ai (l:=g) (k:=j) zO;have b9:=PM s (g.take j);rw[<-r,vL]at b9;refine xM (j:=j) Cj w 0 rfl hb rfl λb8 o8 bd be U V=>?_;obtain rfl:=V;refine K_ (cs:=Ag b) U zA (Aq (AX 0) (Ag 0) rfl rfl ?_);intro p9 H9 bf bh bj bn;have W:=w.box bf bh bj bn;refine AB (cs:=Ag b) W 3 rfl rfl (zQ:0+4<=4) rfl λH10 q=>?_;rw[KZ]at q;refine Ap.held (F_ H10) 99 (sq [0,1,3,4,7] (.f 2 (.f 5 (sq [6] .e)))) rfl zX ?_;have q5:=q.blk 1 rfl;have q9:=q.blk 3 rfl;refine K_ (cs:=Ag b) (q9.cells λj v t=>by rw[N_];exact t) q9.lt ?_;refine K_ (cs:=Ag s) (q5.cells λj v t=>by rw[N_];exact t) q5.lt ?_;refine K_ (cs:=Ag b) (q9.cells λj v t=>by rw[N_];exact t) q9.lt ?_;refine K_ (cs:=Ag s) (q5.cells λj v t=>by rw[N_];exact t) q5.lt ?_;refine Af (UY b s H10) λH11 u=>?_;have y:=q.call u;refine⟨u,?_⟩;refine Af (W0 b s H11) λH12 C=>?_;have I:=y.call C;refine⟨u.trans (C.mono λk hk=>Ak u hk),?_⟩;refine Em gO _ AmX (Ag (b &&& s)++Ag (b &&& ~~~s)) (Al4 _ _) ?_;have a0:JW s b=[b &&& s,b &&& ~~~s].filter λx=> !zT (x=0):=rfl;generalize b &&& s=x0 at*;generalize b &&& ~~~s=x1 at*;(conv=>whnf);refine AD.mk [6,38] (λx:Nat×List (BitVec 256)×Option Addr×Nat=>match x with | (i,nx,a,c)=>[.slice a nx.length c,B_ i]) (λx H13=>x.1<=2/\x.2.1=nx++([x0,x1].take x.1).filter (λx=> !zT (x=0))/\x.2.1.length<=nx.length+x.1/\St H H13 [pS Co 65 a3 g.length c3 g,pB 65 p5 (Ag s),pS Co 65 x.2.2.1 x.2.1.length x.2.2.2 x.2.1,pB 65 p9 (Ag b)]) (λx _=>2-x.1) ?_ ?_;{(conv=>whnf);exact⟨(0,nx,a7,c7),rfl,zZ,zZ,zZ,I⟩};rintro⟨i,ny,a8,a9⟩ H13 aw ⟨hi,X,ab,z⟩;simp only at hi X ab z;refine Av.m2 (λY=>?_) (λY=>?_);{have bo:i=0\/i=1:=zO;obtain⟨x,hx⟩:∃x,[x0,x1][i]?=zY x:=Ai (by simp;omega);have e:Value.agg (((Ag x0++Ag x1).toArray).extract ((i:Int).toNat*4) ((i:Int).toNat*4+4))=AX x:=by{rcases bo with rfl | rfl<;>cases hx<;>rfl};have m:nx++([x0,x1].take (i+1)).filter (λx=> !zT (x=0))=ny++[x].filter (λx=> !zT (x=0)):=by{rw[X,Aj hx,uH,yP]};refine AC.run (lG (i:=(i:Int)) gO zO (show(i:Int)<((2:Nat):Int) by omega) ?_);rw[e];refine BO z (AX 0) (Ag 0) rfl rfl λc9 H14 ad=>(AB (cs:=Ag x) ad 4 rfl rfl (zQ:0+4<=4) rfl λH15 D=>?_);rw[KZ]at D;have ae:=D.blk 4 rfl;refine K_ (cs:=Ag x) (ae.cells λj v t=>by rw[N_];exact t) zA ?_;refine Em De (AX 0) rfl (Ag 0) rfl (No x 0 ?_);by_cases ah:x=0;{have d:(!zT (x=0))=zU:=by{rw[a_ ah];rfl};rw[d];have Z:[x].filter (λx=> !zT (x=0))=[]:=uG (p:=λx=> !zT (x=0)) (by rw[d];decide);rw[Z,xZ]at m;(conv=>whnf);rw[S_ i zO];refine⟨rfl,(i+1,ny,a8,a9),zZ,⟨by simp only;omega,m.symm,by simp only;omega,?_⟩,by simp only;omega⟩;exact D.pick [0,1,2,3] zQ};have d:(!zT (x=0))=zW:=by{rw[b_ ah];rfl};rw[d];have Z:[x].filter (λx=> !zT (x=0))=[x]:=vF (p:=λx=> !zT (x=0)) d;rw[Z]at m;refine K_ (cs:=Ag x) (ae.cells λj v t=>by rw[N_];exact t) zA ?_;refine Az Cj (Ag x) rfl rfl zQ zQ ?_;intro cd H16 ai bz aj ak;have am:=D.skip ai ak;refine Uj (ys:=[x]) (ds:=Ag x) am 2 Cj rfl (aj.cells λj v t=>by rw[N_];exact t) (Ty.reps_one rfl) rfl (by simp[Ag,Value.oneCell']) (by simp only[g_];omega) zQ λa' c' H17 ao _=>?_;(conv=>whnf);rw[S_ i zO];refine⟨rfl,(i+1,ny++[x],a',c'),zZ,⟨by simp only;omega,m.symm,by simp only[M_,g_];omega,?_⟩,by simp only;omega⟩;simp only[M_];exact ao.pick [0,1,2,3] zQ};obtain rfl:i=2:=zO;have bp:ny=(g.take (j+1)).flatMap (JW s):=by{rw[LR (JW s) hb,<-r,X,a0];rfl};(conv=>whnf);rw[S_ j zO];refine⟨rfl,(j+1,ny,a8,a9),zZ,⟨by simp only;omega,bp,?_⟩,by simp only;omega⟩;exact z.pick [0,1,2] zQ};obtain rfl:j=g.length:=zO;rw[yH]at r;(conv=>whnf);rw[S_ k zO];refine⟨rfl,(k+1,nx,a7,c7),zZ,⟨by simp only;omega,by simp only;rw[F,r],?_⟩,by simp only;omega⟩;exact w.pick [2] zQ};obtain rfl:k=sets.length:=zO;rw[yH]at E L;have c2:∀x:BitVec 256,((AI x 0).1:Int)=((AI x 0).1:Int):=λ_=>rfl;refine mR Cj zO zO zO zO ?_;intro p5 H5 M N K O;rw[zG]at K;rw[zG,Int.toNat_zero];have P:=J.newCap (T:=Co) (cap:=g.length) M N K O (by simp[Co]) (by unfold maxLen;omega);have ce:=reps_len sets;(conv=>whnf);refine AD.mk [11,55] (λx:Nat×List (BitVec 256)×Option Addr×Nat=>match x with | (b,out,a,c)=>[.slice a out.length c,B_ b]) (λx H6=>x.1<=256/\x.2.1=(ApW x.1).flatMap (BP g)/\St H H6 [pS Co 65 a3 g.length c3 g,pS Co 65 x.2.2.1 x.2.1.length x.2.2.2 x.2.1]) (λx _=>256-x.1) ?_ ?_;{(conv=>whnf);exact⟨(0,[],zY ⟨p5,0,zV⟩,g.length),rfl,zZ,rfl,P⟩};rintro⟨b,out,a6,c6⟩ H6 bq ⟨hb,A,B⟩;simp only at hb A B;have cg:out.length<=b*256:=by{rw[A];clear A;induction b with|zero=>simp|succ b ih=>have h1:=ih zO;have h2:(BP g b).length<=g.length:=r' _ _;rw[wS,tF,M_];simp only[vG,List.flatMap_nil,xZ];omega};refine Av.m2 (λR=>?_) (λR=>?_);{have m:(ApW (b+1)).flatMap (BP g)=out++BP g b:=by{rw[A,wS,tF];simp};(conv=>whnf);refine AD.mk [11,60] (λx:Nat×List (BitVec 256)×Option Addr×Nat=>match x with | (j,o,a,c)=>[.slice a o.length c,B_ j]) (λx H7=>x.1<=g.length/\x.2.1=out++(g.take x.1).filter (λs=>(AI s 0).1==b)/\x.2.1.length<=out.length+x.1/\St H H7 [pS Co 65 a3 g.length c3 g,pS Co 65 x.2.2.1 x.2.1.length x.2.2.2 x.2.1]) (λx _=>g.length-x.1) ?_ ?_;{(conv=>whnf);exact⟨(0,out,a6,c6),rfl,zZ,zZ,zZ,B⟩};rintro⟨j,o,a7,c7⟩ H7 Q ⟨hj,ho,br,w⟩;simp only at hj ho br w;refine Av.m2 (λY=>?_) (λY=>?_);{have⟨x,hx⟩:=Ai (l:=g) (k:=j) zO;have r:out++(g.take (j+1)).filter (λs=>(AI s 0).1==b)=o++[x].filter (λs=>(AI s 0).1==b):=by{rw[ho,Aj hx,uH,yP]};refine AC.run (xM (j:=j) Cj w 0 rfl hx rfl λb8 o8 bd be U V=>?_);obtain rfl:=V;refine K_ (cs:=Ag x) U zA (BO w (AX 0) (Ag 0) rfl rfl λp9 H9 W=>(AB (cs:=Ag x) W 2 rfl rfl (zQ:0+4<=4) rfl λH10 q=>?_));rw[KZ]at q;refine K_ (cs:=Ag x) ((q.blk 2 rfl).cells λj v t=>by rw[N_];exact t) zA ?_;refine Af (Kk x 0 zQ H10) λH11 u=>?_;have y:=q.call u;have bu:=y.blk 2 rfl;have ch:=Ch x 0;(conv=>whnf);rw[m_ (x:=((AI x 0).1:Int)) zO];cases hd:((AI x 0).1==b)with|false=>have d:(((AI x 0).1:Int)==(b:Int))=zU:=by{rw[beq_eq_false_iff_ne]at hd ⊢;omega};have Z:[x].filter (λs=>(AI s 0).1==b)=[]:=uG (p:=λs=>(AI s 0).1==b) (by rw[hd];decide);rw[Z,xZ]at r;(conv=>whnf);rw[d];(conv=>whnf);rw[S_ j zO];refine⟨rfl,(j+1,o,a7,c7),zZ,⟨by simp only;omega,r.symm,by simp only;omega,?_⟩,by simp only;omega⟩;exact y.pick [0,1] zQ|true=>have d:(((AI x 0).1:Int)==(b:Int))=zW:=by{rw[beq_iff_eq]at hd ⊢;omega};have Z:[x].filter (λs=>(AI s 0).1==b)=[x]:=vF (p:=λs=>(AI s 0).1==b) hd;rw[Z]at r;(conv=>whnf);rw[d];refine K_ (cs:=Ag x) (bu.cells λj v t=>by rw[N_];exact t) zA ?_;refine Az Cj (Ag x) rfl rfl zQ zQ ?_;intro ci H12 ap c4 aq C;have I:=y.skip ap C;refine Uj (ys:=[x]) (ds:=Ag x) I 1 Cj rfl (aq.cells λj v t=>by rw[N_];exact t) (Ty.reps_one rfl) rfl (by simp[Ag,Value.oneCell']) (by simp only[g_];omega) zQ λa' c' H13 z _=>?_;(conv=>whnf);rw[S_ j zO];refine⟨rfl,(j+1,o++[x],a',c'),zZ,⟨by simp only;omega,r.symm,by simp only[M_,g_];omega,?_⟩,by simp only;omega⟩;simp only[M_];exact z.pick [0,1] zQ};obtain rfl:j=g.length:=zO;rw[yH]at ho;(conv=>whnf);rw[S_ b zO];exact⟨rfl,(b+1,o,a7,c7),zZ,⟨by simp only;omega,by simp only;rw[m,ho];rfl,w⟩,by simp only;omega⟩};obtain rfl:b=256:=zO;have au:out=Bg sets:=by rw[A,E];rfl
 have t:=B.view 1 rfl;subst au;(conv=>whnf);exact⟨B.old,_,_,rfl,t⟩
section
variable{α:Type}{T:Ty α}{a:Option Addr}
def AhR{xs ys:List α}{ty by_:Nat}{a2:Option Addr}{c2:Nat}(w:T.Free)(f:T.Ones)(m:D_ B H0 H ps)(i:Nat)(x:SlT P t e T.size by_ z)(p:ps[i]?=zY (pS T e a n cap xs))(g:∀k,S k->B k)(y:c_ T S H a2 c2 ys)(q:xs.length+ys.length<=8796093022208) (hby:by_<=16)(k:∀a' d H',D_ B H0 H' (ps.set i (pS T e a' (xs.length+ys.length) d (xs++ys)))->K (.slice a' (xs.length+ys.length) d) H'):Bu P (Builtin.append_ #[t,t] ty [.slice a n cap,.slice a2 ys.length c2].toArray) H K:=by refine OU (T:=T) (S:=S) (lo:=0) x f ((m.at_ i p).1.free w) (V_ _) (λk c=>⟨m.up (g k c),λr=>(m.in_ i p (.inl r)).1 (g k c)⟩) y (by unfold maxLen;omega) (by have:=rW q hby;omega) ?_;intro A H' b j u l;have b:h_ T none_ H' 0 e A (xs++ys):=b.free w;obtain⟨a',d,rfl⟩:=b.hull;rw[M_]at b l ⊢;refine k a' d H' (m.upd i p (j.mono λk c=>⟨c.1,λr=>c.2 (.inl r)⟩) _ ⟨b,λk c=>c.elim⟩ (λk c=>?_) (λk c=>?_) u);{rcases c with c | c;{rcases l k c with h | h;{exact .inl (.inl h)};exact .inr h};exact c.elim};rcases c with c | c;{exact(b.lt c).2};exact c.elim
def D_.capI{xs:List α}(d:D_ B H0 H ps)(i:Nat)(f:ps[i]?=zY (pS T e a n cap xs)):xs.length<=cap:=by obtain⟨j,⟨-,h⟩,-⟩:=(d.at_ i f).1;rcases h with⟨-,h⟩ | ⟨b,c,l,g,-,-,k,-⟩;{omega};injection g with e1 e2 e3;omega
def D_.popI{xs:List α}{x:α}(f:D_ B H0 H ps)(i:Nat)(g:ps[i]?=zY (pS T e a n cap (xs++[x]))):D_ B H0 H (ps.set i (pS T e a xs.length cap xs)):=by have d:=(f.at_ i g).1;refine f.say i g _ ⟨d.pop,λk b=>b.elim⟩ λk b=>?_;rcases b with⟨o,m,c,b⟩ | b;{injection b with e1 e2 e3;subst e1;exact .inl ⟨o,n,cap,rfl⟩};exact b.elim
end
def AlF{α:Type}{Ok:α->Prop}{enc:α->v_}{t et vt:x_}{N:Nat}{m:α->Option v_}(E:D4 P t kt et z)(h:Fx Ok enc H b m)(F:S b)(G:∀l:List α,l.Nodup->(∀a∈l,(m a).isSome=zW)->l.length<=N){K:v_->Prop}(k:∀c:Nat,c<=N->K (.int .i64 (c:Int))):A8 P (Builtin.len_ #[t] vt [.map (zY b)].toArray) S H K:=by obtain⟨⟨f,q,I,J,L,Z⟩,M⟩:=h;have r:∀k,k<=f.size->∃l:List α,l.length=k/\∀(j:Nat) (a:α),l[j]?=zY a->∃x,f[j]?=zY x/\x.key=enc a/\m a=zY x.val:=by{intro k;induction k with|zero=>exact λ_=>⟨[],rfl,λj a h=>by simp at h⟩|succ k O=>intro hk;have⟨l,u,g⟩:=O zO;have p:f[k]?=zY f[k]:=tE zO;have⟨a,Q,e2⟩:=L k _ p;refine⟨l++[a],by simp[u],λj a' d=>?_⟩;by_cases R:j<k;{rw[zE zO]at d;exact g j a' d};have A:=(P_.1 d).1;simp only[M_,U_,i_]at A;obtain rfl:j=k:=zO;rw[y' zO,u,vZ]at d;simp only[wF,AqF.injEq]at d;subst d;exact⟨_,p,Q,e2⟩};have⟨l,u,g⟩:=r f.size (I_ _);have B:l.Nodup:=by{unfold List.Nodup;rw[xT];intro i j T d U e;obtain⟨x,p,n,-⟩:=g i _ (zH T);obtain⟨y,V,C,-⟩:=g j _ (zH d);rw[e]at n;have:=Dq J p V (n.trans C.symm);omega};have W:=G l B λa X=>by{have⟨j,d⟩:=List.getElem?_of_mem X;obtain⟨x,-,-,e⟩:=g j a d;rw[e];rfl};refine A8.mk _ (λw Y=>?_) (k f.size zO);have D:=(Y b F).trans I;simp[Builtin.len_,run_underlying E.under,Go.MapKept.run_getObj_map D,goInt]
def AiZ(X:PS):mss X<=65536:=by unfold mss;exact KL _
def bC(h:a.has q=zW):∃row,(lJ a)[q.toNat]?=zY row/\row.length<=a.edges.length/\∀p,p∈row↔∃e∈a.edges,e.sil=zW/\e.fr=q/\a.has e.to=zW/\p=e.to:=by have k:0<=q/\q<(EK a:Int):=by{have:=S6 a q;rw[h]at this;simpa using this.symm};refine⟨_,Hv _ _ zO,nM _ _,λp=>?_⟩;rw[pK];constructor;{rintro⟨e,d,b⟩;unfold yY wU at b;split at b;{rename_i c;simp only[o_]at c;rw[xI]at b;have f:=(O_.has_iff.1 c.1.1);split at b;{rename_i g;injection b with b;exact⟨e,d,c.2,by simp only at g;omega,c.1.2,b.symm⟩};cases b};simp at b};rintro⟨e,d,b,rfl,j,rfl⟩;refine⟨e,d,?_⟩;unfold yY wU;rw[h,j,b];simp
structure Qv(a:O_)(X:List Int)(todo:List Int)(mm:Int->Option v_):Prop where
 has:∀q∈todo,a.has q=zW
 one:∀p,Dom mm p->mm p=zY (.int .i64 1)
 tcl:∀p∈todo,clS a (·∈X) p
 mcl:∀p,Dom mm p->clS a (·∈X) p
 all:∀x∈X,Dom mm x\/x∈todo
 shut:∀p,Dom mm p->∀e∈a.edges,e.sil=zW->e.fr=p->a.has e.to=zW->Dom mm e.to\/e.to∈todo
 len:todo.length<=X.length+(65536-mss (Dom mm))*33554432
def Qv.done{X:List Int}{b:Int->Option v_}(h:Qv a X [] b):∀q,Dom b q↔clS a (·∈X) q:=λq=>
 ⟨h.mcl q,DN (Y:=Dom b) (λx c=>(h.all x c).elim id λh=>by cases h) (λe d hs f g=>(h.shut e.fr g e d hs rfl f).elim id λh=>by cases h) q⟩
def Qv.old_{X todo:List Int}(h:Qv a X (todo++[q]) f)(g:Dom f q):Qv a X todo f:=by refine⟨λp d=>h.has p (xU _ d),h.one,λp d=>h.tcl p (xU _ d),h.mcl,λx j=>?_,λp d e k b l m=>?_,?_⟩;{rcases h.all x j with b | b;{exact .inl b};rcases n_.1 b with b | b;{exact .inr b};rw[Q_]at b;subst b;exact .inl g};{rcases h.shut p d e k b l m with c | c;{exact .inl c};rcases n_.1 c with c | c;{exact .inr c};rw[Q_]at c;rw[c];exact .inl g};have:=h.len;simp only[M_,U_,i_]at this;omega
def Qv.new_{X todo row:List Int}{g:Int->Option v_}(h:Qv a X (todo++[q]) g)(y:¬Dom g q)(z:row.length<=33554432)(f:∀p,p∈row↔∃e∈a.edges,e.sil=zW/\e.fr=q/\a.has e.to=zW/\p=e.to):Qv a X (todo++row) (put g q (zY (.int .i64 1)))/\mss (Dom (put g q (zY (.int .i64 1))))<mss (Dom g):=by have r:=h.has q zZ;have t:=O_.has_iff.1 r;have l:=h.tcl q zZ;have u:mss (Dom (put g q (zY (.int .i64 1))))<mss (Dom g):=Aj0 (λp c=>(Fc p).2 (.inl c)) t.1 zO y ((Fc q).2 (.inr rfl));refine⟨⟨λp c=>?_,λp c=>?_,λp c=>?_,λp c=>?_,λx A=>?_,λp c e w b m n=>?_,?_⟩,u⟩;{rcases n_.1 c with c | c;{exact h.has p (xU _ c)};obtain⟨e,-,-,-,k,rfl⟩:=(f p).1 c;exact k};{by_cases d:p=q;{subst d;unfold put;rw[H_ rfl]};rcases(Fc p).1 c with b | b;{unfold put;rw[G_ d];exact h.one p b};exact absurd b d};{rcases n_.1 c with c | c;{exact h.tcl p (xU _ c)};obtain⟨e,b,m,n,k,rfl⟩:=(f p).1 c;exact NB a _ e b m k (by rw[n];exact l)};{rcases(Fc p).1 c with b | b;{exact h.mcl p b};rw[b];exact l};{rcases h.all x A with b | b;{exact .inl ((Fc x).2 (.inl b))};rcases n_.1 b with b | b;{exact .inr (xU _ b)};rw[Q_]at b;exact .inl ((Fc x).2 (.inr b))};{by_cases d:p=q;{subst d;exact .inr (uI _ ((f e.to).2 ⟨e,w,b,m,n,rfl⟩))};rcases(Fc p).1 c with k | k;{rcases h.shut p k e w b m n with j | j;{exact .inl ((Fc _).2 (.inl j))};rcases n_.1 j with j | j;{exact .inr (xU _ j)};rw[Q_]at j;exact .inl ((Fc _).2 (.inr j))};exact absurd k d};have:=h.len;have B:=AiZ (Dom g);simp only[M_,U_,i_]at this ⊢;have C:(65536-mss (Dom g))+1<=65536-mss (Dom (put g q (zY (.int .i64 1)))):=zO;have e2:=vM 33554432 C;omega
abbrev Hb:x_:=5
def VT{v:v_}{la:Option Addr}{lc:Nat}{X:List Int}(st:St H0 H [pS zF 3 la X.length lc X])(hS:∀k,S k->k<H0.size)(hv:MB S H0 v a)(hX:∀q∈X,a.has q=zW)(cx:X.length<=2199023255552)(bd:a.edges.length<=33554432)(ao:Eo prog H0):Am prog 138 #[v,.slice la X.length lc] H λr H'=>r= .string (yA (E1 (clS a (·∈X))))/\A_ (F_ H0) H0 H':=by
 obtain⟨nb,sa,sc,ta,tc,rfl,be,O,ap,-⟩:=hv;have cu:=Ry a;refine Am.of_vc func138 rfl (call138 _) (I5 (Ok:=Pa) (enc:=kI) λmb H1 bf bh bj bn=>?_);have st1:=st.mapNewW bf bh bj bn;(conv=>whnf);refine AD.mk [1] (λx:List Int×Option Addr×Nat×(Int->Option v_)=>match x with | (todo,Z,c5,B)=>[.slice Z todo.length c5]) (λx H2=>Qv a X x.1 x.2.2.2/\St H0 H2 [pS zF 3 x.2.1 x.1.length x.2.2.1 x.1,yZ Pa kI mb x.2.2.2]) (λx _=>mss (Dom x.2.2.2)*33554434+x.1.length) ?_ ?_;{(conv=>whnf);refine⟨(X,la,lc,λ_=>zV),rfl,⟨hX,(λp hp=>by cases hp),λp hp=>QI hp,(λp hp=>by cases hp),λx t=>.inr t,(λp hp=>by cases hp),nQ _ _⟩,st1⟩};rintro⟨todo,Z,c5,B⟩ H2 bo ⟨hI,u⟩;simp only at hI u;have cw:=hI.len;have bp:todo.length<=4398046511104:=by{have:(65536-mss (Dom B))*33554432<=65536*33554432:=vM _ zO;omega};refine Av.m2 (λhz=>?_) (λhz=>?_);{have P:todo≠[]:=λe=>by{subst e;simp at hz};obtain⟨td,q,rfl⟩:∃td q,todo=td++[q]:=⟨todo.dropLast,todo.getLast P,(dF P).symm⟩;have bq:(td++[q]).length=td.length+1:=zZ;have aq:=hI.has q zZ;have au:(td++[q])[td.length]?=zY q:=zZ;have w1:IntKind.wrap .i64 (((td++[q]).length:Int)-1)=(td.length:Int):=by{rw[bq,vU zO zO];omega};(conv=>whnf);rw[w1];refine zP (i:=td.length) AQ (u.view 0 rfl) au rfl ?_;rintro b3 o3 c3 cy br ⟨rfl,aw⟩;refine lT br.one ?_;(conv=>whnf);rw[w1];refine mQ AQ zO (by have:=u.capI 0 rfl;omega) ?_;rw[zG];have C:=u.popI 0 rfl;refine Oc (a:=q) Wz Wt zA (C.mapW 1 rfl) zA ?_;cases a0:B q with|some w=>{have E:Dom B q:=by{unfold Dom;rw[a0];rfl};have hw:=hI.one q E;rw[a0]at hw;injection hw with hw;subst hw;(conv=>whnf);exact⟨rfl,(td,Z,c5,B),rfl,⟨hI.old_ E,C⟩,by simp only[M_,U_,i_];omega⟩}|none=>have bu:¬Dom B q:=by{unfold Dom;rw[a0];decide};have⟨row,ay,bv,bw⟩:=bC aq;have⟨bx,a8⟩:=hI.new_ bu (V' bv bd) bw;refine GB (a:=q) C 1 Wz Wt zA rfl rfl λH4 F=>(fa ?_);refine lT (v:=.slice sa (EK a) sc) ((O.eq (F.old nb (hS nb be))) 0 _ rfl) ?_;refine I2 (i:=q.toNat) CS (ap.frame (F.old.mono hS)) (Da _ _ _).symm ay (by have:=O_.has_iff.1 aq;omega) ?_;rintro b5 o5 cz d0 bz ⟨ra,rc,rfl,c2⟩;refine lT bz.one ?_;refine AhR (S:=S) (Yk .i64) (Yl .i64) F 0 AQ rfl hS c2 (by simp only[M_,U_,i_]at bp;omega) zQ λa6 c6 H6 Q=>?_;(conv=>whnf);refine⟨rfl,(td++row,a6,c6,put B q (zY (.int .i64 1))),by simp only[M_],⟨bx,?_⟩,?_⟩;{simp only[M_];exact Q};have e2:=vM 33554434 (Nat.succ_le_of_lt a8);simp only[M_,U_,i_];omega};obtain rfl:todo=[]:=wL zO;have G:=hI.done;have I:∀q,Dom B q->0<=q/\q<65536:=λq z=>E9 (Je (X:=(·∈X)) hX) q ((G q).1 z);refine AlF (N:=65536) Wz (u.mapW 1 rfl) zA (λl hl A=>Kl 65536 l hl λx t=>I x (A x t)) λc hc=>(EV AQ rfl zO zO zO zO ?_);intro ab H3 c4 c7 az c8;rw[zG]at az;rw[zG,show(0:Int).toNat=0 from rfl];have C:=u.newCap (T:=zF) (cap:=c) c4 c7 az c8 (by simp[Dc]) (by unfold maxLen;omega);refine W3 C 1 Wz rfl λr n3 H4 F=>?_;(conv=>whnf);refine AD.mk [7] (λx:List Int×Option Addr×Nat×Nat=>match x with | (R,Z,c5,n)=>[.slice Z R.length c5]) (λx H5=>x.1.Nodup/\(∀q∈x.1,Dom B q)/\∃D last,(∀q,D q↔q∈x.1)/\St H0 H5 [sD Pa kI mb r B D last x.2.2.2,pS zF 3 x.2.1 x.1.length x.2.2.1 x.1]) (λx _=>x.2.2.2) ?_ ?_;{(conv=>whnf);exact⟨([],zY ⟨ab,0,zV⟩,c,n3),rfl,List.Pairwise.nil,(λq h=>by cases h),_,zV,λq=>⟨λh=>h.elim,λh=>by cases h⟩,F.pick [1,2] zQ⟩};rintro⟨R,Z,c5,n5⟩ H5 cd ⟨U,A,D,last,hD,ae⟩;simp only at U A hD ae;have d1:=Kl 65536 R U λx t=>I x (A x t);refine ZS ae 0 Wt.inj rfl (λb0=>?_) λq v H6 n6 z ce a8 Q=>?_;{have b4:R.mergeSort (λx y=>zT (x<=y))=E1 (clS a (·∈X)):=PF (λq z=>E9 (Je (X:=(·∈X)) hX) q z) (Vw U) λq=>by{rw[eO,<-G q];exact⟨A q,λh=>(hD q).1 (b0 q h)⟩};have hL:∀q∈E1 (clS a (·∈X)),0<=q/\q<65536:=λq z=>E9 (Je (X:=(·∈X)) hX) q ((EI (E9 (Je (X:=(·∈X)) hX)) q).1 z);have d2:(E1 (clS a (·∈X))).length<=65536:=KL _;have W:(R.mergeSort λx y=>zT (x<=y)).length=R.length:=dI _;refine AmH AjS ae 1 rfl zO λH7 d=>?_;rw[b4]at d W;rw[<-W]at d ⊢;generalize E1 (clS a (·∈X))=L at*;replace d:St H0 H7 [sD Pa kI mb r B D last n5,pS zF 3 Z L.length c5 L]:=d;have cg:=d.view 1 rfl;have ah:=ao.agr d.old;have u7:St H7 H7 [pS tU8 Hb zV 0 0 []]:=(St.nil H7).nils tU8 Hb;(conv=>whnf);refine AD.mk [9,59] (λx:Nat×Option Addr×Nat=>match x with | (i,a9,c9)=>[.slice a9 (Bf (L.take i)).length c9,B_ i]) (λx H8=>x.1<=L.length/\(x.1=0->x.2.1=zV)/\St H7 H8 [pS tU8 Hb x.2.1 (Bf (L.take x.1)).length x.2.2 ((Bf (L.take x.1)).map fun(y:Nat)=>(y:Int))]) (λx _=>L.length-x.1) ?_ ?_;{(conv=>whnf);exact⟨(0,zV,0),rfl,V_ _,λ_=>rfl,u7⟩};rintro⟨i,a9,c9⟩ H8 ch ⟨hi,ci,f⟩;simp only at hi ci f;refine Av.m2 (λcj=>?_) (λcj=>?_);{have⟨q,z⟩:=Ai (l:=L) (k:=i) zO;have ai:=hL q (Y_ z);have ck:(Bf (L.take i)).length<=393216:=by{have g:=Jk (l:=L.take i) λx t=>hL x (kP t);have h2:(L.take i).length<=65536:=by{rw[vL];omega};omega};have d3:((Bf (L.take i)).map fun(y:Nat)=>(y:Int)).length=(Bf (L.take i)).length:=d_ _;have d4:=Wa ai;refine zP (i:=i) AQ (cg.frame f.old) z rfl ?_;rintro b9 o9 d5 d6 cm ⟨rfl,-⟩;refine C_ cm.one zA (kX aE f ah zO zO zO λd7 d8 H10 Y=>?_);have e1:((Bf (L.take i)).map fun(y:Nat)=>(y:Int))++J8 q=(Bf (L.take i)++D6 q).map fun(y:Nat)=>(y:Int):=by{rw[xV,AiA]};rw[e1]at Y ⊢;have co:((Bf (L.take i)++D6 q).map fun(y:Nat)=>(y:Int)).length=(Bf (L.take i)).length+(D6 q).length:=zZ;refine Az Ct [.int .u8 44] rfl rfl zQ zQ ?_;intro cp H11 J b6 K M;have b7:=Y.skip J M;refine Ip (x:=(44:Int)) b7 0 Ct rfl K ⟨rfl,I1 (x:=44) zQ⟩ rfl zO zQ λaj ak H12 m _=>?_;have e2:((Bf (L.take i)++D6 q).map fun(y:Nat)=>(y:Int))++[44]=(Bf (L.take (i+1))).map fun(y:Nat)=>(y:Int):=by{rw[Aj z,Of,xV (l₂:=[44])];rfl};have e3:((Bf (L.take i)++D6 q).map fun(y:Nat)=>(y:Int)).length+1=(Bf (L.take (i+1))).length:=by{rw[co,Aj z,Of];simp only[M_,U_,i_]};rw[e2,e3]at m;rw[e3];(conv=>whnf);rw[S_ i zO];exact⟨rfl,(i+1,aj,ak),zZ,⟨by simp only;omega,λh=>by simp only at h;omega,m⟩,by simp only;omega⟩};obtain rfl:i=L.length:=zO;rw[yH]at f;rw[yH];have hold:A_ (F_ H0) H0 H8:=d.old.trans (f.old.mono λk hk=>d.up hk);cases a9 with|none=>{have cq:L=[]:=by{apply Classical.byContradiction;intro P;have ck:=f.capI 0 rfl;obtain⟨cs,⟨-,am⟩,-⟩:=(f.at_ 0 rfl).1;rcases am with⟨g,h2⟩ | ⟨b,c',l',g,-⟩;{rw[d_]at h2;cases L with|nil=>exact P rfl|cons x l=>have:Bf (x::l)=(D6 x++[44])++Bf l:=by{unfold Bf;rw[vG]};rw[this]at h2;simp at h2};injection g with g;cases g};subst cq;refine mN (e:=Hb) rfl rfl rfl ?_;(conv=>whnf);exact⟨rfl,hold⟩}|some ad=>{obtain⟨cs,⟨-,am⟩,cr⟩:=(f.at_ 0 rfl).1;obtain⟨rfl,-⟩:=Nm cr;rcases am with⟨g,-⟩ | ⟨b,c',l',g,-,hb,-,-,-,ct⟩;{injection g with g;cases g};injection g with g h2 h3;injection g with g;subst g;refine VE (Bf L) (e:=Hb) rfl rfl rfl (λj x t=>?_) rfl ?_;{have V:((((Bf L).map fun(y:Nat)=>(y:Int)).map (Value.int .u8)))[j]?=zY (.int .u8 (x:Int)):=by{rw[I',I',t];rfl};rw[<-ct,List.getElem?_take]at V;split at V;{rw[N_,hb.cell];exact V};cases V};(conv=>whnf);exact⟨rfl,hold⟩}};have E:Dom B q:=by unfold Dom;rw[z];rfl
 have aw:q∉R:=λh=>ce ((hD q).2 h);have ai:=I q E;have b8:(R++[q]).Nodup:=rG.2 ⟨U,zZ,λx t y hy e=>by rw[Q_]at hy;subst hy;subst e;exact aw t⟩;refine fI (Q.iterW 0 rfl) Wt.inj z (Az AQ [B_ q] rfl rfl zQ zQ ?_);intro cp H11 J b6 K M;refine Ip (x:=q) (Q.skip J M) 1 AQ rfl K ⟨rfl,JB ai⟩ rfl zO zQ λaj ak H12 m _=>?_;(conv=>whnf);refine⟨rfl,(R++[q],aj,ak,n6),by simp only[M_,U_,i_],⟨b8,λx t=>?_,_,_,λx=>?_,by simp only[M_,U_,i_];exact m⟩,a8⟩;{rcases n_.1 t with h | h;{exact A x h};rw[Q_]at h;subst h;exact E};rw[n_,Q_,hD x]
def gJ{α:Type}{T:Ty α}{a:Option Addr}{xs:List α}{ty q o g by_:Nat}{ys:List α}(r:D_ B H0 H ps)(i:Nat)(x:SlT P t e T.size by_ z)(w:ps[i]?=zY (pS T e a n cap xs))(hd:AO H q o ds) (y:T.reps none_ H ds ys) (A:m=ys.length) (C:∀u∈ds,u.oneCell'=zW) (l:xs.length+ys.length<=8796093022208) (hby:by_<=16)(k:∀a' c H',D_ B H0 H' (ps.set i (pS T e a' (xs.length+ys.length) c (xs++ys)))->A_ (λk=>k<H.size/\¬R_ (.slice a n cap) k) H H'->K (.slice a' (xs.length+ys.length) c) H'):Bu P (Builtin.append_ #[t,t] ty [.slice a n cap,.slice (zY ⟨q,o,zV⟩) m g].toArray) H K:=by refine C8 (T:=T) (S:=none_) (lo:=0) x (r.at_ i w).1 (V_ _) (λk b=>b.elim) hd y A C (by unfold maxLen;omega) (by have:=rW l hby;omega) ?_;intro E H' d f p j;obtain⟨a',c,rfl⟩:=d.hull;rw[M_]at d j ⊢;refine k a' c H' (r.upd i w (f.mono λk b=>⟨b.1,λD=>b.2 (.inl D)⟩) _ ⟨d,λk b=>b.elim⟩ (λk b=>?_) (λk b=>?_) p) f;{rcases b with b | b;{rcases j k b with h | h;{exact .inl (.inl h)};exact .inr h};exact b.elim};rcases b with b | b;{exact(d.lt b).2};exact b.elim
def XF{l:List Int}(h:∀q∈l,0<=q/\q<65536):∀b∈Bf l,b=44\/(48<=b/\b<=57):=by intro b a;have⟨q,c,a⟩:=uS.1 a;rcases n_.1 a with a | a;{exact .inr (KB (h q c).1 b a)};rw[Q_]at a;exact .inl a
def Ki(l:List Int)(i:Nat):List Int×Nat:=((Bf l).take i).foldl uB ([],0)
def XD{i:Nat}(h:(Bf l)[i]?=zY b):Ki l (i+1)=uB (Ki l i) b:=by unfold Ki;rw[Aj h,wE];rfl
def SQ(h:∀q∈l,0<=q/\q<65536):Ki l (Bf l).length=(l,0):=by unfold Ki;rw[yH,Nf l [] λq a=>(h q a).1];rfl
def PH(h:∀q∈l,0<=q/\q<65536)(S:l.length<=65536)(H:Aa):Am prog 140 #[.string (yA l)] H λr H'=>A_ (F_ H) H H'/\∃ra rc,r= .slice ra l.length rc/\h_ zF none_ H' H.size 3 (.slice ra l.length rc) l:=by
 have A:=SY h;have L:=Jk h;refine Am.of_vc func140 rfl (call140 _) ?_;(conv=>whnf);rw[A];have st1:=(St.nil H).nils zF 3;(conv=>whnf);refine AD.mk [3,4,8] (λx:Nat×Option Addr×Nat=>match x with | (i,w,z)=>[.slice w (Ki l i).1.length z,B_ ((Ki l i).2:Int),B_ i]) (λx H2=>x.1<=(Bf l).length/\St H H2 [pS zF 3 x.2.1 (Ki l x.1).1.length x.2.2 (Ki l x.1).1]) (λx _=>(Bf l).length-x.1) ?_ ?_;{(conv=>whnf);exact⟨(0,zV,0),rfl,V_ _,st1⟩};rintro⟨i,w,z⟩ H2 B ⟨N,c⟩;simp only at N c;have⟨g,T,O,j⟩:=W5 l [] i h;change (Ki l i).2<65536 at g;change (Ki l i).1=_ at j;have C:(Ki l i).1.length<=65536:=by rw[j];simp only[nS,vL];omega
 refine Av.m2 (λP=>?_) (λP=>?_);{have⟨b,D⟩:=lD (s:=yA l) (k:=i) zO;have e:=QD D;rw[QE h]at e;have a:=XD e;have f:=XF h _ (Y_ e);obtain⟨y,E⟩:∃y,y=b.toNat:=⟨_,rfl⟩;rw[<-E]at a f e;obtain⟨M,J⟩:∃M,M=Ki l i:=⟨_,rfl⟩;rw[<-J]at c g C a;rw[<-J];refine AC.run (En underlying9 rfl D ?_);rw[<-E];rcases f with m | Q;{have F:((y:Int)==44)=zW:=by{rw[m];rfl};have d:Ki l (i+1)=(M.1++[(M.2:Int)],0):=by{rw[a];unfold uB;rw[H_ m]};(conv=>whnf);rw[F];refine Az AQ [B_ (M.2:Int)] rfl rfl zQ zQ ?_;intro R H11 n K p t;refine Ip (x:=(M.2:Int)) (c.skip n t) 0 AQ rfl p ⟨rfl,JB ⟨zO,zO⟩⟩ rfl zO zQ λG I H12 u _=>?_;(conv=>whnf);rw[S_ i zO];refine⟨rfl,(i+1,G,I),?_,⟨by simp only;omega,?_⟩,by simp only;omega⟩;{simp only;rw[d];simp};simp only;rw[d];simpa using u};have F:((y:Int)==44)=zU:=by{rw[beq_eq_false_iff_ne];omega};have d:Ki l (i+1)=(M.1,10*M.2+(y-48)):=by{rw[a];unfold uB;rw[G_ zO]};(conv=>whnf);rw[F];(conv=>whnf);rw[m_ (x:=10*(M.2:Int)) zO];refine En underlying9 rfl D ?_;rw[<-E];(conv=>whnf);rw[w8 (x:=(y:Int)-48) zO zO];(conv=>whnf);rw[m_ (x:=(y:Int)-48) zO];(conv=>whnf);rw[m_ (x:=10*(M.2:Int)+((y:Int)-48)) zO];(conv=>whnf);rw[S_ i zO];refine⟨rfl,(i+1,w,z),?_,⟨by simp only;omega,?_⟩,by simp only;omega⟩;{simp only;rw[d];simp only;rw[show((10*M.2+(y-48):Nat):Int)=10*(M.2:Int)+((y:Int)-48) by omega];simp};simp only;rw[d];exact c};obtain rfl:i=(Bf l).length:=zO;rw[SQ h]at c;(conv=>whnf);rw[SQ h];exact⟨c.old,w,z,rfl,St.own c 0 rfl⟩
def Z3{a:Option Addr}(u:∀k,S k->k<H.size)(h:c_ zF S H a c xs):Am prog 171 #[.slice a xs.length c,B_ q] H λr H'=>A_ (F_ H) H H'/\∃n:Int,r= .int .i64 n/\zT (0<=n)=zT (q∈xs):=by have f:=h.le;unfold maxLen at f;refine Am.of_vc func171 rfl (call171 _) ?_;(conv=>whnf);refine AD.mk [8] (λi:Nat=>[B_ i]) (λi H2=>i<=xs.length/\A_ (F_ H) H H2/\q∉xs.take i) (λi _=>xs.length-i) ?_ ?_;{(conv=>whnf);exact⟨0,rfl,V_ _,A_.refl _ _,zZ⟩};rintro i H2 t ⟨z,d,b⟩;refine Av.m2 (λw=>?_) (λw=>?_);{have⟨x,g⟩:=Ai (l:=xs) (k:=i) zO;refine zP (i:=i) AQ (h.frame (d.mono u)) g rfl ?_;rintro A B C y j ⟨rfl,-⟩;refine lT j.one ?_;by_cases e:x=q;{have m:(q==x)=zW:=by{rw[e];simp};(conv=>whnf);rw[m];(conv=>whnf);refine⟨d,i,rfl,?_⟩;rw[a_ (show(0:Int)<=(i:Int) by omega),a_ (e ▸ Y_ g)]};have m:(q==x)=zU:=beq_eq_false_iff_ne.2 (Ne.symm e);(conv=>whnf);rw[m];(conv=>whnf);rw[S_ i zO];refine⟨rfl,i+1,zZ,⟨zO,d,?_⟩,zO⟩;rw[Aj g,n_,Q_];rintro(p | p);{exact b p};exact e p.symm};obtain rfl:i=xs.length:=zO;rw[yH]at b;(conv=>whnf);exact⟨d,-1,rfl,by rw[b_ b];rfl⟩
def Ss{a:Option Addr}(d:∀k,S k->k<H.size)(h:c_ zF S H a c xs):AT prog 142 #[.slice a xs.length c,B_ q] H (.bool (zT (q∈xs))):=by refine Am.of_vc func142 rfl (call142 _) (An.mk (Z3 (q:=q) d h) ?_);rintro _ H1 ⟨b,n,rfl,e⟩;(conv=>whnf);rw[e];(conv=>whnf);exact⟨rfl,b⟩
def TU(h:a.has q=zW):∃row,(OL a)[q.toNat]?=zY row/\row.length<=a.edges.length/\∀e,e∈row↔e∈a.edges/\e.sil=zU/\e.fr=q/\a.has e.to=zW:=by have l:0<=q/\q<(EK a:Int):=by{have:=S6 a q;rw[h]at this;simpa using this.symm};refine⟨_,Hv _ _ zO,nM _ _,λe=>?_⟩;rw[pK];constructor;{rintro⟨f,d,b⟩;unfold Kg wU at b;split at b;{rename_i c;simp only[o_,wD]at c;rw[xI]at b;have g:=(O_.has_iff.1 c.1.1);split at b;{rename_i j;injection b with b;subst b;exact⟨d,c.2,by show f.fr=q;simp only at j;omega,c.1.2⟩};cases b};simp at b};rintro⟨d,b,rfl,k⟩;refine⟨e,d,?_⟩;unfold Kg wU;rw[h,k,b];simp
noncomputable def B0(a:O_)(l:List Int)(b:Nat):List Int:=E1 (sV a (·∈l) b)
def LN{a:O_}{l:List Int}{b:Nat}:∀q∈B0 a l b,a.has q=zW:=λq c=>MY a _ b q ((EI (E9 (MY a (·∈l) b)) q).1 c)
def NO{H3:Aa}{rc:Nat}{row:List U'}(h:c_ yB S H0 ra rc row)(c:St H H0 ps)(d:St H H3 qs)(a:∀k,S k->k<H.size):c_ yB S H3 ra rc row:=h.frame λk b=>by rw[d.old k (a k b),c.old k (a k b)]
def AfR{v:v_}{B:Nat}(K:∀k,S k->k<H.size)(P:S B)(m:AO H B 0 [v])(L:MB S H v a)(ah:a.edges.length<=33554432)(hl:∀q∈l,a.has q=zW)(Q:l.length<=65536)(hb:b<256)(R:Eo prog H):Am prog 139 #[.string (yA l),.int .u8 (b:Int),J_ B] H λr H'=>r= .string (yA (B0 a l b))/\A_ (F_ H) H H':=by
 have ai:∀q∈l,0<=q/\q<65536:=λq C=>by have:=O_.has_iff.1 (hl q C);omega
 have aj:=L;obtain⟨nb,sa,sc,ta,tc,ak,am,t,-,U⟩:=L;subst ak;refine Am.of_vc func139 rfl (call139 _) ?_;have ao:=(St.nil H).nils zF 3;refine An.mk (PH ai Q H) ?_;rintro _ H1 ⟨ap,ma,mc,rfl,D⟩;obtain⟨_,_,e1,st1⟩:=ao.got ap D;injection e1 with e11 e12 e13;subst e11;subst e13;(conv=>whnf);refine AD.mk [6,14] (λx:Nat×List Int×Option Addr×Nat=>match x with | (i,T,M,N)=>[.slice M T.length N,B_ i]) (λx H2=>x.1<=l.length/\x.2.1.length<=x.1*33554432/\(∀p,p∈x.2.1↔Ra a (·∈l.take x.1) b p)/\St H H2 [pS zF 3 x.2.2.1 x.2.1.length x.2.2.2 x.2.1,pS zF 3 ma l.length mc l]) (λx _=>l.length-x.1) ?_ ?_;{(conv=>whnf);refine⟨(0,[],zV,0),rfl,V_ _,V_ _,λp=>⟨λh=>(by cases h),λh=>?_⟩,st1⟩;obtain⟨e,-,-,-,h,-⟩:=h;simp at h};rintro⟨i,T,M,N⟩ H2 aq ⟨hi,E,V,d⟩;simp only at hi E V d;refine Av.m2 (λhz=>?_) (λhz=>?_);{have⟨q,C⟩:=Ai (l:=l) (k:=i) zO;have W:=hl q (Y_ C);have⟨row,X,bp,F⟩:=TU W;refine zP (i:=i) AQ (d.view 1 rfl) C rfl ?_;rintro b3 o3 c3 bq au ⟨rfl,-⟩;refine C_ au.one zA (C_ ((m.eq (d.old B (K B P))).one) zA (fa ?_));refine lT (v:=.slice ta (EK a) tc) ((t.eq (d.old nb (K nb am))) 1 _ rfl) ?_;refine I2 (i:=q.toNat) TI (U.frame (d.old.mono K)) (Da _ _ _).symm X (by have:=O_.has_iff.1 W;omega) ?_;rintro b5 o5 br bu aw ⟨ra,rc,rfl,Y⟩;have ay:c_ yB S H2 ra rc row:=Y;refine lT aw.one ?_;(conv=>whnf);refine AD.mk [6,26] (λx:Nat×List Int×Option Addr×Nat=>match x with | (j,T',M,N)=>[.slice M T'.length N,B_ j]) (λx H3=>x.1<=row.length/\x.2.1.length<=i*33554432+x.1/\(∀p,p∈x.2.1↔Ra a (·∈l.take i) b p\/∃e∈row.take x.1,e.set.getLsbD b=zW/\p=e.to)/\St H H3 [pS zF 3 x.2.2.1 x.2.1.length x.2.2.2 x.2.1,pS zF 3 ma l.length mc l]) (λx _=>row.length-x.1) ?_ ?_;{(conv=>whnf);exact⟨(0,T,M,N),rfl,V_ _,V' E (nQ _ _),λp=>by rw[V p];simp,d⟩};rintro⟨j,T',a6,c6⟩ H3 az ⟨hj,Z,n,w⟩;simp only at hj Z n w;have a0:c_ yB S H3 ra rc row:=NO ay d w K;refine Av.m2 (λb0=>?_) (λb0=>?_);{have⟨e,he⟩:=Ai (l:=row) (k:=j) zO;have⟨bv,bw,bx,b4⟩:=(F e).1 (Y_ he);have bz:=O_.has_iff.1 b4;refine AC.run (zP (i:=j) EO a0 he rfl ?_);rintro b6 o6 c7 c2 b7 ⟨rfl,b8⟩;refine K_ (cs:=zN e) b7 zA (BO w _ [B_ 0,B_ 0,.bool zU,.int .u64 0,.int .u64 0,.int .u64 0,.int .u64 0] JZ rfl λx H4 b9=>(AB (cs:=zN e) b9 2 rfl rfl (I_ _) rfl λH5 G=>?_));rw[AA (show(zN e).length=7 from rfl)]at G;refine fa ?_;refine K_ (cs:=Ag e.set) ((G.blk 2 rfl).cells λj v L=>Wd e j v L) zA (Af (P6 e.set b hb H5) λH6 bd=>?_);have I:=G.call bd;cases y:e.set.getLsbD b with|false=>{(conv=>whnf);rw[S_ j zO];refine⟨rfl,(j+1,T',a6,c6),zZ,⟨by simp only;omega,by simp only;omega,λp=>?_,I.pick [0,1] zQ⟩,by simp only;omega⟩;simp only;rw[n p,Aj he];constructor;{rintro(h | ⟨J,c,f,g⟩);{exact .inl h};exact .inr ⟨J,xU _ c,f,g⟩};rintro(h | ⟨J,c,f,g⟩);{exact .inl h};rcases n_.1 c with c | c;{exact .inr ⟨J,c,f,g⟩};rw[Q_]at c;subst c;rw[y]at f;cases f}|true=>{refine fa ?_;refine C_ ((I.blk 2 rfl).cellE rfl) zA (Az AQ [B_ e.to] rfl rfl zQ zQ ?_);intro c4 H11 a8 bo a9 ab;refine gJ (ys:=[e.to]) (I.skip a8 ab) 0 AQ rfl (a9.cells (o:=0) (cs:=[B_ e.to]) λj v L=>by rw[N_];exact L) (Ty.reps_one ⟨rfl,b8.2⟩) rfl (λu hu=>by cases Q_.1 hu;rfl) (by simp only[U_,i_];omega) zQ λbe bf H12 z _=>?_;have el:T'.length+[e.to].length=(T'++[e.to]).length:=zZ;rw[el]at z ⊢;(conv=>whnf);rw[S_ j zO];refine⟨rfl,(j+1,T'++[e.to],be,bf),zZ,⟨by simp only;omega,by simp only[M_,U_,i_];omega,λp=>?_,z.pick [0,1] zQ⟩,by simp only;omega⟩;simp only;rw[n_,n p,Aj he,Q_];constructor;{rintro((h | ⟨J,c,f,g⟩) | h);{exact .inl h};{exact .inr ⟨J,xU _ c,f,g⟩};exact .inr ⟨e,zZ,y,h⟩};rintro(h | ⟨J,c,f,g⟩);{exact .inl (.inl h)};rcases n_.1 c with c | c;{exact .inl (.inr ⟨J,c,f,g⟩)};rw[Q_]at c;subst c;exact .inr g}};obtain rfl:j=row.length:=zO;rw[yH]at n;(conv=>whnf);rw[S_ i zO];refine⟨rfl,(i+1,T',a6,c6),zZ,⟨by simp only;omega,by simp only;omega,λp=>?_,w⟩,by simp only;omega⟩;simp only;rw[n p,Aj C];unfold Ra;constructor;{rintro(⟨e,c,f,g,A,O,h6⟩ | ⟨e,c,f,g⟩);{exact⟨e,c,f,g,xU _ A,O,h6⟩};have⟨g1,g2,g3,g4⟩:=(F e).1 c;exact⟨e,g1,g2,f,by rw[g3];simp,g4,g⟩};rintro⟨e,c,f,g,A,O,h6⟩;rcases n_.1 A with A | A;{exact .inl ⟨e,c,f,g,A,O,h6⟩};rw[Q_]at A;exact .inr ⟨e,(F e).2 ⟨c,f,A,O⟩,g,h6⟩};obtain rfl:i=l.length:=zO;rw[yH]at V;have bh:∀q∈T,a.has q=zW:=λq C=>by{obtain⟨e,-,-,-,-,O,rfl⟩:=(V q).1 C;exact O};have ad:(λq=>q∈T)=Ra a (·∈l) b:=funext λq=>propext (V q);refine lT ((m.eq (d.old B (K B P))).one) ?_;have bj:St H H2 [pS zF 3 M T.length N T]:=d.pick [0] zQ;have ae:T.length<=2199023255552:=V' E (by have:=vM 33554432 Q;omega);refine An.mk (VT bj K aj bh ae ah R) ?_;rintro _ H3 ⟨rfl,bn⟩;(conv=>whnf);refine⟨?_,bn⟩;rw[ad];rfl
section
variable{α:Type}{T:Ty α}{a:Option Addr}
def D_.absorb{rc:Nat}{xs:List (List α)}{row:List α}(c:D_ B H0 H (pN (xR T) S e a n cap xs::pS T kt ra m rc row::ps)):D_ B H0 H (pN (xR T) (λk=>S k\/R_ (.slice ra m rc) k) e a n cap xs::ps):=by have d:=c.apart2 (i:=0) (j:=1) rfl rfl zQ;have f:=c.at_ 0 rfl;refine(c.join 0 1 rfl rfl zQ).say 0 rfl _ ⟨f.1.mono λk b=>.inl b,λk b=>?_⟩ λk b=>?_;{rcases b with b | b;{exact f.2 k b};exact λh=>d k (.inl h) (.inl b)};rcases b with b | b | b;{exact .inl (.inl b)};{exact .inl (.inr b)};exact .inr (.inl b)
def gK{xs:List (List α)}{row:List α}{ty q by_ g:Nat}(j:D_ B H0 H (pN (xR T) S e a n cap xs::ps))(y:SlT P t e (xR T).size by_ z)(hd:AO H q 0 ds) (A:(xR T).rep S H ds row) (C:m=1) (D:∀u∈ds,u.oneCell'=zW) (p:xs.length+1<=34359738368) (hby:by_<=1024)(k:∀a' c H',D_ B H0 H' (pN (xR T) S e a' (xs.length+1) c (xs++[row])::ps)->K (.slice a' (xs.length+1) c) H'):Bu P (Builtin.append_ #[t,t] ty [.slice a n cap,.slice (k_ q) m g].toArray) H K:=by subst C;have r:=j.at_ 0 rfl;refine C8 (T:=xR T) (S:=S) (lo:=0) (ys:=[row]) y r.1 (V_ _) (λk b=>⟨(j.in_ 0 rfl (.inr b)).2,r.2 k b⟩) hd (Ty.reps_one A) rfl D (by unfold maxLen;simp only[g_];omega) (by have:=rW p hby;simp only[g_];omega) ?_;intro E H' d l w f;obtain⟨a',c,rfl⟩:=d.hull;rw[M_,g_]at d f ⊢;refine k a' c H' (j.upd 0 rfl (l.mono λk b=>⟨b.1,λx=>b.2 (.inl x)⟩) _ ⟨d,λk b x=>?_⟩ (λk b=>?_) (λk b=>?_) w);{rcases f k x with h | h;{exact r.2 k b h};have:=(j.in_ 0 rfl (.inr b)).2;omega};{rcases b with b | b;{rcases f k b with h | h;{exact .inl (.inl h)};exact .inr h};exact .inl (.inr b)};rcases b with b | b;{exact(d.lt b).2};have:=(j.in_ 0 rfl (.inr b)).2;omega
end
def Zs{nb:Nat}{p:v_}(r:∀k,S k->k<H.size)(g:S nb)(t:AO H nb 0 (yG a p))(u:∀q∈l,0<=q/\q<65536)(h:l.length<=65536):AT prog 141 #[.string (yA l),J_ nb] H (.bool (zT (a.fin∈l))):=by refine Am.of_vc func141 rfl (call141 _) ?_;have j:=St.nil H;refine Ap.heldZ (F_ H) [] (sq [0,2,3] (.f 1 (.f 4 (.f 5 .e)))) rfl zX (fa ?_);refine C_ (v:=B_ a.fin) (t 2 _ rfl) (r nb g) (An.mk (PH u h H) ?_);rintro _ H1 ⟨b,ma,mc,rfl,c⟩;obtain⟨_,_,w,st1⟩:=j.got b c;injection w with e11 e12 e13;subst e11;subst e13;refine⟨b,?_⟩;refine Af (Ss (q:=a.fin) (λk m=>m) (st1.view 0 rfl)) λH2 d=>?_;have n:=st1.call d;have g2:A_ (F_ H) H H2:=b.trans (d.mono λk m=>Ak b m);refine⟨g2,?_⟩;(conv=>whnf);refine⟨g2,?_⟩;(conv=>whnf);exact⟨rfl,n.old⟩
abbrev cE:x_:=302
def sU(mb:Nat)(fv:v_)(most:Nat):List v_:=[.map (zY mb),fv,B_ most]
def rN(F:List (List Int))(s:ByteArray):Option v_:=(F.findIdx? λk=>zT (yA k=s)).map fun(i:Nat)=>.int .i64 (i:Int)
def fH:D4 prog 192 9 3 (.int .i64 0):=⟨rfl,rfl⟩
def gZ:Fv prog 9 (Pa (α:=ByteArray)) Value.string:=Fv.ofE underlying9 tX
def oV(F:List (List Int)):Prop:=∀l∈F,(∀q∈l,0<=q/\q<65536)/\l.length<=65536
def P1(a:oV F){k:List Int}(b:∀q∈k,0<=q/\q<65536):(F.findIdx? λl=>zT (yA l=yA k))=F.findIdx? (·=k):=by induction F with|nil=>rfl|cons l F c=>have d:zT (yA l=yA k)=zT (l=k):=decide_eq_decide.2 ⟨λh=>AeU (a l zZ).1 b h,λh=>by rw[h]⟩;rw[vH,vH,d,c λm e=>a m (yD _ e)]
def AdM{k:List Int}(a:(F.findIdx? λl=>zT (yA l=yA k))=zV):put (rN F) (yA k) (zY (.int .i64 (F.length:Int)))=rN (F++[k]):=by funext s;unfold put rN;rw[pI];by_cases hs:s=yA k;{subst hs;rw[H_ rfl,a];simp[vH]};rw[G_ hs];cases h:F.findIdx? λl=>zT (yA l=s)with|some i=>simp|none=>have:yA k≠s:=λe=>hs e.symm;simp[vH,this]
def AdL(a:oV F){k:List Int}(b:∀q∈k,0<=q/\q<65536):rN F (yA k)=(F.findIdx? (·=k)).map fun(i:Nat)=>.int .i64 (i:Int):=by unfold rN;rw[P1 a b]
def AeV(h:∀q∈l,0<=q/\q<65536)(a:l.length<=65536):(yA l).size<=maxLen:=by rw[SY h];have:=Jk h;unfold maxLen;omega
def uJ(xb mb:Nat)(fa:Option Addr)(fc most:Nat)(F:List (List Int))(rest:List Pc):List Pc:=pB cE xb (sU mb (.slice fa F.length fc) most)::yZ Pa Value.string mb (rN F)::pS lM 9 fa F.length fc (F.map yA)::rest
def gP{B:Nat->Prop}{H0 H:Aa}{rest:List Pc}{xb mb fc most:Nat}{fa:Option Addr}{F:List (List Int)}{k:List Int}{K:v_->Aa->Prop}(l:D_ B H0 H (uJ xb mb fa fc most F rest))(I:oV F)(z:∀q∈k,0<=q/\q<65536)(A:k.length<=65536)(Q:most<=4096)(L:F.length<=most)
  (M:∀F' i d g H',M' most F k=zY (F',i)->D_ B H0 H' (uJ xb mb d g most F' rest)->K (.tuple #[B_ i,.bool zW]) H')
  (N:∀H',M' most F k=zV->D_ B H0 H' (uJ xb mb fa fc most F rest)->K (.tuple #[B_ 0,.bool zU]) H'):
  An prog 172 #[J_ xb,.string (yA k)] H K:=by
 refine An.mk (R:=λr H'=>(∃(F':List (List Int)) (i:Nat) (d:Option Addr) (g:Nat),r= .tuple #[B_ i,.bool zW]/\M' most F k=zY (F',i)/\D_ B H0 H' (uJ xb mb d g most F' rest))\/(r= .tuple #[B_ 0,.bool zU]/\M' most F k=zV/\D_ B H0 H' (uJ xb mb fa fc most F rest))) ?_ λr H' h=>by
  rcases h with⟨F',i,d,g,rfl,C,D⟩ | ⟨rfl,C,D⟩
  ·exact M F' i d g H' C D
  ·exact N H' C D
 unfold uJ at l;have b:=l.blk 0 rfl;refine Am.of_vc func172 rfl (call172 _) (E_ ?_);refine C_ (b.cellE rfl) zA (FD (a:=yA k) fH gZ zA (l.mapW 1 rfl) zA ?_);rw[AdL I z];cases y:F.findIdx? (·=k)with
 | some i=>
   (conv=>whnf);exact .inl ⟨F,i,fa,fc,rfl,by unfold M';rw[y],l⟩
 | none=>
   refine Ap.lex rfl zX (E_ ?_);refine C_ (b.cellE rfl) zA (E_ ?_);refine lT (b.cellE rfl) ?_;by_cases m:F.length<most
   ·have E:zT ((most:Int)<=(F.length:Int))=zU:=j_;(conv=>whnf);rw[E];refine Ap.heldZ (F_ H) [10] (sq [0,1,2,3,4,5,6,7,8,9] (.f 10 .e)) rfl zX (E_ ?_);refine C_ (b.cellE rfl) b.lt (E_ ?_);refine C_ (b.cellE rfl) b.lt ?_;refine GB (a:=yA k) l 1 fH gZ zA rfl (AdM (by rw[P1 I z];exact y)) λH1 st1=>?_;have G:=st1.blk 0 rfl;refine E_ ?_;refine C_ (G.cellE rfl) zA (Az WP [.string (yA k)] rfl rfl zQ zQ ?_);intro O H11 n J p t;refine Ip (x:=yA k) (st1.skip n t) 2 WP rfl p ⟨rfl,AeV z A⟩ rfl (by rw[d_];omega) zQ λu w H12 j _=>?_;rw[show(F.map yA).length+1=(F++[k]).length by simp,show F.map yA++[yA k]=(F++[k]).map yA by simp]at j;rw[show(F.map yA).length+1=(F++[k]).length by simp];refine E_ ?_;refine Bc j 0 rfl (zQ:1<3) rfl λH13 c=>?_;replace c:D_ B H0 H13 (uJ xb mb u w most (F++[k]) rest):=c;refine E_ ?_;refine lT ((c.blk 0 rfl).cellE rfl) ?_;have P:IntKind.wrap .i64 (((F++[k]).length:Int)-1)=(F.length:Int):=by
     rw[show(F++[k]).length=F.length+1 by simp,vU zO zO];omega
    (conv=>whnf);rw[P];(conv=>whnf);exact .inl ⟨F++[k],F.length,u,w,rfl,by unfold M';rw[y];simp only;rw[H_ m],c⟩
   ·have E:zT ((most:Int)<=(F.length:Int))=zW:=Y';(conv=>whnf);rw[E];(conv=>whnf);exact .inr ⟨rfl,by unfold M';rw[y];simp only;rw[G_ m],l⟩
def RW(a:O_)(F:List (List Int)):Prop:=∀l∈F,(∀q∈l,a.has q=zW)/\l.length<=65536
def RW.rng(h:RW a F):oV F:=λl b=>⟨λq c=>by have:=O_.has_iff.1 ((h l b).1 q c);omega,(h l b).2⟩
def Qh:(B0 a l b).length<=65536:=KL _
section
variable{most:Nat}{F':List (List Int)}
def aJ{k:List Int}{i:Nat}(h:M' most F k=zY (F',i)):∀x∈F',x∈F\/x=k:=by intro x a;unfold M' at h;split at h;{injection h with h;injection h with h1 h2;subst h1;exact .inl a};split at h;{injection h with h;injection h with h1 h2;subst h1;rcases n_.1 a with a | a;{exact .inl a};rw[Q_]at a;exact .inr a};cases h
def aH{k:List Int}{i:Nat}(h:M' most F k=zY (F',i))(b:F.length<=most):F'.length<=most/\i<most:=by unfold M' at h;split at h;{rename_i j a;injection h with h;injection h with h1 h2;subst h1;subst h2;have:=(uT.1 a).1;omega};split at h;{injection h with h;injection h with h1 h2;subst h1;subst h2;simp only[M_,U_,i_];omega};cases h
def RW.at_{x:List Int}{i:Nat}(h:RW a F)(c:M' most F (B0 a x b)=zY (F',i)):RW a F':=λl d=>by
 rcases aJ c l d with e | rfl
 ·exact h l e
 ·exact⟨LN,Qh⟩
end
def Bw(r:List Nat):List Int:=r.map fun(x:Nat)=>(x:Int)
def Bv(cs:List (BitVec 256)):List Nat:=cs.map λc=>(AI c 0).1
def So{c:BitVec 256}(h:cs[j]?=zY c):(Bv cs)[j]?=zY (AI c 0).1:=by unfold Bv;rw[I',h];rfl
noncomputable def lU(a:O_)(most:Nat)(cs:List (BitVec 256))(l0:List Int)(H H':Aa)(r:v_):Prop:=A_ (F_ H) H H'/\
 match DZ most (B0 a) (Bv cs) l0 with
 | none=>r= .tuple #[.pointer zV,.bool zU]
 | some (F,rows)=>∃v,r= .tuple #[v,.bool zW]/\AS (λk=>H.size<=k/\k<H'.size) H' v (if Bt cs (rows.map Bw) F.length then zY (BE cs (rows.map Bw) (F.map λl=>zT (a.fin∈l)))else zV)
def X0{sv:v_}{wb pb:Nat}{ca:Option Addr}{cc most:Nat}{l0:List Int}(X:∀k,S k->k<H.size)(ay:S wb)(c9:AO H wb 0 [nv])(cd:MB S H nv a)(az:S pb)(ce:AO H pb 0 (yG a sv))(cg:a.edges.length<=33554432)(b0:Eo prog H)(b4:c_ Co S H ca cc cs) (df:cs.length<=256) (ch:∀q∈l0,a.has q=zW) (Y:l0.length<=65536) (dg:1<=most) (hm:most<=4096):Am prog 143 #[.string (yA l0),.slice ca cs.length cc,.func (.func 139) #[] #[J_ wb],.func (.func 141) #[] #[J_ pb],B_ most] H λr H'=>lU a most cs l0 H H' r:=by
 have b5:RW a [l0]:=λl hl=>by rw[Q_]at hl;subst hl;exact⟨ch,Y⟩
 refine Am.of_vc func143 rfl (call143 _) (I5 (Ok:=Pa) (enc:=Value.string) λmb H1 ci cj b6 ck=>?_);have st1:=(St.nil H).mapNewW ci cj b6 ck;refine Ad underlying302 rfl (.agg #[.map zV,.slice zV 0 0,B_ 0]) rfl (sU mb (.slice zV 0 0) most) rfl (BF (sU mb (.slice zV 0 0) most) rfl ?_);intro xb H2 cm co cp cq;have cr:St H H2 (uJ xb mb zV 0 most [] []):=((st1.box cm co cp cq).nils lM 9).pick [1,0,2] zQ;have Z:M' most ([]:List (List Int)) l0=zY ([l0],0):=by{unfold M';rw[List.findIdx?_nil];simp only;rw[H_ (by simp only[i_];omega)];rfl};refine gP cr (λl hl=>by cases hl) (λq hq=>(b5.rng l0 zZ).1 q hq) Y hm (V_ _) (λF' i b7 b9 H3 D ct=>?_) (λH3 D _=>?_);{
 rw[Z]at D;injection D with D;injection D with D h2;subst D;subst h2;have cu:St H H3 (uJ xb mb b7 b9 most [l0] [pN (xR zF) none_ 181 zV 0 0 [],pS Cu 4 zV 0 0 []]):=(ct.nils (xR zF) 181).nils Cu 4;(conv=>whnf);refine AD.mk [15,16,17] (λx:Nat×List (List Int)×List (List Nat)×Option Addr×Nat×Option Addr×Nat=>match x with | (i,F,rows,na,nc,ba,bc)=>[.slice na i nc,.slice ba i bc,B_ i]) (λx H4=>match x with | (i,F,rows,na,nc,ba,bc)=>i<=F.length/\F.length<=most/\RW a F/\rows.length=i/\Bl most (B0 a) (Bv cs) l0 i=zY (F,rows)/\∃Sx fa fc,St H H4 (uJ xb mb fa fc most F [pN (xR zF) Sx 181 na i nc (rows.map Bw),pS Cu 4 ba i bc ((F.take i).map λl=>zT (a.fin∈l))])) (λx _=>most-x.1) ?_ ?_;{(conv=>whnf);exact⟨(0,[l0],[],zV,0,zV,0),rfl,V_ _,by simp only[U_,i_];omega,b5,rfl,rfl,none_,b7,b9,cu⟩};rintro⟨i,F,rows,na,nc,ba,bc⟩ H4 cw ⟨dh,bd,a9,ab,a0,Sx,fa,fc,g⟩;have cx:=g.blk 0 rfl;refine E_ ?_;refine lT (cx.cellE rfl) ?_;refine Av.m2 (λhz=>?_) (λhz=>?_);{
 have⟨x,hx⟩:=Ai (l:=F) (k:=i) zO;have⟨cy,be⟩:=a9 x (Y_ hx);have m:Bl most (B0 a) (Bv cs) l0 (i+1)=((Bv cs).foldl (Cs most (B0 a) x) (zY (F,[]))).map λr=>(r.1,rows++[r.2]):=by{show(Bl most (B0 a) (Bv cs) l0 i).bind _=_;rw[a0];simp only[xI,hx]};refine EV AQ rfl zO zO zO zO ?_;intro rb H6 cz bf bh ad;rw[zG]at bh;rw[zG,show(0:Int).toNat=0 from rfl];have ae:=g.newCap (T:=zF) (cap:=cs.length) cz bf bh ad (by simp[Dc]) (by unfold maxLen;omega);(conv=>whnf);refine AD.mk [18,51] (λy:Nat×List (List Int)×List Nat×Option Addr×Nat=>match y with | (j,F',row,ra,rc)=>[.slice ra row.length rc,B_ j]) (λy H7=>match y with | (j,F',row,ra,rc)=>j<=cs.length/\F'.length<=most/\RW a F'/\F <+: F'/\row.length=j/\((Bv cs).take j).foldl (Cs most (B0 a) x) (zY (F,[]))=zY (F',row)/\∃fa fc,St H H7 (uJ xb mb fa fc most F' [pN (xR zF) Sx 181 na i nc (rows.map Bw),pS Cu 4 ba i bc ((F.take i).map λl=>zT (a.fin∈l)),pS zF 3 ra row.length rc (Bw row)])) (λy _=>cs.length-y.1) ?_ ?_;{(conv=>whnf);exact⟨(0,F,[],zY ⟨rb,0,zV⟩,cs.length),rfl,V_ _,bd,a9,sM _,rfl,rfl,fa,fc,ae⟩};rintro⟨j,F',row,ra,rc⟩ H7 d0 ⟨hj,E,G,w,ah,I,U,V,J⟩;refine Av.m2 (λd1=>?_) (λd1=>?_);{
 have⟨c,hc⟩:=Ai (l:=cs) (k:=j) zO;have d2:=So hc;have bj:=Ch c 0;have z:=EA w hx;refine zP (i:=j) Cj (b4.frame (J.old.mono X)) hc rfl ?_;rintro b8 o8 di dj d3 rfl;refine K_ (cs:=Ag c) d3 zA (BO J (AX 0) (Ag 0) rfl rfl λsx H8 ai=>(AB (cs:=Ag c) ai 6 rfl rfl (I_ _) rfl λH9 aj=>?_));rw[AA (show(Ag c).length=(Ag 0).length from rfl)]at aj;refine K_ (cs:=Ag c) ((aj.blk 6 rfl).cells λj v hv=>by rw[N_];exact hv) zA ?_;refine Af (Kk c 0 zQ H9) λH10 bn=>?_;have e:=aj.call bn;have bo:=e.blk 0 rfl;refine E_ ?_;refine lT (bo.cellE rfl) ?_;have ak:=e.view 2 rfl;have am:(F'.map yA)[i]?=zY (yA x):=by rw[I',z];rfl
 refine I2 (i:=i) WP ak (d_ _).symm am rfl ?_;rintro d4 d5 d6 bp K ⟨rfl,-⟩;refine lT K.one ?_;have bq:∀k,S k->k<H10.size:=λk A=>e.up (X k A);refine An.mk (AfR (S:=S) bq ay (c9.eq (e.old wb (X wb ay))) (cd.frame (e.old.mono X)) cg cy be bj (b0.agr e.old)) ?_;rintro _ H11 ⟨rfl,br⟩;have L:=e.call br;replace L:St H H11 (uJ xb mb U V most F' [pN (xR zF) Sx 181 na i nc (rows.map Bw),pS Cu 4 ba i bc ((F.take i).map λl=>zT (a.fin∈l)),pS zF 3 ra row.length rc (Bw row)]):=L.pick [0,1,2,3,4,5] zQ;have p:((Bv cs).take (j+1)).foldl (Cs most (B0 a) x) (zY (F,[]))=(M' most F' (B0 a x (AI c 0).1)).map λr=>(r.1,row++[r.2]):=by{rw[Aj d2,wE,I];rfl};refine gP L G.rng (λq hq=>by have:=O_.has_iff.1 (LN q hq);omega) Qh hm E (λF2 t bu bv H12 f M=>?_) (λH12 f M=>?_);{
 have⟨d7,dk⟩:=aH f E;rw[f]at p;refine Az AQ [B_ t] rfl rfl zQ zQ ?_;intro d8 H13 N bw O B;refine Ip (x:=(t:Int)) (M.skip N B) 5 AQ rfl O ⟨rfl,JB ⟨zO,zO⟩⟩ rfl (by unfold Bw;rw[d_];omega) zQ λao ap H14 d _=>?_;have e1:(Bw row).length+1=(row++[t]).length:=by unfold Bw;simp
 have e2:Bw row++[(t:Int)]=Bw (row++[t]):=by unfold Bw;simp
 rw[e1,e2]at d;rw[e1];(conv=>whnf);rw[S_ j zO]
 exact⟨rfl,(j+1,F2,row++[t],ao,ap),zZ,⟨zO,d7,G.at_ f,w.trans (by
  unfold M' at f;split at f
  ·injection f with h;injection h with D h2;subst D;exact sM _
  ·split at f
   ·injection f with h;injection h with D h2;subst D;exact eP _ _
   ·cases f),by simp[ah],p,bu,bv,d⟩,by simp only;omega⟩};rw[f]at p;have aq:(Bv cs).foldl (Cs most (B0 a) x) (zY (F,[]))=zV:=by{have h3:=(rE (j+1) (Bv cs)).symm;rw[h3,wE,p];exact Fu x _};have P:DZ most (B0 a) (Bv cs) l0=zV:=Px (n:=i) (by rw[m,aq];rfl) zO;(conv=>whnf);refine⟨M.old,?_⟩;rw[P]};obtain rfl:j=cs.length:=zO;have au:(Bv cs).foldl (Cs most (B0 a) x) (zY (F,[]))=zY (F',row):=by{rw[<-I,tU (by unfold Bv;rw[d_];exact I_ _)]};rw[au]at m;simp only[wB]at m;have z:=EA w hx;have d9:(Bw row).length=row.length:=by unfold Bw;rw[d_]
 have C:(rows.map Bw).length=i:=by rw[d_];exact ab
 have bx:((F'.take (i+1)).map λl=>zT (a.fin∈l))=((F.take i).map λl=>zT (a.fin∈l))++[zT (a.fin∈x)]:=by{obtain⟨t,rfl⟩:=w;rw[dE zO,Aj hx,xV];rfl};have Q:((F.take i).map λl=>zT (a.fin∈l)).length=i:=by rw[d_,vL];omega
 obtain⟨dl,dm,er,aw,-⟩:=(J.at_ 5 rfl).1.view (S':=R_ (.slice ra row.length rc)) (λb hb=>hb) (λb hb=>hb.elim);injection er with er1 er2 er3;subst er1;subst er3;have ai:St H H7 (pN (xR zF) (λk=>Sx k\/R_ (.slice ra row.length rc) k) 181 na i nc (rows.map Bw)::[pB cE xb (sU mb (.slice U F'.length V) most),yZ Pa Value.string mb (rN F'),pS lM 9 U F'.length V (F'.map yA),pS Cu 4 ba i bc ((F.take i).map λl=>zT (a.fin∈l))]):=D_.absorb (J.pick [3,5,0,1,2,4] zQ);refine Az CS [.slice ra row.length rc] rfl rfl zQ zQ ?_;intro d8 H13 N bw O B;have bz:=ai.skip N B;have W:c_ zF (λk=>Sx k\/R_ (.slice ra row.length rc) k) H13 ra rc (Bw row):=(aw.frame (B.mono λk A=>by{have:=(J.in_ 5 rfl (.inl A)).2;omega})).mono λk A=>.inr A;refine gK (row:=Bw row) bz CS (O.cells λj v hv=>by rw[N_];exact hv) ⟨ra,rc,by rw[d9],W⟩ rfl (λu hu=>by cases Q_.1 hu;rfl) (by rw[C];omega) zQ λao ap H14 d=>?_;rw[C]at d ⊢;have c2:=d.blk 1 rfl;refine E_ ?_;refine lT (c2.cellE rfl) ?_;have am:(F'.map yA)[i]?=zY (yA x):=by rw[I',z];rfl
 refine I2 (i:=i) WP (d.view 3 rfl) (d_ _).symm am rfl ?_;rintro d4 d5 d6 bp K ⟨rfl,-⟩;refine lT K.one ?_;have c3:∀k,S k->k<H14.size:=λk A=>d.up (X k A);refine Af (Zs (S:=S) c3 az (ce.eq (d.old pb (X pb az))) (a9.rng x (Y_ hx)).1 be) λH15 c4=>?_;have c5:=d.call c4;refine Az DT [.bool (zT (a.fin∈x))] rfl rfl zQ zQ ?_;intro dp H16 c6 de c7 c8;refine Ip (x:=zT (a.fin∈x)) (c5.skip c6 c8) 4 DT rfl c7 rfl rfl (by rw[Q];omega) zQ λda db H17 R _=>?_;rw[Q,<-bx]at R;rw[Q];(conv=>whnf);rw[S_ i zO];refine⟨rfl,(i+1,F',rows++[row],ao,ap,da,db),zZ,⟨?_,E,G,by simp[ab],m,(λk=>Sx k\/R_ (.slice ra row.length rc) k),U,V,?_⟩,by simp only;omega⟩;{have:=(P_.1 z).1;omega};have e5:rows.map Bw++[Bw row]=(rows++[row]).map Bw:=zZ;rw[e5]at R;exact R.pick [1,2,3,0,4] zQ};obtain rfl:i=F.length:=zO;rw[yH]at g;have C:(rows.map Bw).length=F.length:=by rw[d_];exact ab
 have P:=Pw a0 rfl bd;have a8:=ZX ca na ba cc nc bc cs (rows.map Bw) (F.map λl=>zT (a.fin∈l)) (F_ H4) H4 (λk A=>A) ((b4.frame (g.old.mono X)).mono λk A=>g.up (X k A)) (g.view 3 rfl) (g.view 4 rfl);rw[C,d_]at a8;refine An.mk a8 ?_;rintro v H6 ⟨ad,bf,dc⟩;have ae:=g.call ad;(conv=>whnf);refine⟨ae.old,?_⟩;rw[P];exact⟨v,rfl,dc.mono λk A=>⟨V' (Ay g.old) A.1,A.2⟩⟩};rw[Z]at D;cases D
end Go.Proofs.YtjbnocjgdmnkoaaGreatDoor
