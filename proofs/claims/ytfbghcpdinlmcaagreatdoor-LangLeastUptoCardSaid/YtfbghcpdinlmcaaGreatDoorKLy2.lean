import Derived.Test.YtfbghcpdinlmcaaGreatDoorKLy1
import Derived.Sort.OwnSortedInts
import Derived.Shelf.Sort.Plain
import Derived.Shelf.Slices.In.SortNone
import Derived.TacticsIn
import Derived.RangeFuncRecord
import Derived.Shelf.Strconv.AppendIntPublic10
set_option maxHeartbeats 0
open BitVec renaming ofInt -> AkS, allOnes -> AlK, twoPow -> Am3
open List renaming replicate -> Ai5, range -> Am0
open Nat renaming reduceMul -> Al7, reducePow -> Al8
open Option renaming some -> AjO
set_option maxRecDepth 100000
open Go.Proofs.Tryz
open Go renaming Program -> w_, Value -> v_, TypeId -> x_, Operand -> z_, World -> y_
open Option renaming some -> zY, none -> zV
open Bool renaming true -> zW, false -> zU
open Decidable renaming decide -> zT
set_option linter.unusedVariables false
set_option linter.unusedSimpArgs false
set_option linter.defProp false
namespace Go.Proofs.YtfbghcpdinlmcaaGreatDoor
variable{P:w_}{S B:Nat->Prop}{H H0:Aa}{K:v_->Prop}{s:ByteArray}{n i b j bb:Nat}{ps:List Pc}{v w0 op m c z:v_}{t te:x_}{q:Int}{x:z_}{xs:List Int}{Z:List Nat}{vs zs:List v_}{sa:Option Addr}{ss:Nat->I7}
def qR{t len e sz:Nat}{k:IntKind}{i:Int}{cs:Array v_}(a:My P t len e sz)(d:GG P e sz)(h0:0<=i)(f:i<len)
  (g:K (.agg (cs.extract (i.toNat*sz) (i.toNat*sz+sz)))):AO P (Instr.index t (.agg cs) (.int k i)) S H K:=by refine AO.mk _ (λw _=>?_) g;cases b:P.info? e with|none=>have:=a.size;simp[b]at this|some c=>have hs:c.size=sz:=by{have:=a.size;simpa [b]using this};simp[Instr.index,asIntOf,run_underlying a.under,h0,f,sizeOf,typeInfo,b,hs,XZ d]
def f_{x:Nat}(h:x<18446744073709551616):18446744073709551615 ^^^ x=18446744073709551615-x:=by
 have a:(BitVec.ofNat 64 x ^^^ AlK 64).toNat=(~~~(BitVec.ofNat 64 x)).toNat:=by rw[BitVec.xor_allOnes]
 rw[iJ,iK,qC,BitVec.toNat_allOnes,vV (by simpa using h),Nat.xor_comm]at a;simpa using a
def Xg{x:Nat}(b:x<18446744073709551616)(k:K (.int .u64 ((18446744073709551615-x:Nat):Int))):AO P (Op.unary .xor (.int .u64 (x:Int))) S H K:=by refine AO.mk _ (λw _=>?_) k;have c:IntKind.u64.max=18446744073709551615:=rfl;have d:IntKind.u64.signed=zU:=rfl;have e:(AkS IntKind.u64.bits (18446744073709551615:Int) ^^^ AkS IntKind.u64.bits (x:Int)).toNat=18446744073709551615-x:=by{show(AkS 64 ((18446744073709551615:Nat):Int) ^^^ AkS 64 (x:Int)).toNat=_;rw[oB,oB,iJ,qC,qC,vV (a:=x) b];exact f_ b};have e2:IntKind.wrap .u64 ((18446744073709551615-x:Nat):Int)=((18446744073709551615-x:Nat):Int):=Iq ⟨by show(0:Int)<=_;omega,by rw[c];omega⟩;show(pure (Value.int .u64 (IntKind.wrap .u64 ((AkS IntKind.u64.bits (if IntKind.u64.signed=zW then(-1:Int)else IntKind.u64.max) ^^^ AkS IntKind.u64.bits (x:Int)).toNat:Int))):Sem v_).run P w=_;rw[d,c];simp only[Bool.false_eq_true,if_false];rw[e,e2];rfl
def Sz(a:BitVec 256)(i:Nat)(b:i<4):wd (~~~a) i=18446744073709551615-wd a i:=by have c:=a.isLt;unfold wd;rw[iK];match i,b with|0,_=>simp only[Al7,Al8]at*;omega|1,_=>simp only[Al7,Al8]at*;omega|2,_=>simp only[Al7,Al8]at*;omega|3,_=>simp only[Al7,Al8]at*;omega
def ZQ(a:BitVec 256)(H:Aa):BZ prog 183 #[BL a] H (BL (~~~a)):=by have d:∀i,wd a i<18446744073709551616:=λi=>Kz a i;refine Aj.of_vc func183 rfl (call183 _) (Cd (Ah a) rfl ?_);intro p H1 q l b e;refine Ag (BL 0) (Ah 0) rfl rfl ?_;intro r H3 s m f c;replace b:=b.agr c (zO:p<r);refine s_ CB zQ zQ (D_ FP ((b.cell _).trans rfl) zA (Xg (d _) (s_ CB zQ zQ (D_ FP ((b.cell _).trans rfl) zA (Xg (d _) (s_ CB zQ zQ (D_ FP ((b.cell _).trans rfl) zA (Xg (d _) (s_ CB zQ zQ (D_ FP ((b.cell _).trans rfl) zA (Xg (d _) ?_)))))))))));rw[<-Sz a 0 zQ,<-Sz a 1 zQ,<-Sz a 2 zQ,<-Sz a 3 zQ];refine Ct CB (BL 0) rfl (Ah (~~~a)) rfl (wM rfl f (zQ:0+4<=4) rfl ?_);intro H4 g h n;refine lN (cs:=Ah (~~~a)) Bh (g.cells (λj v o=>by simpa [Ak,Ah]using o)) ?_;exact⟨rfl,λk t=>by rw[h k zO,c k zO,e k zO]⟩
def cG(a b:BitVec 256)(H:Aa):BZ prog 145 #[BL a,BL b] H (BL (a &&& ~~~b)):=by refine Aj.of_vc func145 rfl (call145 _) (Cd (Ah a) rfl ?_);intro p H1 B l m n;have J_:=(St.nil H).box B l m n;refine Cd (Ah b) rfl ?_;intro q H2 C o s t;have u:=J_.box C o s t;refine Ag (BL 0) (Ah 0) rfl rfl ?_;intro r H3 D w x y;have c:=u.box D w x y;refine Ap.held (H_ H3) 4 (sq [0,1] (.f 2 (.f 3 (.f 4 .e)))) rfl zX ?_;refine L_ (cs:=Ah a) Bh ((c.blk 0 rfl).cells λj v g=>by rw[K_];exact g) (c.blk 0 rfl).lt ?_;refine L_ (cs:=Ah b) Bh ((c.blk 1 rfl).cells λj v g=>by rw[K_];exact g) (c.blk 1 rfl).lt ?_;refine Al (ZQ b H3) λH4 d=>?_;have z:=c.call d;refine⟨d,?_⟩;refine Al (Vr a (~~~b) H4) λH5 h=>?_;have A:=z.call h;refine⟨d.trans (h.mono λk E=>Af d E),?_⟩;refine A9 (cs:=Ah (a &&& ~~~b)) A 2 rfl rfl (zQ:0+4<=4) rfl λH6 i=>(L_ (cs:=Ah (a &&& ~~~b)) Bh ((i.blk 2 rfl).cells (λj v g=>by simpa [Ak,Ah]using g)) zA ?_);exact⟨rfl,i.old⟩
def bA(w:List Nat):ByteArray:=⟨(w.map UInt8.ofNat).toArray⟩
def yU(s:ByteArray):List Nat:=s.data.toList.map UInt8.toNat
def Rs(s:ByteArray):(yU s).length=s.size:=by unfold yU;rw[k_];exact tG
def Rr{b:UInt8}(h:s.data[i]?=zY b):(yU s)[i]?=zY b.toNat:=by unfold yU;rw[I',iI,h];rfl
def nK{k:Nat}(h:k<s.size):∃b,s.data[k]?=zY b:=⟨s.data[k]'h,Array.getElem?_eq_getElem h⟩
def Ai{l c:List v_}(h:c.length=l.length):Ak l 0 c=c:=by unfold Ak;rw[vQ,tL,K_,h,List.drop_length,yX]
def tS(x:BitVec 256)(l:List Nat):BitVec 256:=l.foldl (λx b=>x ||| Am3 256 b) x
def qU(s:ByteArray)(hs:s.size<=1048576)(H:Aa):BZ prog 48 #[.string s] H (BL (tS 0#256 (yU s))):=by refine Aj.of_vc func48 rfl (call48 _) (Ag (BL 0) (Ah 0) rfl rfl ?_);intro r H1 J q t u;have J_:=(St.nil H).box J q t u;refine Ag (BL 0) (Ah 0) rfl rfl ?_;intro p H2 K w y z;have A:=J_.box K w y z;(conv=>whnf);refine Ay.mk [7] (λi:Nat=>[A_ i]) (λi H3=>i<=s.size/\St H H3 [pB 101 r (Ah 0),pB 101 p (Ah (tS 0#256 ((yU s).take i)))]) (λi _=>s.size-i) ?_ ?_;{(conv=>whnf);exact⟨0,rfl,q_ _,A⟩};{rintro i H3 F ⟨L,d⟩;refine AD.m2 (λh=>?_) (λh=>?_);{have⟨c,B⟩:=nK (s:=s) (k:=i) zO;obtain⟨b,o⟩:∃b,b=c.toNat:=⟨_,rfl⟩;have l:b<256:=by{rw[o];exact UInt8.toNat_lt c};obtain⟨x,G⟩:∃x,x=tS 0#256 ((yU s).take i):=⟨_,rfl⟩;have m:tS 0#256 ((yU s).take (i+1))=x ||| Am3 256 b:=by{rw[Ac (Rr B),G,o];unfold tS;rw[xP];rfl};rw[<-G]at d;have C:=d.blk 1 rfl;have D:=(d.in_ 1 rfl rfl).2;refine Ap.heldZ (H_ H3) [13] (sq [0,1,2,3,4,5,6,7,8,9,10,11,12] (.f 13 .e)) rfl zX (ED underlying9 rfl B ?_);rw[<-o];refine PQ (b:=6) zQ (s_ CB zO zO ?_);refine D_ FP (v:=.int .u64 (wd x (b / 64))) (by rw[C.cell,K_,zG];exact P8 x b zO) D ?_;refine ED underlying9 rfl B ?_;rw[<-o];refine Mw (b:=63) (Vg l) (Vg zQ) ?_;have I:2^(b % 64)<2^64:=Nat.pow_lt_pow_right zQ zO;rw[kV];have n:zI .u64 ((1*2^(b % 64):Nat):Int):=JY zO;refine nQ (a:=1) (by simp[IntKind.bits];omega) n ?_;refine rC (Fs x _) n (s_ CB zO zO ?_);refine AZ d 1 FP rfl (by simp[Ah];omega) rfl λH4 g=>?_;(conv=>whnf);rw[Q_ i zO];refine⟨rfl,i+1,zZ,⟨zO,?_⟩,zO⟩;rw[m,<-Ue x b zO];rw[K_,zG,Nat.one_mul]at g;exact g};{obtain rfl:i=s.size:=zO;rw[uL (by rw[Rs];exact N_ _)]at d;generalize tS 0#256 (yU s)=x at*;refine L_ (cs:=Ah x) Bh ((d.blk 1 rfl).cells λj v E=>by rw[K_];exact E) zA ?_;refine A9 (cs:=Ah x) d 0 rfl rfl (N_ _) rfl λH4 g=>?_;rw[Ai (show(Ah x).length=(Ah 0).length from rfl)]at g;refine L_ (cs:=Ah x) Bh ((g.blk 0 rfl).cells λj v E=>by rw[K_];exact E) zA ?_;exact⟨rfl,g.old⟩}}
def Fw(x:BitVec 256)(k:Nat):List v_:=(Am0 256).map λb=>.bool (zT (b<k)&&x.getLsbD b)
def Av(x:BitVec 256):List v_:=Fw x 256
def BT(x:BitVec 256)(k:Nat):(Fw x k).length=256:=by simp[Fw]
def Lg(x:BitVec 256)(k:Nat)(h:b<256):(Fw x k)[b]?=zY (.bool (zT (b<k)&&x.getLsbD b)):=by unfold Fw;rw[I',wS h];rfl
def IB(x:BitVec 256)(h:b<256):(Av x)[b]?=zY (.bool (x.getLsbD b)):=by unfold Av;rw[Lg x 256 h];simp[h]
def UH(x:BitVec 256){k:Nat}(h:k<256):(Fw x k).set k (.bool (x.getLsbD k))=Fw x (k+1):=by apply yW;intro i;by_cases b:i<256;{rw[Lg _ _ b,xV,BT];by_cases a:k=i;{subst a;simp[h]};{rw[G_ a,Lg _ _ b];have:zT (i<k)=zT (i<k+1):=decide_eq_decide.2 zO;rw[this]}};{rw[zE (by simp[BT];omega),zE (by simp[BT];omega)]}
def SP(x:BitVec 256):Fw x 0=Ai5 256 (.bool zU):=by unfold Fw;simp[mN]
def tB:Ty (BitVec 256) where
 size:=256
 rep _ _ cs s:=cs=Av s
 len h:=by rw[h];exact BT _ _
 frame h _:=h
 mono h _:=h
def Ax(x:BitVec 256):(Av x).length=256:=BT _ _
def FM(x:BitVec 256)(k:Nat):(Fw x k).all (·.oneCell')=zW:=by simp[Fw,Value.oneCell']
def Ov:tB.Ones:=by rintro S H b x rfl u a;exact zM.1 (FM x 256) u a
def fZ(x:BitVec 256)(b:Nat)(c:b<256):((((wd x (b / 64) / 2^(b % 64) % 2:Nat):Int)==(1:Int)))=x.getLsbD b:=by have a:=FE x (b / 64) (b % 64) (Nat.mod_lt _ zQ);rw[(zO:64*(b / 64)+b % 64=b)]at a;rw[<-a,Nat.testBit_eq_decide_div_mod_eq];have:=Nat.mod_two_eq_zero_or_one (wd x (b / 64) / 2^(b % 64));rcases this with h | h<;>simp[h]
def aT(x:BitVec 256)(H:Aa):BZ prog 119 #[.agg (Ah x).toArray] H (.agg (Av x).toArray):=by refine Aj.of_vc func119 rfl (call119 _) (Cd (Ah x) rfl ?_);intro p1 H1 y z n o;refine Ag _ (Ai5 256 (.bool zU)) rfl rfl ?_;intro p2 H2 A B p e;refine Ag _ (Ai5 256 (.bool zU)) rfl rfl ?_;intro d H3 C D q c;(conv=>whnf);refine Ay.mk [4] (λk:Nat=>[A_ k]) (λk H4=>k<=256/\C_ (λj=>j<d) H3 H4/\H4.size=H3.size/\R_ H4 d 157 (Fw x k)) (λk _=>256-k) ?_ ?_;{(conv=>whnf);exact⟨0,rfl,zO,C_.refl _ _,rfl,by rw[SP];exact q⟩};{rintro k H4 w ⟨J,a,E,f⟩;have g:=((n.agr e (zO:p1<p2)).agr c (zO:p1<d)).agr a (zO:p1<d);refine AD.m2 (λh=>?_) (λh=>?_);{have F:k / 64<4:=zO;refine kH (b:=64) zQ (BK zO) (s_ AiE zO zO (D_ (v:=.int .u64 (wd x (k / 64))) FP ?_ zA ?_));{rw[g.cell,show 0+(((k / 64:Nat):Int)).toNat*1=k / 64 by omega];have:=P8 x k zO;rwa [show k / 2^6=k / 64 by rfl]at this};refine Yo (b:=64) zQ ?_;(conv=>whnf);rw[Iq (k:=.u64) (JY (x:=k % 64) zO)];refine PQ (k:=.u64) (b:=k % 64) (by show k % 64<=64;omega) ?_;refine Yo (k:=.u64) (b:=2) zQ (s_ CC zO zO ?_);rw[fZ x k zO];refine J_ M' f (by rw[BT];omega) rfl ?_;intro H5 i r G;rw[(zO:0+(k:Int).toNat*1=k),UH x zO]at i;(conv=>whnf);rw[Q_ k zO];exact⟨rfl,k+1,zZ,⟨zO,a.trans (r.mono λj l=>zO),zO,i⟩,zO⟩};{obtain rfl:k=256:=zO;refine L_ (cs:=Av x) (by rw[show(Av x).length=256 from BT _ _];exact Nf) (f.cells λj v s=>by rw[K_];exact s) zA ?_;refine wM (cs:=Av x) (by rw[show(Av x).length=256 from BT _ _];rfl) ((p.agr c (zO:p2<d)).agr a (zO:p2<d)) (by rw[show(Av x).length=256 from BT _ _];simp) (FM x 256) ?_;intro H6 m t I;have u:Ak (Ai5 256 (.bool zU)) 0 (Av x)=Av x:=by{unfold Ak;rw[show(Av x).length=256 from BT _ _];simp};rw[u]at m;refine L_ (cs:=Av x) (by rw[show(Av x).length=256 from BT _ _];exact Nf) (m.cells λj v s=>by rw[K_];exact s) zA ?_;exact⟨rfl,(((o.mono λj l=>zO).trans (e.mono λj l=>zO)).trans (c.mono λj l=>zO)).trans ((a.mono λj l=>zO).trans (t.mono λj l=>zO))⟩}}
def Df(f:Nat->Bool):List v_:=(Am0 256).map λb=>.bool (f b)
def C2(f:Nat->Bool):(Df f).length=256:=by simp[Df]
def IG(f:Nat->Bool)(h:b<256):(Df f)[b]?=zY (.bool (f b)):=by unfold Df;rw[I',wS h];rfl
def Dq{f g:Nat->Bool}(h:∀b,b<256->f b=g b):Df f=Df g:=by unfold Df;exact uU λb a=>by rw[h b (yG.1 a)]
def Tw(f:Nat->Bool){k:Nat}(h:k<256):(Df f).set k (.bool zW)=Df λb=>zT (b=k)|| f b:=by apply yW;intro i;by_cases c:i<256;{rw[IG _ c,xV,C2];by_cases a:k=i;{subst a;simp[h]};{rw[G_ a,IG _ c,j_ (Ne.symm a)]<;>rfl}};{rw[zE (by simp[C2];omega),zE (by simp[C2];omega)]}
def MA:Df (λ_=>zU)=Ai5 256 (.bool zU):=by unfold Df;rw[mN,List.length_range]
def tF:Ty (Nat->Bool) where
 size:=256
 rep _ _ cs f:=cs=Df f
 len h:=by rw[h];exact C2 _
 frame h _:=h
 mono h _:=h
def B_.apart2{p:Pc}(e:B_ B H0 H ps){q:Pc}(f:ps[i]?=zY p)(g:ps[j]?=zY q)(d:i≠j):Dis p q:=by have a:=(V_.1 f).1;have b:=(V_.1 g).1;have l:=(V_.1 f).2;have e2:=(V_.1 g).2;intro k m c;rcases Nat.lt_or_gt_of_ne d with h | h;{exact wF.1 e.dis i j a b h k (by rw[l];exact m) (by rw[e2];exact c)};{exact wF.1 e.dis j i b a h k (by rw[e2];exact c) (by rw[l];exact m)}
abbrev O9{α:Type}(_:α):Prop:=True
def Lc.ofE{kt:x_}{d:TypeDesc}{α:Type}{enc:α->v_}(h:P.underlying kt=zY d)(c:Ag0 d enc):Lc P kt O9 enc where
 inj:=c.inj
 check w em a _:=Go.MapKept.run_checkKey h (c.isKey a) em 9999
 find w a _ es hes:=by
  have f:∀x∈es,Go.MapKept.IsKey d x.key:=λx k=>by
   obtain⟨b,-,e⟩:=hes x k;rw[e];exact c.isKey b
  rcases Go.MapKept.findNow_spec (c.isKey a) es 0 f with⟨g,i⟩ | ⟨j,e,g,i,l⟩
  ·exact .inl ⟨Go.MapKept.run_findKey h g,i⟩
  ·exact .inr ⟨j,e,by rw[K_]at g;exact Go.MapKept.run_findKey h g,i,l⟩
 stays w a _:=Go.MapKept.run_keyThatStays (c.isKey a)
def zP(e:t_):List v_:=[A_ e.fr,A_ e.to,.bool e.sil,.int .u64 (wd e.set 0),.int .u64 (wd e.set 1),.int .u64 (wd e.set 2),.int .u64 (wd e.set 3)]
def Wm(e:t_):∀(j:Nat) (v:v_),(Ah e.set)[j]?=zY v->(zP e)[3+j]?=zY v:=by intro j v h;rw[(zO:3+j=j+3)];exact h
def t_.Ok(e:t_):Prop:=zI .i64 e.fr/\zI .i64 e.to
def C':Ty t_ where
 size:=7
 rep _ _ cs e:=cs=zP e/\e.Ok
 len h:=by rw[h.1];rfl
 frame h _:=h
 mono h _:=h
def HY(e:t_):(zP e).all (·.oneCell')=zW:=rfl
def Dp(e:t_):List v_:=[A_ e.fr,A_ e.to,.bool e.sil]++Av e.set
def B0(e:t_):(Dp e).length=259:=by unfold Dp;rw[M_,show(Av e.set).length=256 from BT _ _];rfl
def Eg:Ty t_ where
 size:=259
 rep _ _ cs e:=cs=Dp e/\e.Ok
 len h:=by rw[h.1];exact B0 _
 frame h _:=h
 mono h _:=h
def EU(e:t_):(Dp e).all (·.oneCell')=zW:=by unfold Dp;rw[sC,Av,FM];rfl
def Ze(e:t_)(h:b<256):(Dp e)[3+b]?=zY (.bool (e.set.getLsbD b)):=by unfold Dp;rw[zL zZ];simpa using IB e.set h
def P_.Rng(a:P_):Prop:=zI .i64 a.st/\zI .i64 a.start/\zI .i64 a.fin
def n_(a:P_)(v:v_):List v_:=[A_ a.st,A_ a.start,A_ a.fin,v]
def tT(S:Nat->Prop)(H:Aa)(v:v_)(a:P_):Prop:=a.Rng/\a.edges.length<=33554432/\∃ea ec,v= .agg (n_ a (.slice ea a.edges.length ec)).toArray/\b_ C' S H ea ec a.edges
def rZ(S:Nat->Prop)(H:Aa)(v:v_)(a:P_):Prop:=a.Rng/\a.edges.length<=33554432/\∃ea ec,v= .agg (n_ a (.slice ea a.edges.length ec)).toArray/\b_ Eg S H ea ec a.edges
def Lq:(prog.info? 174).bind (·.zero)=zY (.agg #[A_ 0,A_ 0,.bool zU,.int .u64 0,.int .u64 0,.int .u64 0,.int .u64 0]):=rfl
def Eu:(prog.info? 76).bind (·.zero)=zY (.agg #[A_ 0,A_ 0,A_ 0,.slice zV 0 0]):=rfl
def Kd:(prog.info? 81).bind (·.zero)=zY (.agg #[A_ 0,A_ 0,A_ 0,.slice zV 0 0]):=rfl
def Zg:v_:=Value.agg (([Value.int .i64 0,Value.int .i64 0,Value.bool zU]:List v_)++Ai5 256 (Value.bool zU)).toArray
def AcF:List v_:=([Value.int .i64 0,Value.int .i64 0,Value.bool zU]:List v_)++Ai5 256 (Value.bool zU)
def Zh:AcF.length=259:=by simp[AcF]
def LO:(prog.info? 185).bind (·.zero)=zY Zg:=zX
variable{a:P_}
def RV{K:v_->Aa->Prop}(h:tT S H v a)
  (k:∀c d,v= .agg (n_ a (.slice c a.edges.length d)).toArray->b_ C' S H c d a.edges->New H (λb H'=>K (Y_ b) H') t (n_ a (.slice c a.edges.length d))):BV prog (Instr.box t v) H K:=by obtain⟨f,g,c,d,rfl,e⟩:=h;exact Cd (n_ a (.slice c a.edges.length d)) rfl (k c d rfl e)
def ZM{K:v_->Aa->Prop}(h:rZ S H v a)
  (k:∀c d,v= .agg (n_ a (.slice c a.edges.length d)).toArray->b_ Eg S H c d a.edges->New H (λb H'=>K (Y_ b) H') t (n_ a (.slice c a.edges.length d))):BV prog (Instr.box t v) H K:=by obtain⟨f,g,c,d,rfl,e⟩:=h;exact Cd (n_ a (.slice c a.edges.length d)) rfl (k c d rfl e)
section
variable{pb:Nat}{b:Option Addr}{ec:Nat}
def Jk(d:a.Rng)(e:a.edges.length<=33554432)(f:R_ H pb t (n_ a (.slice b a.edges.length ec)))(c:GG prog t 4)(g:B pb)(h:b_ C' S H b ec a.edges)
  (k:∀v,tT S H v a->K v):AO prog (Instr.loadAt t (Y_ pb)) B H K:=
 L_ (cs:=n_ a (.slice b a.edges.length ec)) c (f.cells λj v i=>by rw[K_];exact i) g (k _ ⟨d,e,b,ec,rfl,h⟩)
def cJ(d:a.Rng)(e:a.edges.length<=33554432)(f:R_ H pb t (n_ a (.slice b a.edges.length ec)))(c:GG prog t 4)(g:B pb)(h:b_ Eg S H b ec a.edges)
  (k:∀v,rZ S H v a->K v):AO prog (Instr.loadAt t (Y_ pb)) B H K:=
 L_ (cs:=n_ a (.slice b a.edges.length ec)) c (f.cells λj v i=>by rw[K_];exact i) g (k _ ⟨d,e,b,ec,rfl,h⟩)
end
def W8(h:tT S H v a):BZ prog 196 #[v,A_ q] H (.bool (a.has q)):=by refine Aj.of_vc func196 rfl (call196 _) (RV h λl m j n=>?_);subst j;intro p H1 k e b f;have J_:=(St.nil H).box k e b f;by_cases g:0<=q;{have c:zT (0<=q)=zW:=m_ g;(conv=>whnf);rw[c];refine fa Em ?_;refine D_ (v:=A_ a.st) E_ (by rw[b.cell];rfl) zA ?_;by_cases i:q<a.st;{have d:zT (q<a.st)=zW:=m_ i;(conv=>whnf);rw[d];refine fa Em ?_;refine D_ (v:=A_ a.st) E_ (by rw[b.cell];rfl) zA ?_;(conv=>whnf);exact⟨by unfold P_.has;rw[c,d];rfl,J_.old⟩};{have d:zT (q<a.st)=zU:=j_ i;(conv=>whnf);rw[d];(conv=>whnf);exact⟨by unfold P_.has;rw[c,d];rfl,J_.old⟩}};{have c:zT (0<=q)=zU:=j_ g;(conv=>whnf);rw[c];(conv=>whnf);exact⟨by unfold P_.has;rw[c];rfl,J_.old⟩}
inductive ReM
 | eps
 | cls (s:BitVec 256)
 | cat (a b:ReM)
 | alt (a b:ReM)
 | star (a:ReM)
 | and_ (a b:ReM)
 | minus (a b:ReM)
def An:ReM->v_
 | .eps=>.iface 98 (.agg #[])
 | .cls s=>.iface 104 (BL s)
 | .cat a b=>.iface 105 (.agg #[An a,An b])
 | .alt a b=>.iface 305 (.agg #[An a,An b])
 | .star a=>.iface 310 (.agg #[An a])
 | .and_ a b=>.iface 64 (.agg #[An a,An b])
 | .minus a b=>.iface 65 (.agg #[An a,An b])
def Ke(r:ReM):∃T v,An r= .iface T v:=by cases r<;>exact⟨_,_,rfl⟩
def E7(r:ReM):(An r).oneCell'=zW:=by cases r<;>rfl
def ReM.nodes:ReM->Nat
 | .eps=>1
 | .cls _=>1
 | .cat a b=>1+a.nodes+b.nodes
 | .alt a b=>1+a.nodes+b.nodes
 | .star a=>1+a.nodes
 | .and_ a b=>1+a.nodes+b.nodes
 | .minus a b=>1+a.nodes+b.nodes
def ReM.plain:ReM->Bool
 | .eps=>zW
 | .cls _=>zW
 | .cat a b=>a.plain&&b.plain
 | .alt a b=>a.plain&&b.plain
 | .star a=>a.plain
 | .and_ _ _=>zU
 | .minus _ _=>zU
def Eb{A:x_}{d:TypeDesc}(a:P.underlying A=zY d)(b:∀c,d≠ .interface c)(k:K (.tuple #[v,.bool zW])):AO P (Instr.typeAssert (.iface A v) t A zW) S H K:=by refine AO.mk _ (λw _=>?_) k;unfold Instr.typeAssert;simp only[Sem.run_bind,run_underlying a,Result.andThen_ok];cases d<;>first | (exact absurd rfl (b _)) | simp
def Cb{T A:x_}{d:TypeDesc}(g:P.underlying A=zY d)(h:∀j,d≠ .interface j)(a:(P.info? A).bind (·.zero)=zY z)(b:T≠A)(k:K (.tuple #[z,.bool zU])):AO P (Instr.typeAssert (.iface T v) t A zW) S H K:=by refine AO.mk _ (λw _=>?_) k;have c:(zeroValue A).run P w= .ok z w:=by{cases e:P.info? A with|none=>rw[e]at a;cases a|some i=>have f:i.zero=zY z:=by{simpa [e]using a};simp[zeroValue,typeInfo,e,f]};unfold Instr.typeAssert;simp only[Sem.run_bind,run_underlying g,Result.andThen_ok];cases d<;>first | (exact absurd rfl (h _)) | simp[b,c]
def P4{T:x_}{a:Array (String×x_)}(h:P.underlying t=zY (.interface a))(w:y_):(Op.equal t (.iface T v) .nilIface).run P w= .ok zU w:=by have:∀d:Nat,(Op.equalIn (d+1) t (.iface T v) .nilIface).run P w= .ok zU w:=λd=>by{simp[Op.equalIn,run_underlying h]};exact this 9999
def Ny{a:Array (String×x_)}(h:P.underlying t=zY (.interface a))(w:y_):(Op.equal t .nilIface .nilIface).run P w= .ok zW w:=by have:∀d:Nat,(Op.equalIn (d+1) t .nilIface .nilIface).run P w= .ok zW w:=λd=>by{simp[Op.equalIn,run_underlying h]};exact this 9999
section
variable{y:z_}{T:x_}{a:Array (String×x_)}
def qP(h:P.underlying t=zY (.interface a))(k:K (.bool zU)):AO P (do eqGuard .eql t x y (.iface T v) .nilIface;binOp .eql t (.iface T v) .nilIface) S H K:=by refine AO.mk _ (λw _=>?_) k;simp[eqGuard,binOp,P4 h]
def Qy(h:P.underlying t=zY (.interface a))(k:K (.bool zW)):AO P (do eqGuard .neq t x y (.iface T v) .nilIface;binOp .neq t (.iface T v) .nilIface) S H K:=by refine AO.mk _ (λw _=>?_) k;simp[eqGuard,binOp,P4 h]
end
section
variable{a:Array (String×x_)}
def Aj2(h:P.underlying t=zY (.interface a))(k:K (.bool zW)):AO P (do eqGuard .eql t x (.const c) .nilIface .nilIface;binOp .eql t .nilIface .nilIface) S H K:=by refine AO.mk _ (λw _=>?_) k;simp[eqGuard,binOp,Ny h]
def ZA(h:P.underlying t=zY (.interface a))(k:K (.bool zU)):AO P (do eqGuard .neq t x (.const c) .nilIface .nilIface;binOp .neq t .nilIface .nilIface) S H K:=by refine AO.mk _ (λw _=>?_) k;simp[eqGuard,binOp,Ny h]
end
def Vq(x:v_)(w:y_):(callMethod (.iface 98 x) "Size" #[]).run prog w= .ok (.enter 271 #[x]) w:=zX
def Vp(x:v_)(w:y_):(callMethod (.iface 104 x) "Size" #[]).run prog w= .ok (.enter 273 #[x]) w:=zX
def Vo(x:v_)(w:y_):(callMethod (.iface 105 x) "Size" #[]).run prog w= .ok (.enter 275 #[x]) w:=zX
def Vm(x:v_)(w:y_):(callMethod (.iface 305 x) "Size" #[]).run prog w= .ok (.enter 278 #[x]) w:=zX
def TF(x:v_)(w:y_):(callMethod (.iface 310 x) "Size" #[]).run prog w= .ok (.enter 280 #[x]) w:=zX
def Vn(x:v_)(w:y_):(callMethod (.iface 64 x) "Size" #[]).run prog w= .ok (.enter 266 #[x]) w:=zX
def RP(x:v_)(w:y_):(callMethod (.iface 65 x) "Size" #[]).run prog w= .ok (.enter 269 #[x]) w:=zX
section
open Go.Sort
structure Yx(P:w_)(f:FuncId):Prop where
 call:∀(args:Array v_) (w:y_),(callFunc f args).run P w= .ok (.enter f args) w
 some_:∀(blk off cap:Nat) (zs:List Int) (w:y_),Holds (Value.int .i64) w blk off zs.toArray->blk<w.heap.size->zs.length<4611686018427387904->
  Calls P f #[.slice (zY ⟨blk,off,zV⟩) zs.length cap] w λe w'=>e= .returned (.tuple #[])/\∃n os,w'=grow (putRow (Value.int .i64) (Sort.ahead w n) blk off (zs.mergeSort λx y=>zT (x<=y)).toArray) os
 none_:∀(p:Option Addr) (cap:Nat) (w:y_),Calls P f #[.slice p 0 cap] w λe w'=>e= .returned (.tuple #[])/\w'=w
def QG{S:Nat->Prop}{H:Aa}:∀{xs:List Int} {cs:List v_},(HT .i64).reps S H cs xs->cs=xs.map (Value.int .i64)/\∀x∈xs,zI .i64 x
 | [],_,h=>by cases h;exact⟨rfl,λx b=>by cases b⟩
 | x::xs,_,h=>by
   obtain⟨c,r,rfl,⟨rfl,d⟩,e⟩:=h;obtain⟨rfl,f⟩:=QG e;refine⟨rfl,λy a=>?_⟩;rcases xU.1 a with rfl | a
   ·exact d
   ·exact f y a
def Qz{S:Nat->Prop}{H:Aa}:∀{xs:List Int},(∀x∈xs,zI .i64 x)->(HT .i64).reps S H (xs.map (Value.int .i64)) xs
 | [],_=>rfl
 | x::xs,h=>⟨[A_ x],xs.map (Value.int .i64),rfl,⟨rfl,h x (by simp)⟩,Qz λy a=>h y (by simp[a])⟩
def AjS{f:FuncId}{e:x_}{a:Option Addr}{cap:Nat}{K:v_->Aa->Prop}(C:Yx P f)(p:B_ B H0 H ps)(i:Nat)(q:ps[i]?=zY (pS (HT .i64) e a n cap xs))(r:xs.length<4611686018427387904)
  (k:∀H',B_ B H0 H' (ps.set i (pS (HT .i64) e a n cap (xs.mergeSort λx y=>zT (x<=y))))->K (.tuple #[]) H'):Ae P f #[.slice a n cap] H K:=by obtain⟨s,-⟩:=p.at_ i q;obtain⟨T,⟨N,d⟩,h⟩:=s;obtain⟨rfl,t⟩:=QG h;refine⟨λw O=>⟨C.call _ w,?_⟩⟩;subst O;rcases d with⟨D,E⟩ | ⟨b,c,l,D,-,F,G,I,m,u⟩;{injection D with e1 e2 e3;subst e1;subst e2;subst e3;obtain rfl:=vJ E;refine(C.none_ zV 0 w).mono ?_;rintro _ _ ⟨rfl,rfl⟩;exact⟨_,rfl,p_.refl _,k _ (by rw[show([]:List Int).mergeSort (λx y=>zT (x<=y))=[] by simp];exact p.say i q _ (p.at_ i q) (λk o=>o))⟩};{injection D with e1 e2 e3;subst e1;subst e2;subst e3;rw[show xs.length*(HT .i64).size=xs.length from zG _]at u;rw[show cap*(HT .i64).size=cap from zG _]at m;have J:=(uS.1 F).1;have v:(xs.mergeSort λx y=>zT (x<=y)).length=xs.length:=List.length_mergeSort _;have Q:Holds (Value.int .i64) w b 0 xs.toArray:=holds_of_blockI (e:=e) (cur:=l.toArray) F (by simpa using u);refine(C.some_ b 0 cap xs w Q J r).mono ?_;rintro _ U ⟨rfl,n,os,rfl⟩;have L:=heap_sortedI (n:=n) (os:=os) (xs.mergeSort λx y=>zT (x<=y)).toArray F;obtain⟨-,-,-,z,A⟩:=grownBy_sortedI (w:=w) (g:=b) (n:=n) (os:=os) (xs.mergeSort λx y=>zT (x<=y)).toArray;refine⟨_,rfl,⟨rfl,rfl,rfl⟩,k _ (p.upd i q (λj M=>A j M.1 λe=>?_) _ ⟨⟨_,⟨?_,.inr ⟨b,cap,(putCells (Value.int .i64) 0 (xs.mergeSort λx y=>zT (x<=y)).toArray l.toArray).toList,?_,q_ _,?_,zO,I,?_,?_⟩⟩,Qz λx R=>t x (List.mem_mergeSort.1 R)⟩,λk o=>o.elim⟩ (λk o=>.inl o) (λk o=>?_) z)⟩;{cases e;exact M.2 (.inl ⟨0,_,_,rfl⟩)};{rw[k_];exact(zG _).symm};{rw[v]};{show _=_;rw[L]};{rw[tG];unfold putCells;rw[Array.size_mapIdx];simp only[uA,m];exact(zG _).symm};{rw[show(xs.mergeSort λx y=>zT (x<=y)).length*(HT .i64).size=(xs.mergeSort λx y=>zT (x<=y)).length from zG _];exact take_putCellsI l.toArray _ (by rw[v];simpa [m]using G)};{have S:=(p.in_ i q o).2;exact Nat.lt_of_lt_of_le S z}}
end
def fG:Go.Shelf.Ren:=⟨fun | 189=>140 | 125=>181 | 257=>180 | 128=>206 | 129=>207 | 294=>197 | 295=>198 | 296=>199 | 297=>200 | 298=>201 | 299=>202 | 216=>203 | 300=>204 | 301=>205 | 328=>219 | 329=>220 | 330=>221 | 331=>222 | 332=>223 | 215=>224 | 343=>235 | n=>n,fun | 28=>41 | 3=>3 | 46=>218 | 0=>0 | 51=>332 | 53=>99 | 4=>4 | 183=>325 | 182=>324 | 131=>260 | 5=>5 | 9=>9 | 218=>344 | 222=>348 | 228=>359 | 229=>247 | n=>n,fun | n=>n⟩
def WD:Go.Proofs.Lays.n189 prog fG:={
 mixed:=zX
 f125:=func181.trans (congrArg zY zX)
 f128:=func206.trans (congrArg zY zX)
 f129:=func207.trans (congrArg zY zX)
 f189:=func140.trans (congrArg zY zX)
 f215:=func224.trans (congrArg zY zX)
 f216:=func203.trans (congrArg zY zX)
 f257:=func180.trans (congrArg zY zX)
 f294:=func197.trans (congrArg zY zX)
 f295:=func198.trans (congrArg zY zX)
 f296:=func199.trans (congrArg zY zX)
 f297:=func200.trans (congrArg zY zX)
 f298:=func201.trans (congrArg zY zX)
 f299:=func202.trans (congrArg zY zX)
 f300:=func204.trans (congrArg zY zX)
 f301:=func205.trans (congrArg zY zX)
 f328:=func219.trans (congrArg zY zX)
 f329:=func220.trans (congrArg zY zX)
 f330:=func221.trans (congrArg zY zX)
 f331:=func222.trans (congrArg zY zX)
 f332:=func223.trans (congrArg zY zX)
 f343:=func235.trans (congrArg zY zX)
 t0:=underlying0
 a0:=isAgg0
 z0:=sizeOf0
 v0:=zeroValue0
 t3:=underlying3
 a3:=isAgg3
 z3:=sizeOf3
 v3:=zeroValue3
 t4:=underlying4
 a4:=isAgg4
 z4:=sizeOf4
 v4:=zeroValue4
 t5:=underlying5
 a5:=isAgg5
 z5:=sizeOf5
 v5:=zeroValue5
 t9:=underlying9
 a9:=isAgg9
 z9:=sizeOf9
 v9:=zeroValue9
 t28:=underlying41
 a28:=isAgg41
 z28:=sizeOf41
 v28:=zeroValue41
 t46:=underlying218
 a46:=isAgg218
 z46:=sizeOf218
 v46:=zeroValue218
 t51:=underlying332
 a51:=isAgg332
 z51:=sizeOf332
 v51:=zeroValue332
 t53:=underlying99
 a53:=isAgg99
 z53:=sizeOf99
 v53:=zeroValue99
 t131:=underlying260
 a131:=isAgg260
 z131:=sizeOf260
 v131:=zeroValue260
 t182:=underlying324
 a182:=isAgg324
 z182:=sizeOf324
 v182:=zeroValue324
 t183:=underlying325
 a183:=isAgg325
 z183:=sizeOf325
 v183:=zeroValue325
 t218:=underlying344
 a218:=isAgg344
 z218:=sizeOf344
 v218:=zeroValue344
 t222:=underlying348
 a222:=isAgg348
 z222:=sizeOf348
 v222:=zeroValue348
 t228:=underlying359
 a228:=isAgg359
 z228:=sizeOf359
 v228:=zeroValue359
 t229:=underlying247
 a229:=isAgg247
 z229:=sizeOf247
 v229:=zeroValue247}
def AhE:Yx prog 140 where
 call:=call140
 some_:=λblk b cap d w e a c=>Any.slices_Sort_int WD blk b cap d w e a c
 none_:=λp cap w=>Any.slices_Sort_int_none WD p cap w
def FW(ro:Option Nat):Fence:={Fence.wide with round:=ro}
def TI(ds:List Nat):List Deferred:=ds.map λD=>{target:=.collected D,args:= #[]}
structure AtD(ds:List Nat)(fr:Fr)(a:Act):Prop where
 tmps:a.tmps.toList=fr
 defers:a.defers=TI ds
structure Ag4(P:w_)(l:Nat)(args:Array v_)(H:Aa)(K:v_->Aa->Prop):Prop where
 in_::
 out_:∀w:y_,w.heap=H->∃f tmps assign body,(Instr.yield l args).run P w= .ok (.round l f tmps assign body) w/\RoundIn (FW zV) 0 P l f tmps assign body w λe w'=>∃v,e= .returned v/\p_ w w'/\K v w'.heap
def yK(P:w_)(o:Oper)(fr:Fr)(H:Aa)(K:v_->Aa->Prop):Prop:=
 match o.op with
 | .call {callee:=.value f,args, .. }=>zF fr f λg=>match g with
   | .func (.yield l) first cap=>Ja fr args.toList λvs=>Ag4 P l (first.toList++vs).toArray H K
   | _=>wV P zU (λ_=>True) o fr H K
 | .defer _=>False
 | _=>wV P zU (λ_=>True) o fr H K
def Ak5(P:w_)(o:Oper)(want:Bool)(t:Nat)(fr:Fr)(H:Aa)(K:Fr->Aa->Prop):Prop:=
 yL fr t λv=>match v with
  | .bool b=>AD b
    (xN fr t (.bool zW) λfr1=>match want with
     | true=>yK P o fr1 H λv H'=>D1 o.dst fr1 v λfr'=>wC K fr' H'
     | false=>D1 o.dst fr1 undef λfr'=>wC K fr' H)
    (xN fr t (.bool zU) λfr1=>match want with
     | false=>yK P o fr1 H λv H'=>D1 o.dst fr1 v λfr'=>wC K fr' H'
     | true=>D1 o.dst fr1 undef λfr'=>wC K fr' H)
  | .tuple _=>D1 o.dst fr undef λfr'=>wC K fr' H
  | _=>False
abbrev KD:=Fr->List Nat->Aa->Prop
def Af1(w0:y_)(Q:Exit->Fr->List Nat->Aa->Prop):Exit->Act->y_->Prop
 | .panic _,_,_=>False
 | .outgrown,_,_=>False
 | e,a,w=>∃fr ds,AtD ds fr a/\p_ w0 w/\Q e fr ds w.heap
def Zo(X:List (Nat×KD))(id:Nat)(fr:Fr)(ds:List Nat)(H:Aa):Prop:=
 match X with
 | []=>False
 | (j,k)::X=>match Nat.beq j id with
   | true=>k fr ds H
   | false=>Zo X id fr ds H
def QxD(kn:KD)(X:List (Nat×KD))(kr:KD)(e:Exit)(fr:Fr)(ds:List Nat)(H:Aa):Prop:=
 match e with
 | .normal=>kn fr ds H
 | .exit id=>Zo X id fr ds H
 | .ret=>kr fr ds H
 | _=>False
structure VLoopD(P:w_)(ro:Option Nat)(c:Code)(fr:Fr)(ds:List Nat)(H:Aa)(X:List (Nat×KD))(kr:KD):Prop where
 in_::
 out_:∀(n:Nat) (a:Act) (w:y_),AtD ds fr a->w.heap=H->(Code.loop c).wpIn (FW ro) n P (Af1 w (QxD (λ_ _ _=>False) X kr)) a w
structure VRF(P:w_)(g:z_)(ps:Array Tmp)(assign body:Code)(fr:Fr)(ds:List Nat)(H:Aa)(kn:KD)(X:List (Nat×KD))(kr:KD):Prop where
 in_::
 out_:∀(n:Nat) (a:Act) (w:y_),AtD ds fr a->w.heap=H->(Code.rangeFunc g ps assign body).wpIn (FW zV) n P (Af1 w (QxD kn X kr)) a w
section
variable(P:w_)(ro:Option Nat)(a b:Code)(fr:Fr)(ds:List Nat)(H:Aa)(kn:KD)(X:List (Nat×KD))(kr:KD)
end
structure VRet(P:w_)(rs:List ResultVar)(R:v_->Aa->Prop)(fr:Fr)(ds:List Nat)(H:Aa):Prop where
 in_::
 nd:ds.Nodup
 open_:∀D∈ds,H[D]?=zY (.deferred (zY []))
 res:∀H',C_ (λk=>k∉ds) H H'->H'.size=H.size->Qb P rs fr H' R
def B_.perm{qs:List Pc}(a:B_ B H0 H ps)(h:ps.Perm qs):B_ B H0 H qs:=
 ⟨a.old,a.lt0,a.size,λp b=>a.oks p (h.mem_iff.2 b),λp b=>a.rng p (h.mem_iff.2 b),(h.pairwise_iff fun{x y} c k e d=>c k d e).1 a.dis⟩
def B_.sub{qs:List Pc}(a:B_ B H0 H ps)(h:qs.Sublist ps):B_ B H0 H qs:=
 ⟨a.old,a.lt0,a.size,λp b=>a.oks p (h.subset b),λp b=>a.rng p (h.subset b),a.dis.sublist h⟩
def B_.pickN(b:B_ B H0 H ps)(n:Nat)(is:List Nat)(f:is.Nodup):B_ B H0 H ((is.filterMap λi=>(ps.take n)[i]?)++ps.drop n):=by have e:=uM n ps;rw[<-e]at b;generalize ps.take n=qs at*;generalize ps.drop n=o at*;have⟨p,g,h⟩:=sD.1 b.dis;have J_:B_ B H0 H qs:=b.sub (List.sublist_append_left _ _);have c:=J_.pick is f;have j:∀q,q∈is.filterMap (λi=>qs[i]?)->q∈qs:=λq a=>by{obtain⟨i,-,l⟩:=List.mem_filterMap.1 a;exact e_ l};refine⟨b.old,b.lt0,b.size,λq a=>?_,λq a k d=>?_,sD.2 ⟨c.dis,g,λq a r m=>h q (j q a) r m⟩⟩;{rcases X'.1 a with a | a;{exact c.oks q a};{exact b.oks q (X'.2 (.inr a))}};{rcases X'.1 a with a | a;{exact c.rng q a k d};{exact b.rng q (X'.2 (.inr a)) k d}}
abbrev kI:Int->v_:=Value.int .i64
def WC:Lc prog 3 (O9 (α:=Int)) kI:=Lc.ofE underlying3 (lD .i64)
def WE:KW prog 251 3 3 (.int .i64 0):=⟨rfl,rfl⟩
abbrev Dom(mm:Int->Option v_):Int->Prop:=λq=>(mm q).isSome=zW
abbrev a_:Ty Int:=HT .i64
def HH:∀(n:Nat) (l:List Int),l.Nodup->(∀x∈l,0<=x/\x<(n:Int))->l.length<=n
 | 0,l,_,h=>by
   cases l with
   | nil=>exact N_ _
   | cons x l=>have:=h x xY;omega
 | n+1,l,hd,h=>by
   have c:=HH n (l.filter λx=>zT (x<(n:Int))) (hd.filter _) (λx a=>by
    have⟨c,d⟩:=List.mem_filter.1 a;exact⟨(h x c).1,by simpa using d⟩)
   have d:l.length<=(l.filter λx=>zT (x<(n:Int))).length+1:=by
    clear c
    induction l with
    | nil=>simp
    | cons x l f=>
      rw[List.nodup_cons]at hd;by_cases a:x<(n:Int)
      ·rw[vC (by simpa using a)];have:=f hd.2 (λy b=>h y (xQ _ b));simp only[c_];omega
      ·rw[vU (by simpa using a)];have g:x=(n:Int):=by have:=h x xY;omega
       have:l.filter (λx=>zT (x<(n:Int)))=l:=List.filter_eq_self.2 λy b=>by
        have i:=h y (xQ _ b);have:y≠x:=λe=>hd.1 (e ▸ b);rw[yD];omega
       rw[this];simp
   omega
def HF{x:Int}(h:0<=x/\x<65536):zI .i64 x:=⟨by simp[IntKind.min,IntKind.signed,IntKind.bits];omega,by simp[IntKind.max,IntKind.signed,IntKind.bits];omega⟩
def VD{d:List Int}(h:d.Nodup):(d.mergeSort λx y=>zT (x<=y)).Pairwise (·<·):=by have e:(d.mergeSort λx y=>zT (x<=y)).Pairwise (·<=·):=(List.pairwise_mergeSort (λa b c e f=>by simp only[yD]at*;omega) (λa b=>by simp only[Bool.or_eq_true,yD];omega) _).imp λh=>of_decide_eq_true h;have f:(d.mergeSort λx y=>zT (x<=y)).Nodup:=(List.mergeSort_perm _ _).nodup_iff.2 h;exact(e.and f).imp λ⟨g,i⟩=>zO
def Z':ReM->Nat
 | .eps=>2
 | .cls _=>2
 | .cat a b=>Z' a+Z' b
 | .alt a b=>Z' a+Z' b+2
 | .star a=>Z' a+2
 | .and_ _ _=>0
 | .minus _ _=>0
def AP(p q:Nat):t_:=⟨p,q,zW,0#256⟩
def Cy(p q:Nat)(s:BitVec 256):t_:=⟨p,q,zU,s⟩
def BY:ReM->Nat->Nat×Nat×List t_
 | .eps,n=>(n,n+1,[AP n (n+1)])
 | .cls s,n=>(n,n+1,[Cy n (n+1) s])
 | .cat a b,n=>((BY a n).1,(BY b (n+Z' a)).2.1,(BY a n).2.2++(BY b (n+Z' a)).2.2++[AP (BY a n).2.1 (BY b (n+Z' a)).1])
 | .alt a b,n=>(n,n+1+Z' a+Z' b,(BY a (n+1)).2.2++(BY b (n+1+Z' a)).2.2++
   [AP n (BY a (n+1)).1,AP n (BY b (n+1+Z' a)).1,AP (BY a (n+1)).2.1 (n+1+Z' a+Z' b),AP (BY b (n+1+Z' a)).2.1 (n+1+Z' a+Z' b)])
 | .star a,n=>(n,n+1+Z' a,(BY a (n+1)).2.2++[AP n (BY a (n+1)).1,AP n (n+1+Z' a),AP (BY a (n+1)).2.1 (BY a (n+1)).1,AP (BY a (n+1)).2.1 (n+1+Z' a)])
 | .and_ _ _,n=>(n,n,[])
 | .minus _ _,n=>(n,n,[])
def Eh:∀(r:ReM),r.plain=zW->∀n,(BY r n).2.2.length+1<=2*Z' r
 | .eps,_,n=>by simp[BY,Z']
 | .cls _,_,n=>by simp[BY,Z']
 | .cat a b,h,n=>by
   simp only[ReM.plain,O']at h;have c:=Eh a h.1 n;have d:=Eh b h.2 (n+Z' a);simp only[BY,Z',M_,c_,h_];omega
 | .alt a b,h,n=>by
   simp only[ReM.plain,O']at h;have c:=Eh a h.1 (n+1);have d:=Eh b h.2 (n+1+Z' a);simp only[BY,Z',M_,c_,h_];omega
 | .star a,h,n=>by
   have c:=Eh a h (n+1);simp only[BY,Z',M_,c_,h_];omega
 | .and_ _ _,h,_=>by cases h
 | .minus _ _,h,_=>by cases h
def GY:∀(r:ReM),r.plain=zW->∀n,n<=(BY r n).1/\(BY r n).1<n+Z' r/\n<=(BY r n).2.1/\(BY r n).2.1<n+Z' r
 | .eps,_,n=>by simp only[BY,Z'];omega
 | .cls _,_,n=>by simp only[BY,Z'];omega
 | .cat a b,h,n=>by
   simp only[ReM.plain,O']at h;have c:=GY a h.1 n;have d:=GY b h.2 (n+Z' a);simp only[BY,Z'];omega
 | .alt a b,h,n=>by simp only[BY,Z'];omega
 | .star a,h,n=>by simp only[BY,Z'];omega
 | .and_ _ _,h,_=>by cases h
 | .minus _ _,h,_=>by cases h
def xR(n:Nat)(v sub:v_):List v_:=[A_ n,A_ 0,A_ 0,v,sub,A_ 0]
abbrev yO:x_:=246
def Gs{rest:List Pc}{sub:v_}{K:v_->Aa->Prop}(a:B_ B H0 H (pB yO bb (xR n v sub)::rest))(d:n<=2000000)(k:∀H',B_ B H0 H' (pB yO bb (xR (n+1) v sub)::rest)->K (.int .i64 (n:Int)) H'):
  Ae prog 175 #[Y_ bb] H K:=by
 refine Ae.mk (R:=λr H'=>r= .int .i64 (n:Int)/\B_ B H0 H' (pB yO bb (xR (n+1) v sub)::rest)) ?_ λr H' ⟨b,c⟩=>by rw[b];exact k H' c
 refine Aj.of_vc func175 rfl (call175 _) (fa BO (fa Em ?_));refine lT (v:=A_ n) E_ ((a.blk 0 rfl).ce rfl) ?_;(conv=>whnf);rw[Q_ n zO];refine fa BO (fa Em (AZ a 0 E_ rfl (zQ:0<6) rfl λH1 J_=>(fa BO (fa Em ?_))));refine lT (v:=A_ ((n:Int)+1)) E_ ((J_.blk 0 rfl).ce rfl) ?_;(conv=>whnf);rw[U_ (x:=(n:Int)+1-1) zO,show(n:Int)+1-1=(n:Int) by omega];(conv=>whnf);exact⟨rfl,J_⟩
def Wo{p q:Nat}(a:p<=2000000)(b:q<=2000000)(s:Bool)(t:BitVec 256):(t_.mk p q s t).Ok:=⟨BK zO,BK zO⟩
def MT(p q:Nat)(k:K (.agg (zP (AP p q)).toArray)):
  AO prog (Instr.build 174 [(0,A_ p),(1,A_ q),(2,.bool zW)].toArray) S H K:=by have e:zP (AP p q)=[A_ p,A_ q,.bool zW,.int .u64 0,.int .u64 0,.int .u64 0,.int .u64 0]:=by{have h:∀i,wd 0#256 i=0:=λi=>by{unfold wd;simp};simp[zP,AP,h]};rw[e]at k;exact Az underlying174 rfl _ Lq _ zX k
def gW(x y:Int)(w0 a b c:v_)(h0:w0.oneCell'=zW)(d:a.oneCell'=zW)(e:b.oneCell'=zW)(f:c.oneCell'=zW)(k:K (.agg [A_ x,A_ y,.bool zU,w0,a,b,c].toArray)):
  AO prog (Instr.build 174 [(0,A_ x),(1,A_ y),(3,.agg [w0,a,b,c].toArray)].toArray) S H K:=
 Az underlying174 rfl _ Lq [A_ x,A_ y,.bool zU,w0,a,b,c] zX k
def MR(p q:Nat)(s:BitVec 256)(k:K (.agg (zP (Cy p q s)).toArray)):
  AO prog (Instr.build 174 [(0,A_ p),(1,A_ q),(3,.agg (Ah s).toArray)].toArray) S H K:=by unfold Cy zP at k;unfold Ah;exact gW _ _ _ _ _ _ rfl rfl rfl rfl k
variable{es:List t_}
section
variable{rest:List Pc}{sub:v_}{K:v_->Aa->Prop}{a:Option Addr}
def Ix{c p q:Nat}(h:B_ B H0 H (pB yO bb (xR n (.slice a es.length c) sub)::pS C' 174 a es.length c es::rest))(i:p<=2000000)(l:q<=2000000)(E:es.length+1<=4194304)
  (k:∀a' d H',B_ B H0 H' (pB yO bb (xR n (.slice a' (es++[AP p q]).length d) sub)::pS C' 174 a' (es++[AP p q]).length d (es++[AP p q])::rest)->K (.tuple #[]) H'):
  Ae prog 176 #[Y_ bb,A_ p,A_ q] H K:=by
 refine Ae.mk (R:=λr H'=>r= .tuple #[]/\∃a' d,B_ B H0 H' (pB yO bb (xR n (.slice a' (es++[AP p q]).length d) sub)::pS C' 174 a' (es++[AP p q]).length d (es++[AP p q])::rest)) ?_ λr H' ⟨m,a',d,s⟩=>by rw[m];exact k a' d H' s
 refine Aj.of_vc func176 rfl (call176 _) (fa BO (fa En ?_));refine lT (v:=.slice a es.length c) Iy ((h.blk 0 rfl).ce rfl) ?_;refine MT p q (As I6 (zP (AP p q)) rfl rfl zQ zQ ?_);intro y H1 t w e f;have J_:=h.skip t f;refine OA (ys:=[AP p q]) J_ 1 I6 rfl (e.cells (o:=0) (cs:=zP (AP p q)) λj v x=>by rw[K_];exact x) (Ty.reps_one ⟨rfl,Wo i l _ _⟩) rfl (λu z=>zM.1 (HY _) u z) (by simp only[c_,h_];omega) zQ λA C H9 g _=>?_;refine fa BO (fa En (AZ g 0 Iy rfl (zQ:3<6) rfl λH10 b=>?_));(conv=>whnf);have D:es.length+[AP p q].length=(es++[AP p q]).length:=zZ;rw[D]at b;exact⟨rfl,A,C,b⟩
def eP{c:Nat}{s:BitVec 256}(M:B_ B H0 H (pB yO bb (xR n (.slice a es.length c) sub)::pS C' 174 a es.length c es::rest))(X:n<=1000000)(Y:es.length+1<=4194304)
  (k:∀a' g H',B_ B H0 H' (pB yO bb (xR (n+2) (.slice a' (es++[Cy n (n+1) s]).length g) sub)::pS C' 174 a' (es++[Cy n (n+1) s]).length g (es++[Cy n (n+1) s])::rest)->K (.tuple #[A_ n,A_ ((n+1:Nat):Int)]) H'):
  Ae prog 177 #[Y_ bb,BL s] H K:=by
 refine Ae.mk (R:=λr H'=>r= .tuple #[A_ n,A_ ((n+1:Nat):Int)]/\∃a' g,B_ B H0 H' (pB yO bb (xR (n+2) (.slice a' (es++[Cy n (n+1) s]).length g) sub)::pS C' 174 a' (es++[Cy n (n+1) s]).length g (es++[Cy n (n+1) s])::rest)) ?_ λr H' ⟨N,a',g,O⟩=>by rw[N];exact k a' g H' O
 refine Aj.of_vc func177 rfl (call177 _) (Cd (Ah s) rfl ?_);intro x H1 P t w z;have J_:=(M.box P t w z).perm (xA _ _);have A:B_ B H0 H1 (pB yO bb (xR n (.slice a es.length c) sub)::pB 101 x (Ah s)::pS C' 174 a es.length c es::rest):=J_.perm (List.Perm.swap _ _ _);refine Gs A zO λH3 C=>(Gs C zO λH4 b=>?_);have q:=b.apart2 (i:=0) (j:=2) rfl rfl zQ;have l:=b.apart2 (i:=1) (j:=2) rfl rfl zQ;refine Ap.heldZ (λk=>k<H4.size/\¬O_ (.slice a es.length c) k) [15] (sq [0,1,2,3,4,5,6,7,8,9] (.f 10 (.f 11 (sq [12,13,14] (.f 15 .e))))) rfl zX ?_;have D:bb<H4.size/\¬O_ (.slice a es.length c) bb:=⟨(b.in_ 0 rfl rfl).2,λh=>q bb rfl (.inl h)⟩;have E:x<H4.size/\¬O_ (.slice a es.length c) x:=⟨(b.in_ 1 rfl rfl).2,λh=>l x rfl (.inl h)⟩;refine fa BO (fa En ?_);refine D_ (v:=.slice a es.length c) Iy ((b.blk 0 rfl).ce rfl) D ?_;refine L_ (cs:=Ah s) Bh ((b.blk 1 rfl).cells λj v F=>by rw[K_];exact F) E ?_;refine MR n (n+1) s (As I6 (zP (Cy n (n+1) s)) rfl rfl zQ zQ ?_);intro y H5 Q S G m;have I:=b.skip Q m;refine⟨m.mono λk p=>by have:=p.1;omega,?_⟩;refine OA (ys:=[Cy n (n+1) s]) I 2 I6 rfl (G.cells (o:=0) (cs:=zP (Cy n (n+1) s)) λj v F=>by rw[K_];exact F) (Ty.reps_one ⟨rfl,Wo zO zO _ _⟩) rfl (λu T=>zM.1 (HY _) u T) (by simp only[c_,h_];omega) zQ λU V H9 J L=>?_;refine⟨(m.mono λk p=>by have:=p.1;omega).trans (L.mono λk p=>⟨by have:=p.1;omega,p.2⟩),?_⟩;refine fa BO (fa En (AZ J 0 Iy rfl (zQ:3<6) rfl λH10 d=>?_));(conv=>whnf);have W:es.length+[Cy n (n+1) s].length=(es++[Cy n (n+1) s]).length:=zZ;rw[W]at d;exact⟨rfl,U,V,(d.perm (List.Perm.swap _ _ _)).sub (yR _ _)⟩
end
def F4:(prog.info? 98).bind (·.zero)=zY (.agg #[]):=rfl
def EZ:(prog.info? 104).bind (·.zero)=zY (.agg #[.int .u64 0,.int .u64 0,.int .u64 0,.int .u64 0]):=rfl
def Hf:(prog.info? 105).bind (·.zero)=zY (.agg #[.nilIface,.nilIface]):=rfl
def KF:(prog.info? 305).bind (·.zero)=zY (.agg #[.nilIface,.nilIface]):=rfl
def Oj:(prog.info? 310).bind (·.zero)=zY (.agg #[.nilIface]):=rfl
def Ah6{B:Nat->Prop}{H0:Aa}{bb:Nat}{sub:v_}:∀(r:ReM),r.plain=zW->∀{H:Aa} {rest:List Pc} {n:Nat} {a:Option Addr} {c:Nat} {es:List t_} (q:B_ B H0 H (pB yO bb (xR n (.slice a es.length c) sub)::pS C' 174 a es.length c es::rest)),n+Z' r<=1000000->es.length+2*Z' r<=4000000->
  Aj prog 138 #[Y_ bb,An r] H λv H'=>v= .tuple #[A_ ((BY r n).1:Nat),A_ ((BY r n).2.1:Nat)]/\∃a' L,B_ B H0 H' (pB yO bb (xR (n+Z' r) (.slice a' (es++(BY r n).2.2).length L) sub)::pS C' 174 a' (es++(BY r n).2.2).length L (es++(BY r n).2.2)::rest):=λr=>by
 induction r with
 | eps=>
   intro d H rest n a c es q A C;simp only[Z']at A C;refine Aj.of_vc func138 rfl (call138 _) (fa C1 ?_);refine lT (v:=A_ 0) IZ ((q.blk 0 rfl).ce rfl) ?_;refine Eb underlying98 (by intro t h;cases h) ?_;refine Ag (.agg #[]) [] rfl rfl ?_;intro x H1 D i k l;have J_:B_ B H0 H1 (pB 98 x []::pB yO bb (xR n (.slice a es.length c) sub)::pS C' 174 a es.length c es::rest):=(q.box D i k l).perm (xA _ _);refine A9 (cs:=[]) J_ 0 rfl rfl (N_ _) rfl λH2 e=>?_;have m:B_ B H0 H2 (pB yO bb (xR n (.slice a es.length c) sub)::pS C' 174 a es.length c es::rest):=e.sub (yR _ _);refine Gs m zO λH4 f=>(Gs f zO λH5 o=>(Ix o zO zO zO λa' L H6 u=>?_));(conv=>whnf);exact⟨rfl,a',L,u⟩
 | cls s=>
   intro d H rest n a c es q A C;simp only[Z']at A C;refine Aj.of_vc func138 rfl (call138 _) (fa C1 ?_);refine lT (v:=A_ 0) IZ ((q.blk 0 rfl).ce rfl) ?_;refine Cb underlying98 (by intro t h;cases h) F4 zQ ?_;refine Eb underlying104 (by intro t h;cases h) ?_;refine Ag _ [.int .u64 0,.int .u64 0,.int .u64 0,.int .u64 0] EZ rfl ?_;intro x H1 D i k l;have J_:B_ B H0 H1 (pB 104 x [.int .u64 0,.int .u64 0,.int .u64 0,.int .u64 0]::pB yO bb (xR n (.slice a es.length c) sub)::pS C' 174 a es.length c es::rest):=(q.box D i k l).perm (xA _ _);refine A9 (cs:=Ah s) J_ 0 rfl rfl (N_ _) rfl λH2 e=>?_;rw[Ai (show(Ah s).length=4 from rfl)]at e;refine fa Ws (L_ (cs:=Ah s) Bh ((e.blk 0 rfl).cells λj v V=>by simpa using V) zA ?_);have m:B_ B H0 H2 (pB yO bb (xR n (.slice a es.length c) sub)::pS C' 174 a es.length c es::rest):=e.sub (yR _ _);refine eP m zO zO λa' L H4 f=>?_;(conv=>whnf);exact⟨rfl,a',L,f⟩
 | cat b g w E=>
   intro d H rest n a c es q A C;simp only[ReM.plain,O']at d;simp only[Z']at A C;have P:=Eh b d.1 n;have W:=Eh g d.2 (n+Z' b);have Q:=GY b d.1 n;have X:=GY g d.2 (n+Z' b);refine Aj.of_vc func138 rfl (call138 _) (fa C1 ?_);refine lT (v:=A_ 0) IZ ((q.blk 0 rfl).ce rfl) ?_;refine Cb underlying98 (by intro t h;cases h) F4 zQ ?_;refine Cb underlying104 (by intro t h;cases h) EZ zQ ?_;refine Eb underlying105 (by intro t h;cases h) ?_;refine Ag _ [.nilIface,.nilIface] Hf rfl ?_;intro x H1 D i k l;have J_:B_ B H0 H1 (pB 105 x [.nilIface,.nilIface]::pB yO bb (xR n (.slice a es.length c) sub)::pS C' 174 a es.length c es::rest):=(q.box D i k l).perm (xA _ _);refine A9 (cs:=[An b,An g]) J_ 0 rfl rfl (N_ _) (by simp[E7]) λH2 e=>?_;rw[Ai (show [An b,An g].length=2 from rfl)]at e;refine fa R3 ?_;refine lT (v:=An b) Ej ((e.blk 0 rfl).ce rfl) ?_;have m:B_ B H0 H2 (pB yO bb (xR n (.slice a es.length c) sub)::pS C' 174 a es.length c es::pB 105 x [An b,An g]::rest):=e.pickN 3 [1,2,0] zQ;refine Ae.mk (w d.1 m zO zO) ?_;rintro _ H4 ⟨rfl,a4,c4,f⟩;refine fa NQ ?_;refine lT (v:=An g) Ej ((f.blk 2 rfl).ce rfl) ?_;refine Ae.mk (E d.2 f zO (by rw[M_];omega)) ?_;rintro _ H5 ⟨rfl,R,S,o⟩;refine Ix o zO zO (by rw[M_,M_];omega) λT U H6 u=>?_;(conv=>whnf);have M:es++(BY b n).2.2++(BY g (n+Z' b)).2.2++[AP (BY b n).2.1 (BY g (n+Z' b)).1]=es++(BY (.cat b g) n).2.2:=by simp[BY]
   rw[M,Nat.add_assoc]at u;exact⟨rfl,T,U,u.pickN 3 [0,1] zQ⟩
 | alt b g w E=>
   intro d H rest n a c es q A C;simp only[ReM.plain,O']at d;simp only[Z']at A C;have P:=Eh b d.1 (n+1);have W:=Eh g d.2 (n+1+Z' b);have Q:=GY b d.1 (n+1);have X:=GY g d.2 (n+1+Z' b);refine Aj.of_vc func138 rfl (call138 _) (fa C1 ?_);refine lT (v:=A_ 0) IZ ((q.blk 0 rfl).ce rfl) ?_;refine Cb underlying98 (by intro t h;cases h) F4 zQ ?_;refine Cb underlying104 (by intro t h;cases h) EZ zQ ?_;refine Cb underlying105 (by intro t h;cases h) Hf zQ ?_;refine Eb underlying305 (by intro t h;cases h) ?_;refine Ag _ [.nilIface,.nilIface] KF rfl ?_;intro x H1 D i k l;have J_:B_ B H0 H1 (pB 305 x [.nilIface,.nilIface]::pB yO bb (xR n (.slice a es.length c) sub)::pS C' 174 a es.length c es::rest):=(q.box D i k l).perm (xA _ _);refine A9 (cs:=[An b,An g]) J_ 0 rfl rfl (N_ _) (by simp[E7]) λH2 e=>?_;rw[Ai (show [An b,An g].length=2 from rfl)]at e;have m:B_ B H0 H2 (pB yO bb (xR n (.slice a es.length c) sub)::pS C' 174 a es.length c es::pB 305 x [An b,An g]::rest):=e.pickN 3 [1,2,0] zQ;refine Gs m zO λH4 f=>(fa RC ?_);refine lT (v:=An b) Ej ((f.blk 2 rfl).ce rfl) ?_;refine Ae.mk (w d.1 f zO zO) ?_;rintro _ H5 ⟨rfl,R,S,o⟩;refine fa Oc ?_;refine lT (v:=An g) Ej ((o.blk 2 rfl).ce rfl) ?_;refine Ae.mk (E d.2 o zO (by rw[M_];omega)) ?_;rintro _ H6 ⟨rfl,T,U,u⟩;refine Gs u zO λH7 F=>?_;refine Ix F zO zO (by simp only[M_];omega) λY Z H8 G=>?_;refine Ix G zO zO (by simp only[M_,c_,h_];omega) λa9 c9 H9 I=>?_;refine Ix I zO zO (by simp only[M_,c_,h_];omega) λN O H10 y=>?_;refine Ix y zO zO (by simp only[M_,c_,h_];omega) λJ K H11 p=>?_;(conv=>whnf);have M:es++(BY b (n+1)).2.2++(BY g (n+1+Z' b)).2.2++[AP n (BY b (n+1)).1]++[AP n (BY g (n+1+Z' b)).1]++[AP (BY b (n+1)).2.1 (n+1+Z' b+Z' g)]++[AP (BY g (n+1+Z' b)).2.1 (n+1+Z' b+Z' g)]=es++(BY (.alt b g) n).2.2:=by simp[BY]
   rw[M,show n+1+Z' b+Z' g+1=n+Z' (.alt b g) by simp only[Z'];omega]at p;exact⟨rfl,J,K,p.pickN 3 [0,1] zQ⟩
 | star b w=>
   intro d H rest n a c es q A C;have z:b.plain=zW:=d;simp only[Z']at A C;have P:=Eh b z (n+1);have Q:=GY b z (n+1);refine Aj.of_vc func138 rfl (call138 _) (fa C1 ?_);refine lT (v:=A_ 0) IZ ((q.blk 0 rfl).ce rfl) ?_;refine Cb underlying98 (by intro t h;cases h) F4 zQ ?_;refine Cb underlying104 (by intro t h;cases h) EZ zQ ?_;refine Cb underlying105 (by intro t h;cases h) Hf zQ ?_;refine Cb underlying305 (by intro t h;cases h) KF zQ ?_;refine Eb underlying310 (by intro t h;cases h) ?_;refine Ag _ [.nilIface] Oj rfl ?_;intro x H1 D i k l;have J_:B_ B H0 H1 (pB 310 x [.nilIface]::pB yO bb (xR n (.slice a es.length c) sub)::pS C' 174 a es.length c es::rest):=(q.box D i k l).perm (xA _ _);refine A9 (cs:=[An b]) J_ 0 rfl rfl (N_ _) (by simp[E7]) λH2 e=>?_;rw[Ai (show [An b].length=1 from rfl)]at e;have m:B_ B H0 H2 (pB yO bb (xR n (.slice a es.length c) sub)::pS C' 174 a es.length c es::pB 310 x [An b]::rest):=e.pickN 3 [1,2,0] zQ;refine Gs m zO λH4 f=>(fa RD ?_);refine lT (v:=An b) Ej ((f.blk 2 rfl).ce rfl) ?_;refine Ae.mk (w z f zO zO) ?_;rintro _ H5 ⟨rfl,R,S,o⟩;refine Gs o zO λH7 F=>?_;refine Ix F zO zO (by simp only[M_];omega) λY Z H8 G=>?_;refine Ix G zO zO (by simp only[M_,c_,h_];omega) λa9 c9 H9 I=>?_;refine Ix I zO zO (by simp only[M_,c_,h_];omega) λN O H10 y=>?_;refine Ix y zO zO (by simp only[M_,c_,h_];omega) λJ K H11 p=>?_;(conv=>whnf);have M:es++(BY b (n+1)).2.2++[AP n (BY b (n+1)).1]++[AP n (n+1+Z' b)]++[AP (BY b (n+1)).2.1 (BY b (n+1)).1]++[AP (BY b (n+1)).2.1 (n+1+Z' b)]=es++(BY (.star b) n).2.2:=by simp[BY]
   rw[M,show n+1+Z' b+1=n+Z' (.star b) by simp only[Z'];omega]at p;exact⟨rfl,J,K,p.pickN 3 [0,1] zQ⟩
 | and_=>intro h;cases h
 | minus=>intro h;cases h
def Ux(all:List Oper)(o:Oper)(fr:Fr)(yes no:Fr->Prop):Prop:=
 match o.guard with
 | none=>yes fr
 | some (j,want)=>match(all[j]?).bind (·.dst)with
   | none=>False
   | some t=>yL fr t λv=>match v with
     | .bool b=>AD b
       (xN fr t (.bool zW) λfr1=>match want with
        | true=>yes fr1
        | false=>no fr1)
       (xN fr t (.bool zU) λfr1=>match want with
        | false=>yes fr1
        | true=>no fr1)
     | .tuple _=>no fr
     | _=>False
def N6{all:List Oper}{o:Oper}{fr:Fr}{a:Act}{d no:Fr->Prop}(e:At fr a)(h:Ux all o fr d no):
  (Region.wanted o (yielded all.toArray a.tmps)=zW/\d fr)\/(Region.wanted o (yielded all.toArray a.tmps)=zU/\no fr):=by unfold Ux at h;split at h;{rename_i c;exact .inl ⟨by simp[Region.wanted,c],h⟩};{rename_i j f c;split at h;{exact h.elim};{rename_i t k;rw[EM]at h;split at h;{rename_i b g;have i:=J6 e k g;have hs:fr.set t (.bool b)=fr:=Fm g (by simp[undef]);cases b<;>cases f<;>simp only[AD,GR,hs]at h;{exact .inl ⟨by simp[Region.wanted,c,i],h⟩};{exact .inr ⟨by simp[Region.wanted,c,i],h⟩};{exact .inr ⟨by simp[Region.wanted,c,i],h⟩};{exact .inl ⟨by simp[Region.wanted,c,i],h⟩}};{rename_i vs g;exact .inr ⟨by simp[Region.wanted,c,J7 e k g],h⟩};{exact h.elim}}}
def Uk(o:Oper)(H:Aa)(K:Fr->Aa->Prop)(fr:Fr):Prop:=D1 o.dst fr undef λfr'=>wC K fr' H
def V1(P:w_)(S:Nat->Prop)(o:Oper)(H:Aa)(K:Fr->Aa->Prop)(fr:Fr):Prop:=
 match No o&&HX P o with
 | true=>PW P S o fr H λv=>D1 o.dst fr v λfr'=>wC K fr' H
 | false=>False
def gC(P:w_)(S:Nat->Prop)(z:Bool)(H0:Aa)(o:Oper)(H:Aa)(K:Fr->Aa->Prop)(fr:Fr):Prop:=
 match z with
 | true=>wV P zU (λ_=>True) o fr H λv H'=>D1 o.dst fr v λfr'=>wC K fr' H'
 | false=>wV P zU (λ_=>True) o fr H λv H'=>C_ S H0 H'/\D1 o.dst fr v λfr'=>wC K fr' H'
def N4(P:w_)(S:Nat->Prop)(Z:List Nat)(H0:Aa)(all:List Oper)(i:Nat)(fr:Fr)(H:Aa)(next:Fr->Aa->Prop):Prop:=
 match all[i]? with
 | none=>False
 | some o=>Ux all o fr (gC P S (Z.contains i) H0 o H next) (Uk o H next)
def Fq{w0:y_}{all:List Oper}{Q:Exit->Act->y_->Prop}{fr:Fr}{a:Act}{w:y_}{next:Fr->Aa->Prop}{N:Act->y_->Prop}
  (d:At fr a) (m:p_ w0 w) (n:Z.contains i=zU->xX w0 S w) (h:N4 P S Z w0.heap all i fr w.heap next)
  (p:∀f a' e,At f a'->p_ w0 e->(Z.contains i=zU->xX w0 S e)->next f e.heap->N a' e):wpOp P all.toArray Q i N a w:=by unfold N4 at h;split at h;{exact h.elim};{rename_i o q;have g:all.toArray[i]?=zY o:=by{simpa using q};rcases N6 d h with⟨b,h⟩ | ⟨b,h⟩;{unfold wpOp;rw[g];dsimp only;rw[I_ b];unfold gC at h;split at h;{rename_i r;refine .inl (Oper.wp_mono ?_ (DT d h _));rintro a' e ⟨v,rfl,c,j⟩;rw[CH]at j;exact p _ _ _ (d.put o.dst v) (m.trans c) (λk=>by rw[r]at k;cases k) j};{refine .inl (Oper.wp_mono ?_ (DT d h _));rintro a' e ⟨v,rfl,c,l,j⟩;rw[CH]at j;exact p _ _ _ (d.put o.dst v) (m.trans c) (λ_=>⟨m.trans c,l⟩) j}};{unfold wpOp;rw[g];dsimp only;rw[G_ (by rw[b];exact Bool.false_ne_true)];unfold Uk at h;rw[CH]at h;exact p _ _ _ (d.put o.dst undef) m n h}}
def lM(a:P_)(q:Int)(e:t_):Bool:=a.has e.fr&&a.has e.to&&zT (e.fr=q)
def outE(a:P_)(q:Int):List t_:=a.edges.filter (lM a q)
structure FromV(B:Nat->Prop)(H0:Aa)(mb:Nat)(a:P_):Prop where
 ex:∃m,LH O9 kI H0 mb m/\∀q,∃ad cap,Ae9 m q= .slice ad (outE a q).length cap/\b_ C' B H0 ad cap (outE a q)
 at_:B mb
structure StlR(a:P_)(X:PS)(q:Int)(Y:PS):Prop where
 sub:∀p,X p->Y p
 own:Y q
 new:∀p,Y p->X p\/Yw a q p
 shut:∀p,Y p->¬X p->∀e∈a.edges,e.sil=zW->e.fr=p->a.has e.to=zW->Y e.to
open Classical in
noncomputable def mss(X:PS):Nat:=(Da λp=>¬X p).length
def Z0{p q:Int->Bool}:∀(l:List Int),(∀x,p x=zW->q x=zW)->(l.filter p).length<=(l.filter q).length
 | [],_=>N_ _
 | x::l,h=>by
   have c:=Z0 l h;cases a:p x with
   | true=>rw[vC a,vC (h x a),c_,c_];omega
   | false=>
     rw[vU (by rw[a];decide)];cases b:q x with
     | true=>rw[vC b,c_];omega
     | false=>rw[vU (by rw[b];decide)];exact c
def Z2{p q:Int->Bool}{y:Int}:∀(l:List Int),(∀x,p x=zW->q x=zW)->y∈l->p y=zU->q y=zW->(l.filter p).length<(l.filter q).length
 | [],_,hy,_,_=>by cases hy
 | x::l,h,hy,h1,h2=>by
   have le:=Z0 l h;by_cases a:x=y
   ·subst a;rw[vU (by rw[h1];decide),vC h2,c_];omega
   ·have b:y∈l:=by
     rcases xU.1 hy with e | e
     ·exact absurd e.symm a
     ·exact e
    have f:=Z2 l h b h1 h2;cases c:p x with
    | true=>rw[vC c,vC (h x c),c_,c_];omega
    | false=>
      rw[vU (by rw[c];decide)];cases d:q x with
      | true=>rw[vC d,c_];omega
      | false=>rw[vU (by rw[d];decide)];exact f
def Ah0{X Y:PS}(h:∀p,X p->Y p)(h0:0<=q)(d:q<65536)(a:¬X q)(c:Y q):mss Y<mss X:=by unfold mss Da;refine Z2 (y:=q) _ (λp b=>?_) (List.mem_map.2 ⟨q.toNat,yG.2 zO,zO⟩) ?_ ?_;{simp only[yD]at b ⊢;exact λa=>b (h p a)};{simp[c]};{simp[a]}
def GZ{a:Int->Option v_}(p:Int):Dom (put a q (zY v)) p↔Dom a p\/p=q:=by unfold Dom;by_cases h:p=q;{subst h;rw[Kj];simp};{rw[ML h];simp[h]}
structure GthR(a:P_)(L out:List Int):Prop where
 nd:out.Nodup
 sub:∀q∈L,q∈out
 cl:∀q∈out,clS a (·∈L) q
def Q5:ReM->x_
 | .eps=>98
 | .cls _=>104
 | .cat _ _=>105
 | .alt _ _=>305
 | .star _=>310
 | .and_ _ _=>64
 | .minus _ _=>65
def EW:ReM->v_
 | .eps=>.agg #[]
 | .cls s=>BL s
 | .cat a b=>.agg #[An a,An b]
 | .alt a b=>.agg #[An a,An b]
 | .star a=>.agg #[An a]
 | .and_ a b=>.agg #[An a,An b]
 | .minus a b=>.agg #[An a,An b]
def F1(r:ReM):An r= .iface (Q5 r) (EW r):=by cases r<;>rfl
def HM:ReM->FuncId
 | .eps=>271
 | .cls _=>273
 | .cat _ _=>275
 | .alt _ _=>278
 | .star _=>280
 | .and_ _ _=>266
 | .minus _ _=>269
def FZ(r:ReM)(w:y_):(callMethod (.iface (Q5 r) (EW r)) "Size" #[]).run prog w= .ok (.enter (HM r) #[EW r]) w:=by cases r with|eps=>exact Vq _ w|cls=>exact Vp _ w|cat=>exact Vo _ w|alt=>exact Vm _ w|star=>exact TF _ w|and_=>exact Vn _ w|minus=>exact RP _ w
def Ju(r:ReM)(H:Aa):BZ prog 267 #[An r] H (.iface (Q5 r) (EW r)):=by rw[F1];refine Aj.of_vc func267 rfl (call267 _) (qP underlying28 ?_);(conv=>whnf);exact⟨rfl,C_.refl _ _⟩
def Sq:∀(r:ReM),r.nodes<=1000000000->∀(H:Aa),BZ prog (HM r) #[EW r] H (.int .i64 (r.nodes:Int)):=λr=>by
 induction r with
 | eps=>
   intro y H;refine Aj.of_vc func271 rfl (call271 _) (Cd [] rfl ?_);intro x H1 w l c m;have J_:=(St.nil H).box w l c m;(conv=>whnf);exact⟨rfl,J_.old⟩
 | cls s=>
   intro y H;refine Aj.of_vc func273 rfl (call273 _) (Cd (Ah s) rfl ?_);intro x H1 w l c m;have J_:=(St.nil H).box w l c m;(conv=>whnf);exact⟨rfl,J_.old⟩
 | cat a b o q=>
   intro y H;simp only[ReM.nodes]at y;refine Aj.of_vc func275 rfl (call275 _) (Cd [An a,An b] rfl ?_);intro x H1 w l c m;have J_:=(St.nil H).box w l c m;have n:=c.lt;refine Ap.heldZ (H_ H1) [] (sq [0,1,5,6] (.f 2 (.f 3 (sq [4] (.f 7 (.f 8 (sq [9] (.f 10 .e)))))))) rfl zX (fa R3 ?_);refine D_ (v:=An a) Ej (by rw[c.cell];rfl) n ?_;refine fa NQ ?_;refine D_ (v:=An b) Ej (by rw[c.cell];rfl) n ?_;refine Al (Ju a H1) λH2 d=>(⟨d,?_⟩);refine JB.mk (HM a) #[EW a] (FZ a) (o zO H2) ?_;rintro _ H3 ⟨rfl,p⟩;have g:=d.trans (p.mono λk h=>Af d h);refine⟨g,?_⟩;(conv=>whnf);rw[U_ (x:=1+(a.nodes:Int)) zO];refine Al (Ju b H3) λH4 t=>?_;have i:=g.trans (t.mono λk h=>Af g h);refine⟨i,?_⟩;refine JB.mk (HM b) #[EW b] (FZ b) (q zO H4) ?_;rintro _ H5 ⟨rfl,u⟩;have j:=i.trans (u.mono λk h=>Af i h);refine⟨j,?_⟩;(conv=>whnf);rw[U_ (x:=1+(a.nodes:Int)+(b.nodes:Int)) zO];refine⟨j,?_⟩;(conv=>whnf);exact⟨by simp only[ReM.nodes];simp,J_.old.trans (j.mono λk h=>J_.up h)⟩
 | alt a b o q=>
   intro y H;simp only[ReM.nodes]at y;refine Aj.of_vc func278 rfl (call278 _) (Cd [An a,An b] rfl ?_);intro x H1 w l c m;have J_:=(St.nil H).box w l c m;have n:=c.lt;refine Ap.heldZ (H_ H1) [] (sq [0,1,5,6] (.f 2 (.f 3 (sq [4] (.f 7 (.f 8 (sq [9] (.f 10 .e)))))))) rfl zX (fa RC ?_);refine D_ (v:=An a) Ej (by rw[c.cell];rfl) n ?_;refine fa Oc ?_;refine D_ (v:=An b) Ej (by rw[c.cell];rfl) n ?_;refine Al (Ju a H1) λH2 d=>(⟨d,?_⟩);refine JB.mk (HM a) #[EW a] (FZ a) (o zO H2) ?_;rintro _ H3 ⟨rfl,p⟩;have g:=d.trans (p.mono λk h=>Af d h);refine⟨g,?_⟩;(conv=>whnf);rw[U_ (x:=1+(a.nodes:Int)) zO];refine Al (Ju b H3) λH4 t=>?_;have i:=g.trans (t.mono λk h=>Af g h);refine⟨i,?_⟩;refine JB.mk (HM b) #[EW b] (FZ b) (q zO H4) ?_;rintro _ H5 ⟨rfl,u⟩;have j:=i.trans (u.mono λk h=>Af i h);refine⟨j,?_⟩;(conv=>whnf);rw[U_ (x:=1+(a.nodes:Int)+(b.nodes:Int)) zO];refine⟨j,?_⟩;(conv=>whnf);exact⟨by simp only[ReM.nodes];simp,J_.old.trans (j.mono λk h=>J_.up h)⟩
 | star a o=>
   intro y H;simp only[ReM.nodes]at y;refine Aj.of_vc func280 rfl (call280 _) (Cd [An a] rfl ?_);intro x H1 w l c m;have J_:=(St.nil H).box w l c m;refine fa RD ?_;refine D_ (v:=An a) Ej (by rw[c.cell];rfl) zA ?_;refine Al (Ju a H1) λH2 d=>?_;have z:=J_.call d;refine JB.mk (HM a) #[EW a] (FZ a) (o zO H2) ?_;rintro _ H3 ⟨rfl,p⟩;have A:=z.call p;(conv=>whnf);rw[U_ (x:=1+(a.nodes:Int)) zO];(conv=>whnf);exact⟨by simp only[ReM.nodes];simp,A.old⟩
 | and_ a b o q=>
   intro y H;simp only[ReM.nodes]at y;refine Aj.of_vc func266 rfl (call266 _) (Cd [An a,An b] rfl ?_);intro x H1 w l c m;have J_:=(St.nil H).box w l c m;have n:=c.lt;refine Ap.heldZ (H_ H1) [] (sq [0,1,5,6] (.f 2 (.f 3 (sq [4] (.f 7 (.f 8 (sq [9] (.f 10 .e)))))))) rfl zX (fa Zw ?_);refine D_ (v:=An a) Ej (by rw[c.cell];rfl) n ?_;refine fa Zx ?_;refine D_ (v:=An b) Ej (by rw[c.cell];rfl) n ?_;refine Al (Ju a H1) λH2 d=>(⟨d,?_⟩);refine JB.mk (HM a) #[EW a] (FZ a) (o zO H2) ?_;rintro _ H3 ⟨rfl,p⟩;have g:=d.trans (p.mono λk h=>Af d h);refine⟨g,?_⟩;(conv=>whnf);rw[U_ (x:=1+(a.nodes:Int)) zO];refine Al (Ju b H3) λH4 t=>?_;have i:=g.trans (t.mono λk h=>Af g h);refine⟨i,?_⟩;refine JB.mk (HM b) #[EW b] (FZ b) (q zO H4) ?_;rintro _ H5 ⟨rfl,u⟩;have j:=i.trans (u.mono λk h=>Af i h);refine⟨j,?_⟩;(conv=>whnf);rw[U_ (x:=1+(a.nodes:Int)+(b.nodes:Int)) zO];refine⟨j,?_⟩;(conv=>whnf);exact⟨by simp only[ReM.nodes];simp,J_.old.trans (j.mono λk h=>J_.up h)⟩
 | minus a b o q=>
   intro y H;simp only[ReM.nodes]at y;refine Aj.of_vc func269 rfl (call269 _) (Cd [An a,An b] rfl ?_);intro x H1 w l c m;have J_:=(St.nil H).box w l c m;have n:=c.lt;refine Ap.heldZ (H_ H1) [] (sq [0,1,5,6] (.f 2 (.f 3 (sq [4] (.f 7 (.f 8 (sq [9] (.f 10 .e)))))))) rfl zX (fa Zy ?_);refine D_ (v:=An a) Ej (by rw[c.cell];rfl) n ?_;refine fa Zz ?_;refine D_ (v:=An b) Ej (by rw[c.cell];rfl) n ?_;refine Al (Ju a H1) λH2 d=>(⟨d,?_⟩);refine JB.mk (HM a) #[EW a] (FZ a) (o zO H2) ?_;rintro _ H3 ⟨rfl,p⟩;have g:=d.trans (p.mono λk h=>Af d h);refine⟨g,?_⟩;(conv=>whnf);rw[U_ (x:=1+(a.nodes:Int)) zO];refine Al (Ju b H3) λH4 t=>?_;have i:=g.trans (t.mono λk h=>Af g h);refine⟨i,?_⟩;refine JB.mk (HM b) #[EW b] (FZ b) (q zO H4) ?_;rintro _ H5 ⟨rfl,u⟩;have j:=i.trans (u.mono λk h=>Af i h);refine⟨j,?_⟩;(conv=>whnf);rw[U_ (x:=1+(a.nodes:Int)+(b.nodes:Int)) zO];refine⟨j,?_⟩;(conv=>whnf);exact⟨by simp only[ReM.nodes];simp,J_.old.trans (j.mono λk h=>J_.up h)⟩
def Gc:∀r:ReM,Z' r<=2*r.nodes
 | .eps=>by simp[Z',ReM.nodes]
 | .cls _=>by simp[Z',ReM.nodes]
 | .cat a b=>by have:=Gc a;have:=Gc b;simp only[Z',ReM.nodes];omega
 | .alt a b=>by have:=Gc a;have:=Gc b;simp only[Z',ReM.nodes];omega
 | .star a=>by have:=Gc a;simp only[Z',ReM.nodes];omega
 | .and_ a b=>by simp[Z']
 | .minus a b=>by simp[Z']
def Bx(r:ReM):P_:=⟨(Z' r:Int),((BY r 0).1:Int),((BY r 0).2.1:Int),(BY r 0).2.2⟩
def AhX:v_:=.agg #[A_ 0,A_ 0,A_ 0,.slice zV 0 0]
def nR(H H':Aa)(r:ReM)(v:v_):Prop:=C_ (H_ H) H H'/\if 2000<r.nodes then v= .tuple #[AhX,A_ 24]else
 ∃ea ec,v= .tuple #[.agg (n_ (Bx r) (.slice ea (Bx r).edges.length ec)).toArray,A_ 0]/\X_ C' none_ H' H.size 174 (.slice ea (Bx r).edges.length ec) (Bx r).edges
def qK:(prog.info? 246).bind (·.zero)=zY (.agg #[A_ 0,A_ 0,A_ 0,.slice zV 0 0,.nilFunc,A_ 0]):=rfl
def I3(b:Nat):BitVec 256:=tS 0#256 [b]
def Bp:List Nat->ReM
 | []=>.eps
 | b::l=>l.foldl (λr c=>.cat r (.cls (I3 c))) (.cls (I3 b))
def PM{l:List Nat}(h:l≠[])(c:Nat):Bp (l++[c])= .cat (Bp l) (.cls (I3 c)):=by cases l with|nil=>exact absurd rfl h|cons b l=>simp[Bp,xP]
def N5(l:List Nat):(Bp l).plain=zW:=by cases l with|nil=>rfl|cons b l=>{unfold Bp;have a:∀(l:List Nat) (r:ReM),r.plain=zW->(l.foldl (λr c=>ReM.cat r (.cls (I3 c))) r).plain=zW:=by{intro l;induction l with|nil=>exact λr h=>h|cons c l d=>exact λr h=>d _ (by simp[ReM.plain,h])};exact a l _ rfl}
def Xb(l:List Nat):v_:=match l with | []=>.nilIface | _=>An (Bp l)
def dD{c:UInt8}(h:s.data[i]?=zY c):yU (s.extract i (i+1))=[c.toNat]:=by have e:=(uS.1 h).1;unfold yU;rw[ByteArray.data_extract,Array.toList_extract,List.extract_eq_take_drop];have:(s.data.toList.drop i).take (i+1-i)=[c]:=by{rw[(zO:i+1-i=1)];have a:s.data.toList[i]?=zY c:=by{rw[iI];exact h};have⟨b,d⟩:=V_.1 a;rw[List.drop_eq_getElem_cons b,d];rfl};rw[this];rfl
def kO(s:ByteArray)(hs:s.size<=1048576)(H:Aa):BZ prog 15 #[.string s] H (An (Bp (yU s))):=by refine Aj.of_vc func15 rfl (call15 _) ?_;have a:=Rs s;by_cases q:s.size=0;{have f:yU s=[]:=vJ zO;have r:s=⟨#[]⟩:=Uu (by{have:s.data.toList=[]:=vJ (by rw[tG];exact q);rw[this]});have t:(s.toList==(⟨#[]⟩:ByteArray).toList)=zW:=by{rw[r];simp};(conv=>whnf);rw[t];refine Az underlying98 rfl _ F4 [] rfl ?_;(conv=>whnf);exact⟨by rw[f];rfl,C_.refl _ _⟩};{have t:(s.toList==(⟨#[]⟩:ByteArray).toList)=zU:=by{cases h:(s.toList==(⟨#[]⟩:ByteArray).toList)with|false=>rfl|true=>rw[bU]at h;rw[h]at q;exact absurd rfl q};(conv=>whnf);rw[t];(conv=>whnf);refine Ay.mk [3,12] (λi:Nat=>[Xb ((yU s).take i),A_ i]) (λi H2=>i<=s.size/\St H H2 []) (λi _=>s.size-i) ?_ ?_;{(conv=>whnf);exact⟨0,rfl,q_ _,St.nil H⟩};{rintro i H2 F ⟨M,g⟩;refine AD.m2 (λI=>?_) (λI=>?_);{have⟨c,G⟩:=nK (s:=s) (k:=i) zO;have u:IntKind.wrap .i64 ((i:Int)+1)=((i+1:Nat):Int):=by{rw[yE zO zO];omega};refine Au.run ?_;(conv=>whnf);rw[u];refine AjZ (l:=(i:Int)) (h:=((i+1:Nat):Int)) underlying9 zO zO zO ?_;rw[zB,zB];refine Al (qU (s.extract i (i+1)) (by simp;omega) H2) λH3 w=>?_;have y:=g.call w;rw[dD G];refine Az underlying104 rfl _ EZ (Ah (I3 c.toNat)) (by unfold Ah;kernel_rfl) ?_;refine Ag _ [.int .u64 0,.int .u64 0,.int .u64 0,.int .u64 0] EZ rfl ?_;intro x H4 J z A B;have C:=y.box J z A B;refine A9 (cs:=Ah (I3 c.toNat)) C 0 rfl rfl (N_ _) rfl λH5 d=>?_;rw[Ai (show(Ah (I3 c.toNat)).length=4 from rfl)]at d;have m:=Ac (Rr G);have n:Bn H5 x 0 (Ah (I3 c.toNat)):=(d.blk 0 rfl).cells λj v K=>by{rw[K_];exact K};by_cases D:i=0;{subst D;refine Aj2 underlying28 (L_ (cs:=Ah (I3 c.toNat)) kU n zA ?_);(conv=>whnf);rw[u];refine⟨rfl,0+1,?_,⟨zO,d.pick [] zQ⟩,zO⟩;rw[m];rfl};{have o:(yU s).take i≠[]:=λe=>by{have h:=congrArg List.length e;rw[wK,a,h_]at h;omega};have E:Xb ((yU s).take i)= .iface (Q5 (Bp ((yU s).take i))) (EW (Bp ((yU s).take i))):=by{rw[<-F1];cases h:(yU s).take i with|nil=>exact absurd h o|cons b l=>rfl};have p:Xb ((yU s).take (i+1))= .iface 105 (.agg #[.iface (Q5 (Bp ((yU s).take i))) (EW (Bp ((yU s).take i))),.iface 104 (BL (I3 c.toNat))]):=by{have:Xb ((yU s).take (i+1))=An (Bp ((yU s).take (i+1))):=by{cases h:(yU s).take (i+1)with|nil=>have L:=congrArg List.length h;rw[wK,a,h_]at L;omega|cons b l=>rfl};rw[this,m,PM o,<-F1];rfl};rw[E];generalize Q5 (Bp ((yU s).take i))=NT at*;generalize EW (Bp ((yU s).take i))=NP at*;refine qP underlying28 (L_ (cs:=Ah (I3 c.toNat)) kU n zA (Az underlying105 rfl _ Hf [.iface NT NP,.iface 104 (BL (I3 c.toNat))] rfl ?_));(conv=>whnf);rw[u];refine⟨rfl,i+1,?_,⟨zO,d.pick [] zQ⟩,zO⟩;rw[p]}};{obtain rfl:i=s.size:=zO;(conv=>whnf);rw[uL (by rw[a];exact N_ _)];refine⟨?_,g.old⟩;cases h:yU s with|nil=>rw[h]at a;simp at a;omega|cons b l=>rfl}}}
structure o_ where
 op:Int
 set:BitVec 256
 l:Int
 r:Int
 m:Int
 n:Int
def BB(op:v_)(bits:List v_)(a b m n:v_):List v_:=[op]++(bits++[a,b,m,n])
def d_(d:o_):List v_:=BB (.int .i64 d.op) (Av d.set) (.int .i64 d.l) (.int .i64 d.r) (.int .i64 d.m) (.int .i64 d.n)
def AA(d:o_):(d_ d).length=261:=by unfold d_ BB;simp[Ax]
def Di(d:o_):(d_ d)[0]?=zY (.int .i64 d.op):=rfl
def GN(d:o_):(d_ d)[257]?=zY (.int .i64 d.l):=by unfold d_ BB;rw[zL zZ,zL (by simp[Ax])];simp[Ax]
def Mn(d:o_):(d_ d)[258]?=zY (.int .i64 d.r):=by unfold d_ BB;rw[zL zZ,zL (by simp[Ax])];simp[Ax]
def V7(d:o_):∀(j:Nat) (v:v_),(Av d.set)[j]?=zY v->(d_ d)[1+j]?=zY v:=by
 intro j v h;have a:j<256:=by have:=(V_.1 h).1;rwa [Ax]at this
 unfold d_ BB;rw[zL zZ,zR (by rw[Ax];simp;omega)];simpa using h
def o_.Ok(d:o_):Prop:=zI .i64 d.op/\zI .i64 d.l/\zI .i64 d.r/\zI .i64 d.m/\zI .i64 d.n
def wE:Ty o_ where
 size:=261
 rep _ _ cs d:=cs=d_ d/\d.Ok
 len h:=by rw[h.1];exact AA _
 frame h _:=h
 mono h _:=h
def Cs(d:o_):(d_ d).all (·.oneCell')=zW:=by unfold d_ BB;rw[sC,sC,Av,FM];rfl
def rnZ:List v_:=BB (.int .i64 0) (Ai5 256 (.bool zU)) (.int .i64 0) (.int .i64 0) (.int .i64 0) (.int .i64 0)
def BJ:rnZ.length=261:=by simp[rnZ,BB]
def Km:(prog.info? 159).bind (·.zero)=zY (.agg rnZ.toArray):=zX
def Hw:Av 0#256=Ai5 256 (.bool zU):=by apply yW;intro i;by_cases a:i<256;{rw[IB _ a,List.getElem?_replicate,I_ a];simp};{rw[zE (by rw[Ax];omega),zE (by simp;omega)]}
def nC{a b n:v_}:Ak (BB op vs a b m n) 0 [v]=BB v vs a b m n:=rfl
def AhA{a b n:v_}(h:vs.length=256)(c:zs.length=256):Ak (BB op vs a b m n) 1 zs=BB op zs a b m n:=by unfold Ak BB;rw[show([op]++(vs++[a,b,m,n])).take 1=[op]from rfl,c,(zO:1+256=256+1),show([op]++(vs++[a,b,m,n])).drop (256+1)=(vs++[a,b,m,n]).drop 256 from rfl,List.drop_left' h,zN]
def qY{a a' b n:v_}(h:vs.length=256):Ak (BB op vs a b m n) 257 [a']=BB op vs a' b m n:=by unfold Ak BB;have c:([op]++(vs++[a,b,m,n])).take 257=[op]++vs:=by{rw[show([op]++(vs++[a,b,m,n])).take (256+1)=op::(vs++[a,b,m,n]).take 256 from rfl,List.take_left' h];rfl};have e2:([op]++(vs++[a,b,m,n])).drop (257+1)=[b,m,n]:=by{rw[show([op]++(vs++[a,b,m,n])).drop (257+1)=(vs++[a,b,m,n]).drop 257 from rfl,show(257:Nat)=vs.length+1 by omega,rD];rfl};rw[c,show 257+[a'].length=257+1 from rfl,e2];simp
def lX{a b b' n:v_}(h:vs.length=256):Ak (BB op vs a b m n) 258 [b']=BB op vs a b' m n:=by unfold Ak BB;have c:([op]++(vs++[a,b,m,n])).take 258=[op]++(vs++[a]):=by{rw[show([op]++(vs++[a,b,m,n])).take (257+1)=op::(vs++[a,b,m,n]).take 257 from rfl,show(257:Nat)=vs.length+1 by omega,List.take_length_add_append];rfl};have e2:([op]++(vs++[a,b,m,n])).drop (258+1)=[m,n]:=by{rw[show([op]++(vs++[a,b,m,n])).drop (258+1)=(vs++[a,b,m,n]).drop 258 from rfl,show(258:Nat)=vs.length+2 by omega,rD];rfl};rw[c,show 258+[b'].length=258+1 from rfl,e2];simp
def Fo{a b n:v_}(h:vs.length=256):(BB op vs a b m n).length=261:=by unfold BB;simp[h]
def MO(x:Int)(s:BitVec 256)(k:K (.agg (d_ ⟨x,s,0,0,0,0⟩).toArray)):
  AO prog (Instr.build 159 [(0,A_ x),(1,.agg (Av s).toArray)].toArray) S H K:=by refine Az underlying159 rfl (.agg rnZ.toArray) Km (d_ ⟨x,s,0,0,0,0⟩) ?_ k;have a:(Ai5 256 (Value.bool zU)).length=256:=uT;refine(Cu (i:=0) (off:=0) (size:=1) zX rfl (by show _<=rnZ.toArray.size;rw[uA,BJ];decide)).trans ?_;have c:Ak (Value.agg rnZ.toArray).cells.toList 0 (Value.int .i64 x).cells.toList=BB (.int .i64 x) (Ai5 256 (.bool zU)) (.int .i64 0) (.int .i64 0) (.int .i64 0) (.int .i64 0):=nC;rw[c];have b:(Value.agg (Av s).toArray).cells=(Av s).toArray:=rfl;refine(Cu (i:=1) (off:=1) (size:=256) zX (by rw[b,uA,Ax]) (by rw[uA,Fo a];decide)).trans ?_;rw[b,vL,vL,AhA a (Ax s)];rfl
def QH(x y z:Int)(k:K (.agg (d_ ⟨x,0#256,y,z,0,0⟩).toArray)):
  AO prog (Instr.build 159 [(0,A_ x),(2,A_ y),(3,A_ z)].toArray) S H K:=by refine Az underlying159 rfl (.agg rnZ.toArray) Km (d_ ⟨x,0#256,y,z,0,0⟩) ?_ k;have a:(Ai5 256 (Value.bool zU)).length=256:=uT;refine(Cu (i:=0) (off:=0) (size:=1) zX rfl (by show _<=rnZ.toArray.size;rw[uA,BJ];decide)).trans ?_;have b:Ak (Value.agg rnZ.toArray).cells.toList 0 (Value.int .i64 x).cells.toList=BB (.int .i64 x) (Ai5 256 (.bool zU)) (.int .i64 0) (.int .i64 0) (.int .i64 0) (.int .i64 0):=nC;rw[b];refine(Cu (i:=2) (off:=257) (size:=1) zX rfl (by rw[uA,Fo a];decide)).trans ?_;rw[vL,show(Value.int IntKind.i64 y).cells.toList=[Value.int .i64 y]from rfl,qY a];refine(Cu (i:=3) (off:=258) (size:=1) zX rfl (by rw[uA,Fo a];decide)).trans ?_;rw[vL,show(Value.int IntKind.i64 z).cells.toList=[Value.int .i64 z]from rfl,lX a];unfold d_;rw[show(o_.mk x 0#256 y z 0 0).set=0#256 from rfl,Hw];rfl
def Bj(ns:List o_):ReM->Nat->Prop
 | .eps,i=>∃d,ns[i]?=zY d/\d.op=0
 | .cls s,i=>∃d,ns[i]?=zY d/\d.op=1/\d.set=s
 | .cat a b,i=>∃d j k:_,ns[i]?=zY d/\d.op=2/\d.l=((j:Nat):Int)/\d.r=((k:Nat):Int)/\Bj ns a j/\Bj ns b k
 | .alt a b,i=>∃d j k:_,ns[i]?=zY d/\d.op=3/\d.l=((j:Nat):Int)/\d.r=((k:Nat):Int)/\Bj ns a j/\Bj ns b k
 | .star a,i=>∃d j:_,ns[i]?=zY d/\d.op=4/\d.l=((j:Nat):Int)/\Bj ns a j
 | .and_ a b,i=>∃d j k:_,ns[i]?=zY d/\d.op=5/\d.l=((j:Nat):Int)/\d.r=((k:Nat):Int)/\Bj ns a j/\Bj ns b k
 | .minus a b,i=>∃d j k:_,ns[i]?=zY d/\d.op=6/\d.l=((j:Nat):Int)/\d.r=((k:Nat):Int)/\Bj ns a j/\Bj ns b k
def lJ:ReM->Int
 | .eps=>0
 | .cls _=>1
 | .cat _ _=>2
 | .alt _ _=>3
 | .star _=>4
 | .and_ _ _=>5
 | .minus _ _=>6
def II{α:Type}{l m:List α}{x:α}(h:l[i]?=zY x):(l++m)[i]?=zY x:=by rw[zR (V_.1 h).1];exact h
variable{ns:List o_}
def Bj.more{c:List o_}:∀{r:ReM} {i:Nat},Bj ns r i->Bj (ns++c) r i
 | .eps,_,⟨d,h1,h2⟩=>⟨d,II h1,h2⟩
 | .cls _,_,⟨d,h1,h2⟩=>⟨d,II h1,h2⟩
 | .cat a b,_,⟨d,j,k,h1,h2,h3,h4,h5,h6⟩=>⟨d,j,k,II h1,h2,h3,h4,h5.more,h6.more⟩
 | .alt a b,_,⟨d,j,k,h1,h2,h3,h4,h5,h6⟩=>⟨d,j,k,II h1,h2,h3,h4,h5.more,h6.more⟩
 | .star a,_,⟨d,j,h1,h2,h3,h5⟩=>⟨d,j,II h1,h2,h3,h5.more⟩
 | .and_ a b,_,⟨d,j,k,h1,h2,h3,h4,h5,h6⟩=>⟨d,j,k,II h1,h2,h3,h4,h5.more,h6.more⟩
 | .minus a b,_,⟨d,j,k,h1,h2,h3,h4,h5,h6⟩=>⟨d,j,k,II h1,h2,h3,h4,h5.more,h6.more⟩
def zJ(v:v_)(AE:Int):List v_:=[v,A_ AE]
def ReV(S:Nat->Prop)(H:Aa)(v:v_)(ns:List o_)(AE:Int):Prop:=ns.length<=4194304/\∃na nc,v= .agg (zJ (.slice na ns.length nc) AE).toArray/\b_ wE S H na nc ns
def ReV.frame{H':Aa}{AE:Int}(h:ReV S H v ns AE)(k:C_ S H H'):ReV S H' v ns AE:=by have⟨a,na,nc,b,c⟩:=h;exact⟨a,na,nc,b,c.frame k⟩
def ReV.mono{S':Nat->Prop}{AE:Int}(h:ReV S H v ns AE)(k:∀i,S i->S' i):ReV S' H v ns AE:=by have⟨a,na,nc,b,c⟩:=h;exact⟨a,na,nc,b,c.mono k⟩
def D5{AE:Int}{pb:Nat}{na:Option Addr}{nc:Nat}(b:ns.length<=4194304)(c:R_ H pb t (zJ (.slice na ns.length nc) AE))(a:GG prog t 2)(d:B pb)(e:b_ wE S H na nc ns)
  (k:∀v,ReV S H v ns AE->K v):AO prog (Instr.loadAt t (Y_ pb)) B H K:=
 L_ (cs:=zJ (.slice na ns.length nc) AE) a (c.cells λj v f=>by rw[K_];exact f) d (k _ ⟨b,na,nc,rfl,e⟩)
def bF:∀(r:ReM),r.nodes<=1000000000->∀{S:Nat->Prop} {H:Aa} {v:v_} {ns:List o_} {AE:Int} {i:Nat},(∀k,S k->k<H.size)->ReV S H v ns AE->Bj ns r i->
  BZ prog 125 #[v,A_ i] H (.int .i64 (r.nodes:Int)):=λr=>by
 induction r with
 | eps=>
   intro V S H v ns AE i B J K;have⟨d,L,m⟩:=K;obtain⟨U,na,nc,rfl,F⟩:=J;refine Aj.of_vc func125 rfl (call125 _) (Cd (zJ (.slice na ns.length nc) AE) rfl ?_);intro p H1 M n o q;have J_:=(St.nil H).box M n o q;refine fa EI ?_;refine lT (v:=.slice na ns.length nc) Ee ((J_.blk 0 rfl).ce rfl) ?_;refine Y' (i:=i) EO (F.frame (J_.old.mono B)) L rfl ?_;rintro X Y Z N t ⟨rfl,O⟩;refine L_ (cs:=d_ d) (by rw[AA];exact Hu) t zA ?_;refine Ag _ rnZ Km rfl ?_;intro x H3 P u w y;have z:=J_.box P u w y;refine A9 (cs:=d_ d) z 1 (by rw[AA];rfl) rfl (by rw[AA,BJ];decide) (Cs d) λH4 c=>?_;rw[Ai (show(d_ d).length=rnZ.length by rw[AA,BJ])]at c;have g:=c.blk 1 rfl;have h:=c.blk 0 rfl;have D:=g.lt;have E:=h.lt;refine fa BM ?_;refine D_ (v:=A_ d.op) E_ (by rw[g.cell];exact Di d) zA ?_;(conv=>whnf);rw[m];(conv=>whnf);exact⟨rfl,c.old⟩
 | cls s=>
   intro V S H v ns AE i B J K;have⟨d,L,m,a4⟩:=K;obtain⟨U,na,nc,rfl,F⟩:=J;refine Aj.of_vc func125 rfl (call125 _) (Cd (zJ (.slice na ns.length nc) AE) rfl ?_);intro p H1 M n o q;have J_:=(St.nil H).box M n o q;refine fa EI ?_;refine lT (v:=.slice na ns.length nc) Ee ((J_.blk 0 rfl).ce rfl) ?_;refine Y' (i:=i) EO (F.frame (J_.old.mono B)) L rfl ?_;rintro X Y Z N t ⟨rfl,O⟩;refine L_ (cs:=d_ d) (by rw[AA];exact Hu) t zA ?_;refine Ag _ rnZ Km rfl ?_;intro x H3 P u w y;have z:=J_.box P u w y;refine A9 (cs:=d_ d) z 1 (by rw[AA];rfl) rfl (by rw[AA,BJ];decide) (Cs d) λH4 c=>?_;rw[Ai (show(d_ d).length=rnZ.length by rw[AA,BJ])]at c;have g:=c.blk 1 rfl;have h:=c.blk 0 rfl;have D:=g.lt;have E:=h.lt;refine fa BM ?_;refine D_ (v:=A_ d.op) E_ (by rw[g.cell];exact Di d) zA ?_;(conv=>whnf);rw[m];(conv=>whnf);exact⟨rfl,c.old⟩
 | cat a b C ihb | alt a b C ihb | and_ a b C ihb | minus a b C ihb=>
   intro V S H v ns AE i B J K;simp only[ReM.nodes]at V;have⟨d,j,k,L,m,Q,a0,R,a1⟩:=K;obtain⟨U,na,nc,rfl,F⟩:=J;refine Aj.of_vc func125 rfl (call125 _) (Cd (zJ (.slice na ns.length nc) AE) rfl ?_);intro p H1 M n o q;have J_:=(St.nil H).box M n o q;refine fa EI ?_;refine lT (v:=.slice na ns.length nc) Ee ((J_.blk 0 rfl).ce rfl) ?_;refine Y' (i:=i) EO (F.frame (J_.old.mono B)) L rfl ?_;rintro X Y Z N t ⟨rfl,O⟩;refine L_ (cs:=d_ d) (by rw[AA];exact Hu) t zA ?_;refine Ag _ rnZ Km rfl ?_;intro x H3 P u w y;have z:=J_.box P u w y;refine A9 (cs:=d_ d) z 1 (by rw[AA];rfl) rfl (by rw[AA,BJ];decide) (Cs d) λH4 c=>?_;rw[Ai (show(d_ d).length=rnZ.length by rw[AA,BJ])]at c;have g:=c.blk 1 rfl;have h:=c.blk 0 rfl;have D:=g.lt;have E:=h.lt;refine fa BM ?_;refine D_ (v:=A_ d.op) E_ (by rw[g.cell];exact Di d) zA ?_;(conv=>whnf);rw[m];refine fa BM ?_;refine D_ (v:=A_ d.op) E_ (by rw[g.cell];exact Di d) zA ?_;(conv=>whnf);rw[m];refine Ap.heldZ (H_ H4) [] (sq [0,1,2,5,6,7] (.f 3 (sq [4] (.f 8 (sq [9] (.f 10 .e)))))) rfl zX (D5 U h Ed E (F.frame (c.old.mono B)) λv5 T=>(fa Cg ?_));refine D_ (v:=A_ d.l) E_ (by rw[g.cell,K_];exact GN d) D ?_;(conv=>whnf);rw[Q];refine D5 U h Ed E (F.frame (c.old.mono B)) λv6 a2=>(fa DY ?_);refine D_ (v:=A_ d.r) E_ (by rw[g.cell,K_];exact Mn d) D ?_;(conv=>whnf);rw[a0];refine Al (C zO (λk G=>c.up (B k G)) T R) λH5 A=>?_;have I:=c.call A;refine⟨A,?_⟩;(conv=>whnf);rw[U_ (x:=1+(a.nodes:Int)) zO];refine Al (ihb zO (λk G=>I.up (B k G)) (a2.frame (A.mono λk G=>c.up (B k G))) a1) λH6 W=>?_;have a3:=I.call W;have g6:C_ (H_ H4) H4 H6:=A.trans (W.mono λk G=>Af A G);refine⟨g6,?_⟩;(conv=>whnf);rw[U_ (x:=1+(a.nodes:Int)+(b.nodes:Int)) zO];refine⟨g6,?_⟩;(conv=>whnf);exact⟨by simp only[ReM.nodes];simp,a3.old⟩
 | star a C=>
   intro V S H v ns AE i B J K;simp only[ReM.nodes]at V;have⟨d,j,L,m,Q,R⟩:=K;obtain⟨U,na,nc,rfl,F⟩:=J;refine Aj.of_vc func125 rfl (call125 _) (Cd (zJ (.slice na ns.length nc) AE) rfl ?_);intro p H1 M n o q;have J_:=(St.nil H).box M n o q;refine fa EI ?_;refine lT (v:=.slice na ns.length nc) Ee ((J_.blk 0 rfl).ce rfl) ?_;refine Y' (i:=i) EO (F.frame (J_.old.mono B)) L rfl ?_;rintro X Y Z N t ⟨rfl,O⟩;refine L_ (cs:=d_ d) (by rw[AA];exact Hu) t zA ?_;refine Ag _ rnZ Km rfl ?_;intro x H3 P u w y;have z:=J_.box P u w y;refine A9 (cs:=d_ d) z 1 (by rw[AA];rfl) rfl (by rw[AA,BJ];decide) (Cs d) λH4 c=>?_;rw[Ai (show(d_ d).length=rnZ.length by rw[AA,BJ])]at c;have g:=c.blk 1 rfl;have h:=c.blk 0 rfl;have D:=g.lt;have E:=h.lt;refine fa BM ?_;refine D_ (v:=A_ d.op) E_ (by rw[g.cell];exact Di d) zA ?_;(conv=>whnf);rw[m];refine fa BM ?_;refine D_ (v:=A_ d.op) E_ (by rw[g.cell];exact Di d) zA ?_;(conv=>whnf);rw[m];refine D5 U h Ed zA (F.frame (c.old.mono B)) λv5 T=>(fa Cg ?_);refine D_ (v:=A_ d.l) E_ (by rw[g.cell,K_];exact GN d) zA ?_;(conv=>whnf);rw[Q];refine Al (C zO (λk G=>c.up (B k G)) T R) λH5 A=>?_;have I:=c.call A;(conv=>whnf);rw[U_ (x:=1+(a.nodes:Int)) zO];(conv=>whnf);exact⟨by simp only[ReM.nodes];simp,I.old⟩
structure BR where
 p:Nat
 q:Nat
 u:Nat
 es:List t_
def V'(n:Int)(e:t_):t_:=⟨e.fr+n,e.to+n,e.sil,if e.sil then 0#256 else e.set⟩
def ES(a:P_):Bool:=(a.has a.start&&a.has a.fin)&&a.edges.all λe=>a.has e.fr&&a.has e.to
def ME:ReM->Bool
 | .and_ _ _=>zW
 | .minus _ _=>zW
 | _=>zU
def BD{σ α β:Type}(x:σ×Except Int α)(f:α->σ->σ×Except Int β):σ×Except Int β:=match x with
 | (s,.error e)=>(s,.error e)
 | (s,.ok a)=>f a s
def DG{σ:Type}(x:σ×Except Int P_)(n:Nat):σ×Except Int BR:=
 BD x λa s=>if ES a=zW then(s,.ok ⟨n+a.start.toNat,n+a.fin.toNat,a.st.toNat,a.edges.map (V' n)⟩)else(s,.error 2)
def BS{σ:Type}(sub:ReM->σ->σ×Except Int P_):ReM->Nat->σ->σ×Except Int BR
 | .eps,n,s=>(s,.ok ⟨n,n+1,2,[AP n (n+1)]⟩)
 | .cls t,n,s=>(s,.ok ⟨n,n+1,2,[Cy n (n+1) t]⟩)
 | .cat a b,n,s=>BD (BS sub a n s) λA s1=>BD (BS sub b (n+A.u) s1) λC s2=>(s2,.ok ⟨A.p,C.q,A.u+C.u,A.es++C.es++[AP A.q C.p]⟩)
 | .alt a b,n,s=>BD (BS sub a (n+1) s) λA s1=>BD (BS sub b (n+1+A.u) s1) λC s2=>
   (s2,.ok ⟨n,n+1+A.u+C.u,A.u+C.u+2,A.es++C.es++[AP n A.p,AP n C.p,AP A.q (n+1+A.u+C.u),AP C.q (n+1+A.u+C.u)]⟩)
 | .star a,n,s=>BD (BS sub a (n+1) s) λA s1=>(s1,.ok ⟨n,n+1+A.u,A.u+2,A.es++[AP n A.p,AP n (n+1+A.u),AP A.q A.p,AP A.q (n+1+A.u)]⟩)
 | .and_ a b,n,s=>DG (sub (.and_ a b) s) n
 | .minus a b,n,s=>DG (sub (.minus a b) s) n
section
variable{σ α β:Type}{x:σ×Except Int α}{f:α->σ->σ×Except Int β}{s:σ}
def C5{a:α}(h:x=(s,.ok a)):BD x f=f a s:=by rw[h];rfl
def CK{e:Int}(h:x=(s,.error e)):BD x f=(s,.error e):=by rw[h];rfl
def Bv{b:β}(h:BD x f=(s,.ok b)):∃c a,x=(c,.ok a)/\f a c=(s,.ok b):=by have⟨c,r⟩:=x;cases r with|error e=>cases h|ok a=>exact⟨c,a,rfl,h⟩
end
def E1:ES a=zW↔a.has a.start=zW/\a.has a.fin=zW/\∀e∈a.edges,a.has e.fr=zW/\a.has e.to=zW:=by unfold ES;simp only[O',zM,and_assoc]
structure U9{σ:Type}(sub:ReM->σ->σ×Except Int P_)(E:Nat):Prop where
 len:∀r s s' a,sub r s=(s',.ok a)->a.edges.length<=E
 err:∀r s s' e,sub r s=(s',.error e)->e≠0
def DA{σ:Type}{sub:ReM->σ->σ×Except Int P_}{E:Nat}(f:U9 sub E):∀(r:ReM) (n:Nat) (s e:σ) (A:BR),BS sub r n s=(e,.ok A)->n<=A.p/\A.p<n+A.u/\n<=A.q/\A.q<n+A.u/\A.u<=65536*r.nodes/\A.es.length<=(E+4)*r.nodes
 | .eps,n,s,e,A,h=>by
   cases h;simp only[ReM.nodes,i_];omega
 | .cls t,n,s,e,A,h=>by
   cases h;simp only[ReM.nodes,i_];omega
 | .cat a b,n,s,e,A,h=>by
   have⟨j,A1,d,c⟩:=Bv h;have⟨v,A2,k,l⟩:=Bv c;cases l;have o:=DA f a _ _ _ _ d;have w:=DA f b _ _ _ _ k;simp only[ReM.nodes,M_,i_,yT];omega
 | .alt a b,n,s,e,A,h=>by
   have⟨j,A1,d,c⟩:=Bv h;have⟨v,A2,k,l⟩:=Bv c;cases l;have o:=DA f a _ _ _ _ d;have w:=DA f b _ _ _ _ k;simp only[ReM.nodes,M_,c_,h_,yT];omega
 | .star a,n,s,e,A,h=>by
   have⟨j,A1,d,c⟩:=Bv h;cases c;have o:=DA f a _ _ _ _ d;simp only[ReM.nodes,M_,c_,h_,yT];omega
 | .and_ a b,n,s,e,A,h=>by
   have⟨j,N,d,c⟩:=Bv (show DG _ n=_ from h);have x:=f.len _ _ _ _ d;split at c
   ·rename_i m;cases c;obtain⟨g,i,-⟩:=E1.1 m;have g:=P_.has_iff.1 g;have i:=P_.has_iff.1 i;simp only[ReM.nodes,k_,yT];omega
   ·cases c
 | .minus a b,n,s,e,A,h=>by
   have⟨j,N,d,c⟩:=Bv (show DG _ n=_ from h);have x:=f.len _ _ _ _ d;split at c
   ·rename_i m;cases c;obtain⟨g,i,-⟩:=E1.1 m;have g:=P_.has_iff.1 g;have i:=P_.has_iff.1 i;simp only[ReM.nodes,k_,yT];omega
   ·cases c
def Vx{σ:Type}{sub:ReM->σ->σ×Except Int P_}{E:Nat}(j:U9 sub E):∀(r:ReM) (n:Nat) (s d:σ) (e:Int),BS sub r n s=(d,.error e)->e≠0:=by have g:∀{α β:Type} {x:σ×Except Int α} {f:α->σ->σ×Except Int β} {d:σ} {e:Int},BD x f=(d,.error e)->x=(d,.error e)\/∃i a,x=(i,.ok a)/\f a i=(d,.error e):=by{intro α β x f d e h;have⟨i,r⟩:=x;cases r with|error k=>have h:((i,.error k):σ×Except Int β)=(d,.error e):=h;cases h;exact .inl rfl|ok a=>exact .inr ⟨i,a,rfl,h⟩};intro r;induction r with|eps=>intro n s d e h;cases h|cls t=>intro n s d e h;cases h|cat a b c ihb | alt a b c ihb=>{intro n s d e h;rcases g (show BD _ _=_ from h)with h | ⟨i,A,-,h⟩;{exact c _ _ _ _ h};{rcases g h with h | ⟨l,C,-,h⟩;{exact ihb _ _ _ _ h};{cases h}}}|star a c=>{intro n s d e h;rcases g (show BD _ _=_ from h)with h | ⟨i,A,-,h⟩;{exact c _ _ _ _ h};{cases h}}|and_ a b c ihb | minus a b c ihb=>{intro n s d e h;rcases g (show BD _ _=_ from h)with h | ⟨i,A,-,h⟩;{exact j.err _ _ _ _ h};{split at h;{cases h};{cases h;decide}}}
inductive D7(ns:List o_):ReM->Nat->List (ReM×Nat)->Prop
 | eps {i:Nat}:D7 ns .eps i []
 | cls {t:BitVec 256} {i:Nat}:D7 ns (.cls t) i []
 | cat {a b:ReM} {i j k:Nat} {d:o_} {l m:List (ReM×Nat)}:ns[i]?=zY d->d.l=(j:Int)->d.r=(k:Int)->D7 ns a j l->D7 ns b k m->D7 ns (.cat a b) i (l++m)
 | alt {a b:ReM} {i j k:Nat} {d:o_} {l m:List (ReM×Nat)}:ns[i]?=zY d->d.l=(j:Int)->d.r=(k:Int)->D7 ns a j l->D7 ns b k m->D7 ns (.alt a b) i (l++m)
 | star {a:ReM} {i j:Nat} {d:o_} {l:List (ReM×Nat)}:ns[i]?=zY d->d.l=(j:Int)->D7 ns a j l->D7 ns (.star a) i l
 | and_ {a b:ReM} {i:Nat}:Bj ns (.and_ a b) i->D7 ns (.and_ a b) i [(.and_ a b,i)]
 | minus {a b:ReM} {i:Nat}:Bj ns (.minus a b) i->D7 ns (.minus a b) i [(.minus a b,i)]
def BE(l:List (ReM×Nat)):List Int:=l.map λx=>(x.2:Int)
def CZ(l:List (ReM×Nat)):(BE l).length=l.length:=by unfold BE;rw[k_]
variable{r:ReM}{l:List (ReM×Nat)}
def D7.len(h:D7 ns r i l):l.length<=r.nodes:=by induction h with|eps=>simp|cls=>simp|cat _ _ _ _ _ a b=>simp only[M_,ReM.nodes];omega|alt _ _ _ _ _ a b=>simp only[M_,ReM.nodes];omega|star _ _ _ c=>simp only[ReM.nodes];omega|and_=>simp only[i_,ReM.nodes];omega|minus=>simp only[i_,ReM.nodes];omega
def D7.at_(h:D7 ns r i l):∀x∈l,ME x.1=zW/\Bj ns x.1 x.2/\x.2<ns.length:=by have lt:∀{r:ReM} {i:Nat},Bj ns r i->i<ns.length:=fun{r i} h=>by{cases r with|eps=>obtain⟨d,h,-⟩:=h;exact(V_.1 h).1|cls t=>obtain⟨d,h,-⟩:=h;exact(V_.1 h).1|star a=>obtain⟨d,j,h,-⟩:=h;exact(V_.1 h).1|_ a b=>obtain⟨d,j,k,h,-⟩:=h;exact(V_.1 h).1};induction h with|eps=>intro x c;cases c|cls=>intro x c;cases c|cat _ _ _ _ _ e f=>{intro x c;rcases X'.1 c with c | c;exact e x c;exact f x c}|alt _ _ _ _ _ e f=>{intro x c;rcases X'.1 c with c | c;exact e x c;exact f x c}|star _ _ _ g=>exact g|and_ h=>intro x c;rw[g_.1 c];exact⟨rfl,h,lt h⟩|minus h=>intro x c;rw[g_.1 c];exact⟨rfl,h,lt h⟩
def Bj.head(h:Bj ns r i):∃d,ns[i]?=zY d/\d.op=lJ r:=by cases r with|eps=>have⟨d,h,c⟩:=h;exact⟨d,h,c⟩|cls t=>obtain⟨d,h,c,-⟩:=h;exact⟨d,h,c⟩|star a=>obtain⟨d,j,h,c,-⟩:=h;exact⟨d,h,c⟩|_ a b=>obtain⟨d,j,k,h,c,-⟩:=h;exact⟨d,h,c⟩
def Aj8:∀(N:Nat) (r:ReM),r.nodes<=N->r.nodes<=1000000->∀{S:Nat->Prop} {H:Aa} {v:v_} {ns:List o_} {AE:Int} {i:Nat},(∀k,S k->k<H.size)->ReV S H v ns AE->Bj ns r i->
  Aj prog 126 #[v,A_ i] H λu H'=>C_ (H_ H) H H'/\∃l a c,D7 ns r i l/\u= .slice a l.length c/\X_ a_ none_ H' H.size 3 u (BE l):=by
 intro N
 induction N with
 | zero=>intro r h;cases r<;>simp[ReM.nodes]at h
 | succ N ih=>
 intro r hN hn S H v ns AE i F hv ht;have⟨d,Z,C⟩:=ht.head;obtain⟨hl,na,nc,rfl,h1⟩:=hv;have be:=(V_.1 Z).1;refine Aj.of_vc func126 rfl (call126 _) (Cd (zJ (.slice na ns.length nc) AE) rfl ?_);intro p H1 hp aj ak am;have J_:=(St.nil H).box hp aj ak am;refine fa EI ?_;refine lT (v:=.slice na ns.length nc) Ee ((J_.blk 0 rfl).ce rfl) ?_;refine Y' (i:=i) EO (h1.frame (J_.old.mono F)) Z rfl ?_;rintro b2 o2 c2 bf ao ⟨rfl,bg⟩;refine L_ (cs:=d_ d) (by rw[AA];exact Hu) ao zA ?_;refine Ag _ rnZ Km rfl ?_;intro x H3 E ap aq ar;have au:=J_.box E ap aq ar;refine A9 (cs:=d_ d) au 1 (by rw[AA];rfl) rfl (by rw[AA,BJ];decide) (Cs d) λH4 g=>?_;rw[Ai (show(d_ d).length=rnZ.length by rw[AA,BJ])]at g;have X:=g.blk 1 rfl;have a2:=g.blk 0 rfl;refine fa BM ?_;refine D_ (v:=A_ d.op) E_ (by rw[X.cell];exact Di d) zA ?_;have a0:=g.old;cases r with
 | eps=>
   rw[show d.op=0 from C];refine Au.run ?_;(conv=>whnf);exact⟨a0,[],zV,0,.eps,rfl,X_.nil⟩
 | cls t=>
   rw[show d.op=1 from C];refine Au.run ?_;(conv=>whnf);exact⟨a0,[],zV,0,.cls,rfl,X_.nil⟩
 | and_ a b=>
   rw[show d.op=5 from C];refine Au.run (Au.run (As AB [A_ i] rfl rfl zQ zQ ?_));intro q H5 hq a3 a4 a5;(conv=>whnf);have I:=g.new (T:=a_) (n:=1) (xs:=[(i:Int)]) hq a3 a4 a5 (Ty.reps_one ⟨rfl,⟨by show(-9223372036854775808:Int)<=(i:Int);omega,by show(i:Int)<=(9223372036854775807:Int);omega⟩⟩) rfl zQ;exact⟨I.old,[(.and_ a b,i)],_,_,.and_ ht,rfl,St.own I 2 rfl⟩
 | minus a b=>
   rw[show d.op=6 from C];refine Au.run (Au.run (As AB [A_ i] rfl rfl zQ zQ ?_));intro q H5 hq a3 a4 a5;(conv=>whnf);have I:=g.new (T:=a_) (n:=1) (xs:=[(i:Int)]) hq a3 a4 a5 (Ty.reps_one ⟨rfl,⟨by show(-9223372036854775808:Int)<=(i:Int);omega,by show(i:Int)<=(9223372036854775807:Int);omega⟩⟩) rfl zQ;exact⟨I.old,[(.minus a b,i)],_,_,.minus ht,rfl,St.own I 2 rfl⟩
 | star a=>
   have⟨d',j,z,a1,A,J⟩:=ht;obtain rfl:d=d':=by rw[Z]at z;exact AjO.inj z
   simp only[ReM.nodes]at hN hn;rw[show d.op=4 from C];refine Au.run (Au.run (D5 hl a2 Ed zA (h1.frame (g.old.mono F)) λv5 K=>(fa Cg ?_)));refine D_ (v:=A_ d.l) E_ (by rw[X.cell,K_];exact GN d) zA ?_;rw[A];refine Ae.mk (ih a zO zO (λk Y=>g.up (F k Y)) K J) ?_;rintro _ H6 ⟨L,l,la,lc,hm,rfl,s⟩;(conv=>whnf);exact⟨(g.call L).old,l,la,lc,.star Z A hm,rfl,s.lower (Bl g.old)⟩
 | cat a b=>
   have⟨d',j,k,z,a1,A,M,J,a6⟩:=ht;obtain rfl:d=d':=by rw[Z]at z;exact AjO.inj z
   simp only[ReM.nodes]at hN hn;rw[show d.op=2 from C];refine Au.run (Au.run (D5 hl a2 Ed zA (h1.frame (g.old.mono F)) λv5 K=>(fa Cg ?_)));refine D_ (v:=A_ d.l) E_ (by rw[X.cell,K_];exact GN d) zA ?_;rw[A];refine Ae.mk (ih a zO zO (λk Y=>g.up (F k Y)) K J) ?_;rintro _ H6 ⟨L,l,la,lc,hm,rfl,s⟩;have ll:=hm.len;rw[<-CZ l]at s;have⟨aw,ax,e6,o⟩:=g.got L s;injection e6 with e61 _ e63
   subst e61;subst e63;refine D5 hl (o.blk 0 rfl) Ed zA (h1.frame (o.old.mono F)) λv7 a7=>(fa DY ?_);refine D_ (v:=A_ d.r) E_ (by rw[(o.blk 1 rfl).cell,K_];exact Mn d) zA ?_;rw[M];refine Ae.mk (ih b zO zO (λk Y=>o.up (F k Y)) a7 a6) ?_;rintro _ H8 ⟨a8,m,ma,mc,D,rfl,w⟩;have ml:=D.len;rw[<-CZ m]at w;have⟨ay,az,e8,O⟩:=o.got a8 w;injection e8 with e81 _ e83
   subst e81;subst e83;clear g o;rw[<-CZ l,<-CZ m];have f:St H H8 [pS a_ 3 la (BE l++(BE m).take 0).length lc (BE l++(BE m).take 0),pS a_ 3 ma (BE m).length mc (BE m)]:=by
    have e:BE l++(BE m).take 0=BE l:=zZ
    rw[e];exact O.pick [2,3] zQ
   have e0:(BE l).length=(BE l++(BE m).take 0).length:=zZ
   rw[e0];(conv=>whnf);refine Ay.mk [6,8] (λx:Nat×Option Addr×Nat=>match x with | (t,a,c)=>[.slice a (BE l++(BE m).take t).length c,A_ t]) (λx G=>match x with | (t,a,c)=>t<=(BE m).length/\St H G [pS a_ 3 a (BE l++(BE m).take t).length c (BE l++(BE m).take t),pS a_ 3 ma (BE m).length mc (BE m)]) (λx _=>(BE m).length-x.1) ?_ ?_
   ·(conv=>whnf);exact⟨(0,la,lc),rfl,q_ _,f⟩
   ·clear O f;rintro⟨t,ta,tc⟩ H9 a9 ⟨b0,f⟩;have b4:=CZ m;have b5:=CZ l;refine AD.m2 (λhz=>?_) (λhz=>?_)
    ·have⟨x,E⟩:=Ab (l:=BE m) (k:=t) zO;have b6:0<=x/\x<65536*65536:=by
      unfold BE at E;rw[I']at E;obtain⟨y,hy,rfl⟩:=iP.1 E;have:=(D.at_ y (e_ hy)).2.2;omega
     refine zK (j:=t) AB f 1 rfl E rfl ?_;rintro b7 b8 b9 ah P ⟨rfl,ab⟩;refine D_ E_ P.one zA (As AB [A_ x] rfl rfl zQ zQ ?_);intro bd H11 Q ai R U;have V:=f.skip Q U;refine GI (x:=x) V 0 AB rfl R ⟨rfl,ab⟩ rfl (by rw[M_,wK];omega) zQ λae ag H12 B _=>?_;(conv=>whnf);rw[Q_ t zO];have W:(BE l++(BE m).take t)++[x]=BE l++(BE m).take (t+1):=by rw[Ac E,zN]
     have el:(BE l++(BE m).take t).length+1=(BE l++(BE m).take (t+1)).length:=by rw[<-W];simp;omega
     rw[el,W]at B;exact⟨rfl,(t+1,ae,ag),by rw[el];rfl,⟨zO,B⟩,by simp only;omega⟩
    ·obtain rfl:t=(BE m).length:=zO
     rw[zH]at f ⊢;have e2:BE l++BE m=BE (l++m):=by unfold BE;rw[xF]
     rw[e2]at f ⊢;(conv=>whnf);refine⟨f.old,l++m,ta,tc,.cat Z A M hm D,by rw[CZ],?_⟩;exact St.own f 0 rfl
 | alt a b=>
   have⟨d',j,k,z,a1,A,M,J,a6⟩:=ht;obtain rfl:d=d':=by rw[Z]at z;exact AjO.inj z
   simp only[ReM.nodes]at hN hn;rw[show d.op=3 from C];refine Au.run (Au.run (D5 hl a2 Ed zA (h1.frame (g.old.mono F)) λv5 K=>(fa Cg ?_)));refine D_ (v:=A_ d.l) E_ (by rw[X.cell,K_];exact GN d) zA ?_;rw[A];refine Ae.mk (ih a zO zO (λk Y=>g.up (F k Y)) K J) ?_;rintro _ H6 ⟨L,l,la,lc,hm,rfl,s⟩;have ll:=hm.len;rw[<-CZ l]at s;have⟨aw,ax,e6,o⟩:=g.got L s;injection e6 with e61 _ e63
   subst e61;subst e63;refine D5 hl (o.blk 0 rfl) Ed zA (h1.frame (o.old.mono F)) λv7 a7=>(fa DY ?_);refine D_ (v:=A_ d.r) E_ (by rw[(o.blk 1 rfl).cell,K_];exact Mn d) zA ?_;rw[M];refine Ae.mk (ih b zO zO (λk Y=>o.up (F k Y)) a7 a6) ?_;rintro _ H8 ⟨a8,m,ma,mc,D,rfl,w⟩;have ml:=D.len;rw[<-CZ m]at w;have⟨ay,az,e8,O⟩:=o.got a8 w;injection e8 with e81 _ e83
   subst e81;subst e83;clear g o;rw[<-CZ l,<-CZ m];have f:St H H8 [pS a_ 3 la (BE l++(BE m).take 0).length lc (BE l++(BE m).take 0),pS a_ 3 ma (BE m).length mc (BE m)]:=by
    have e:BE l++(BE m).take 0=BE l:=zZ
    rw[e];exact O.pick [2,3] zQ
   have e0:(BE l).length=(BE l++(BE m).take 0).length:=zZ
   rw[e0];(conv=>whnf);refine Ay.mk [6,8] (λx:Nat×Option Addr×Nat=>match x with | (t,a,c)=>[.slice a (BE l++(BE m).take t).length c,A_ t]) (λx G=>match x with | (t,a,c)=>t<=(BE m).length/\St H G [pS a_ 3 a (BE l++(BE m).take t).length c (BE l++(BE m).take t),pS a_ 3 ma (BE m).length mc (BE m)]) (λx _=>(BE m).length-x.1) ?_ ?_
   ·(conv=>whnf);exact⟨(0,la,lc),rfl,q_ _,f⟩
   ·clear O f;rintro⟨t,ta,tc⟩ H9 a9 ⟨b0,f⟩;have b4:=CZ m;have b5:=CZ l;refine AD.m2 (λhz=>?_) (λhz=>?_)
    ·have⟨x,E⟩:=Ab (l:=BE m) (k:=t) zO;have b6:0<=x/\x<65536*65536:=by
      unfold BE at E;rw[I']at E;obtain⟨y,hy,rfl⟩:=iP.1 E;have:=(D.at_ y (e_ hy)).2.2;omega
     refine zK (j:=t) AB f 1 rfl E rfl ?_;rintro b7 b8 b9 ah P ⟨rfl,ab⟩;refine D_ E_ P.one zA (As AB [A_ x] rfl rfl zQ zQ ?_);intro bd H11 Q ai R U;have V:=f.skip Q U;refine GI (x:=x) V 0 AB rfl R ⟨rfl,ab⟩ rfl (by rw[M_,wK];omega) zQ λae ag H12 B _=>?_;(conv=>whnf);rw[Q_ t zO];have W:(BE l++(BE m).take t)++[x]=BE l++(BE m).take (t+1):=by rw[Ac E,zN]
     have el:(BE l++(BE m).take t).length+1=(BE l++(BE m).take (t+1)).length:=by rw[<-W];simp;omega
     rw[el,W]at B;exact⟨rfl,(t+1,ae,ag),by rw[el];rfl,⟨zO,B⟩,by simp only;omega⟩
    ·obtain rfl:t=(BE m).length:=zO
     rw[zH]at f ⊢;have e2:BE l++BE m=BE (l++m):=by unfold BE;rw[xF]
     rw[e2]at f ⊢;(conv=>whnf);refine⟨f.old,l++m,ta,tc,.alt Z A M hm D,by rw[CZ],?_⟩;exact St.own f 0 rfl
section
variable{place:Nat->Option (Nat×Nat)}
def AiT{c0 e a b d:v_}(h:place 0=zY (0,1))(p1:place 1=zY (1,1))(p2:place 2=zY (2,1))
  (h0:a.cells= #[a]) (f:b.cells= #[b]) (g:d.cells= #[d]):Instr.fill place ([c0,e,c]++zs).toArray [(0,a),(1,b),(2,d)]=zY ([a,b,d]++zs).toArray:=by have i:Ak ([c0,e,c]++zs) 0 [a]=[a,e,c]++zs:=rfl;have j:Ak ([a,e,c]++zs) 1 [b]=[a,b,c]++zs:=rfl;have e2:Ak ([a,b,c]++zs) 2 [d]=[a,b,d]++zs:=rfl;rw[Cu h (by rw[h0];rfl) zZ,h0,vL,i,Cu p1 (by rw[f];rfl) zZ,f,vL,j,Cu p2 (by rw[g];rfl) zZ,g,vL,vL,e2];rfl
def aR{c0 d b a:v_}{bs:List v_}(g:bs.length=zs.length)(h:place 0=zY (0,1))(p1:place 1=zY (1,1))(i:place 3=zY (3,zs.length))
  (h0:a.cells= #[a]) (e:c.cells= #[c]):Instr.fill place ([c0,d,b]++zs).toArray [(0,a),(1,c),(3,.agg bs.toArray)]=zY ([a,c,b]++bs).toArray:=by have j:Ak ([c0,d,b]++zs) 0 [a]=[a,d,b]++zs:=rfl;have k:Ak ([a,d,b]++zs) 1 [c]=[a,c,b]++zs:=rfl;have l:Ak ([a,c,b]++zs) 3 bs=[a,c,b]++bs:=by{unfold Ak;rw[show([a,c,b]++zs).take 3=[a,c,b]from rfl,mK (by simp;omega),yX]};have f:(Value.agg bs.toArray).cells=bs.toArray:=rfl;rw[Cu h (by rw[h0];rfl) zZ,h0,vL,j,Cu p1 (by rw[e];rfl) zZ,e,vL,k,Cu i (by rw[f];simpa using g) (by simp;omega),f,vL,vL,l];rfl
end
def P9(p q:Nat)(k:K (.agg (Dp (AP p q)).toArray)):
  AO prog (Instr.build 185 [(0,A_ p),(1,A_ q),(2,.bool zW)].toArray) S H K:=by refine Az underlying185 rfl Zg LO (Dp (AP p q)) ?_ k;unfold Dp;rw[show(AP p q).set=0#256 from rfl,Hw];exact AiT zX zX zX rfl rfl rfl
def P7(p q:Nat)(s:BitVec 256)(k:K (.agg (Dp (Cy p q s)).toArray)):
  AO prog (Instr.build 185 [(0,A_ p),(1,A_ q),(3,.agg (Av s).toArray)].toArray) S H K:=
 Az underlying185 rfl Zg LO (Dp (Cy p q s)) (aR (zs:=Ai5 256 (Value.bool zU)) (by rw[show(Av s).length=256 from BT _ _,uT]) zX zX (by rw[uT];kernel_rfl) rfl rfl) k
def rP(n:Nat)(v:v_):List v_:=[A_ n,A_ 0,A_ 0,v]
abbrev rB:x_:=81
inductive Yz(R:Nat->Nat->Prop)(i:Nat):Nat->Prop
 | refl:Yz R i i
 | step {k j:Nat}:Yz R i k->R k j->Yz R i j
inductive Pth(es:List t_)(l:List Nat)(p:Int)(i:Nat):Int->Nat->Prop
 | refl:Pth es l p i p i
 | sil {q:Int} {j:Nat} {e:t_}:Pth es l p i q j->e∈es->e.sil=zW->e.fr=q->Pth es l p i e.to j
 | eat {q:Int} {j c:Nat} {e:t_}:Pth es l p i q j->e∈es->e.sil=zU->e.fr=q->l[j]?=zY c->e.set.getLsbD c=zW->Pth es l p i e.to (j+1)
def SY(A C:BR):BR:=⟨A.p,C.q,A.u+C.u,A.es++C.es++[AP A.q C.p]⟩
def SH(n:Nat)(A C:BR):BR:=⟨n,n+1+A.u+C.u,A.u+C.u+2,A.es++C.es++[AP n A.p,AP n C.p,AP A.q (n+1+A.u+C.u),AP C.q (n+1+A.u+C.u)]⟩
def N2(n:Nat)(A:BR):BR:=⟨n,n+1+A.u,A.u+2,A.es++[AP n A.p,AP n (n+1+A.u),AP A.q A.p,AP A.q (n+1+A.u)]⟩
def pW:Ty (Nat×P_) where
 size:=5
 rep S H cs x:=∃ea ec,cs= .int .i64 (x.1:Int)::n_ x.2 (.slice ea x.2.edges.length ec)/\x.2.edges.length<=33554432/\b_ Eg S H ea ec x.2.edges
 len h:=by obtain⟨ea,ec,rfl,-⟩:=h;rfl
 frame k h:=by have⟨ea,ec,h1,h2,h3⟩:=k;exact⟨ea,ec,h1,h2,h3.frame h⟩
 mono k h:=by have⟨ea,ec,h1,h2,h3⟩:=k;exact⟨ea,ec,h1,h2,h3.mono h⟩
def Ai1(xs:List (Nat×P_))(j:Nat)(a:P_):Prop:=∃t,xs[t]?=zY (j,a)/\∀(t':Nat) (y:Nat×P_),t'<t->xs[t']?=zY y->y.1≠j
def Bo(sub:ReM->P_):ReM->Nat->BR
 | .eps,n=>⟨n,n+1,2,[AP n (n+1)]⟩
 | .cls t,n=>⟨n,n+1,2,[Cy n (n+1) t]⟩
 | .cat a b,n=>SY (Bo sub a n) (Bo sub b (n+(Bo sub a n).u))
 | .alt a b,n=>SH n (Bo sub a (n+1)) (Bo sub b (n+1+(Bo sub a (n+1)).u))
 | .star a,n=>N2 n (Bo sub a (n+1))
 | .and_ a b,n=>⟨n+(sub (.and_ a b)).start.toNat,n+(sub (.and_ a b)).fin.toNat,(sub (.and_ a b)).st.toNat,(sub (.and_ a b)).edges.map (V' n)⟩
 | .minus a b,n=>⟨n+(sub (.minus a b)).start.toNat,n+(sub (.minus a b)).fin.toNat,(sub (.minus a b)).st.toNat,(sub (.minus a b)).edges.map (V' n)⟩
def LD(h:ES a=zW):∃s f u:Nat,a.start=(s:Int)/\a.fin=(f:Int)/\a.st=(u:Int)/\s<u/\f<u/\u<=65536:=by obtain⟨b,c,-⟩:=E1.1 h;have b:=P_.has_iff.1 b;have c:=P_.has_iff.1 c;exact⟨a.start.toNat,a.fin.toNat,a.st.toNat,zO,zO,zO,zO,zO,zO⟩
def JK(sub:ReM->P_)(xs:List (Nat×P_))(l:List (ReM×Nat)):Prop:=∀x∈l,Ai1 xs x.2 (sub x.1)/\ES (sub x.1)=zW/\(sub x.1).edges.length<=33554432
def GA{sub:ReM->P_}{xs:List (Nat×P_)}(h:D7 ns r i l)(hs:JK sub xs l):∀n,n<=(Bo sub r n).p/\(Bo sub r n).p<n+(Bo sub r n).u/\n<=(Bo sub r n).q/\(Bo sub r n).q<n+(Bo sub r n).u/\(Bo sub r n).u<=65536*r.nodes/\(Bo sub r n).es.length<=33554436*r.nodes:=by induction h with|eps=>intro n;simp only[Bo,ReM.nodes,i_];omega|cls=>intro n;simp only[Bo,ReM.nodes,i_];omega|@cat a b i j k d l m _ _ _ _ _ ih1 ih2=>intro n;have e:=ih1 (λx c=>hs x (yS _ c)) n;have g:=ih2 (λx c=>hs x (wL _ c)) (n+(Bo sub a n).u);simp only[Bo,SY,ReM.nodes,M_,i_,yT];omega|@alt a b i j k d l m _ _ _ _ _ ih1 ih2=>intro n;have e:=ih1 (λx c=>hs x (yS _ c)) (n+1);have g:=ih2 (λx c=>hs x (wL _ c)) (n+1+(Bo sub a (n+1)).u);simp only[Bo,SH,ReM.nodes,M_,c_,h_,yT];omega|star _ _ _ o=>intro n;have e:=o hs (n+1);simp only[Bo,N2,ReM.nodes,M_,c_,h_,yT];omega|and_ _ | minus _=>intro n;obtain⟨-,t,v⟩:=hs _ (g_.2 rfl);have⟨s,f,u,w,e2,y,z,A,B⟩:=LD t;simp only[Bo,ReM.nodes,k_,yT,w,e2,y,zB];dsimp only at v;omega
def LQ{p q:Nat}(a:p<=4398046511104)(b:q<=4398046511104)(s:Bool)(t:BitVec 256):(t_.mk p q s t).Ok:=⟨BK zO,BK zO⟩
def Ge{rest:List Pc}{K:v_->Aa->Prop}{a:Option Addr}{c p q:Nat}(h:B_ B H0 H (pB rB bb (rP n (.slice a es.length c))::pS Eg 185 a es.length c es::rest))(i:p<=4398046511104)(l:q<=4398046511104)(E:es.length+1<=274877906944)
  (k:∀a' d H',B_ B H0 H' (pB rB bb (rP n (.slice a' (es++[AP p q]).length d))::pS Eg 185 a' (es++[AP p q]).length d (es++[AP p q])::rest)->K (.tuple #[]) H'):
  Ae prog 179 #[Y_ bb,A_ p,A_ q] H K:=by
 refine Ae.mk (R:=λr H'=>r= .tuple #[]/\∃a' d,B_ B H0 H' (pB rB bb (rP n (.slice a' (es++[AP p q]).length d))::pS Eg 185 a' (es++[AP p q]).length d (es++[AP p q])::rest)) ?_ λr H' ⟨m,a',d,s⟩=>by rw[m];exact k a' d H' s
 refine Aj.of_vc func179 rfl (call179 _) (fa Dw ?_);refine lT (v:=.slice a es.length c) GJ ((h.blk 0 rfl).ce rfl) ?_;refine P9 p q (As GD (Dp (AP p q)) rfl (B0 _) zQ zQ ?_);intro y H1 t w e f;have J_:=h.skip t f;refine I9 (ys:=[AP p q]) J_ 1 GD rfl (e.cells (o:=0) (cs:=Dp (AP p q)) λj v x=>by rw[K_];exact x) (Ty.reps_one ⟨rfl,LQ i l _ _⟩) rfl (λu z=>zM.1 (EU _) u z) (by unfold maxLen;simp only[c_,h_];omega) (by simp only[c_,h_];omega) λA C H9 g _=>?_;refine fa Dw (AZ g 0 GJ rfl (zQ:3<4) rfl λH10 b=>?_);(conv=>whnf);have D:es.length+[AP p q].length=(es++[AP p q]).length:=zZ;rw[D]at b;exact⟨rfl,A,C,b⟩
abbrev vE(bb n:Nat)(a:Option Addr)(c:Nat)(es:List t_)(rest:List Pc):List Pc:=pB rB bb (rP n (.slice a es.length c))::pS Eg 185 a es.length c es::rest
def ZW{AE:Int}{sub:ReM->P_}{xs:List (Nat×P_)}{sc:Nat}(cm:ReV B H0 w0 ns AE)(be:b_ pW B H0 sa sc xs)(d7:xs.length<=4194304):∀(N:Nat) (r:ReM),r.nodes<=N->∀{H:Aa} {rest:List Pc} {n i:Nat} {a:Option Addr} {c:Nat} {es:List t_} {l:List (ReM×Nat)},Bj ns r i->D7 ns r i l->JK sub xs l->
  B_ B H0 H (vE bb n a c es rest)->n+65536*r.nodes<=1099511627776->es.length+33554436*r.nodes<=137438953472->
  Aj prog 139 #[Y_ bb,w0,A_ i,.slice sa xs.length sc] H λu H'=>u= .tuple #[A_ ((Bo sub r n).p:Nat),A_ ((Bo sub r n).q:Nat)]/\∃a' c',B_ B H0 H' (vE bb (n+(Bo sub r n).u) a' c' (es++(Bo sub r n).es) rest):=by
 intro N
 induction N with
 | zero=>intro r h;cases r<;>simp[ReM.nodes]at h
 | succ N ih=>
 intro r hN H rest n i a c es l ht hm I st hn ag;obtain⟨hl,na,nc,rfl,h1⟩:=cm;have⟨d,hd,ah⟩:=ht.head;have d8:=(V_.1 hd).1;refine Aj.of_vc func139 rfl (call139 _) (Cd (zJ (.slice na ns.length nc) AE) rfl ?_);intro p H1 hp L ap aq;have J_:=(st.box hp L ap aq).perm (xA _ _);refine fa EI ?_;refine lT (v:=.slice na ns.length nc) Ee ((J_.blk 0 rfl).ce rfl) ?_;refine Y' (i:=i) EO (h1.frame J_.old) hd rfl ?_;rintro b2 o2 c2 d9 co ⟨rfl,da⟩;refine L_ (cs:=d_ d) (by rw[AA];exact Hu) co zA ?_;refine Ag _ rnZ Km rfl ?_;intro x H3 hx cp cq cr;have cg:=(J_.box hx cp cq cr).perm (xA _ _);refine A9 (cs:=d_ d) cg 0 (by rw[AA];rfl) rfl (by rw[AA,BJ];decide) (Cs d) λH4 D=>?_;rw[Ai (show(d_ d).length=rnZ.length by rw[AA,BJ])]at D;replace D:B_ B H0 H4 (vE bb n a c es (pB 159 x (d_ d)::pB 56 p (zJ (.slice na ns.length nc) AE)::rest)):=D.pickN 4 [2,3,0,1] zQ;clear J_ cg st;refine fa CM ?_;refine lT (v:=A_ n) E_ ((D.blk 0 rfl).ce rfl) ?_;refine fa BM ?_;refine D_ (v:=A_ d.op) E_ (by rw[(D.blk 2 rfl).cell];exact Di d) zA ?_;have db:=GA hm I n;cases hm with
 | eps=>
   rw[show d.op=0 from ah];simp only[ReM.nodes]at hn ag;refine fa CM ?_;refine lT (v:=A_ n) E_ ((D.blk 0 rfl).ce rfl) ?_;(conv=>whnf);rw[U_ (x:=(n:Int)+2) zO,show(n:Int)+2=((n+2:Nat):Int) by omega];refine fa CM (AZ D 0 E_ rfl (zQ:0<4) rfl λH5 b=>?_);(conv=>whnf);rw[Q_ n zO,show(n:Int)+1=((n+1:Nat):Int) by omega];refine Ge b zO zO (by first | omega | (simp only[M_,c_,h_];omega)) λa6 c6 H6 M=>?_;(conv=>whnf);rw[Q_ n zO,show(n:Int)+1=((n+1:Nat):Int) by omega];(conv=>whnf);exact⟨rfl,a6,c6,M.pickN 4 [0,1] zQ⟩
 | cls=>
   rename_i t;have ch:d.set=t:=by obtain⟨d',O,-,h⟩:=ht;rw[hd]at O;cases O;exact h
   rw[show d.op=1 from ah];simp only[ReM.nodes]at hn ag;refine fa CM ?_;refine lT (v:=A_ n) E_ ((D.blk 0 rfl).ce rfl) ?_;(conv=>whnf);rw[U_ (x:=(n:Int)+2) zO,show(n:Int)+2=((n+2:Nat):Int) by omega];refine fa CM (AZ D 0 E_ rfl (zQ:0<4) rfl λH5 b=>?_);have a0:=b.apart2 (i:=0) (j:=1) rfl rfl zQ;have P:=b.apart2 (i:=2) (j:=1) rfl rfl zQ;have ar:bb<H5.size/\¬O_ (.slice a es.length c) bb:=⟨(b.in_ 0 rfl rfl).2,λh=>a0 bb rfl (.inl h)⟩;have ct:x<H5.size/\¬O_ (.slice a es.length c) x:=⟨(b.in_ 2 rfl rfl).2,λh=>P x rfl (.inl h)⟩;refine Ap.heldZ (λk=>k<H5.size/\¬O_ (.slice a es.length c) k) [15] (sq [0,1,2,3,4,5,6,7,8,9,10] (.f 11 (.f 12 (sq [13,14] (.f 15 .e))))) rfl zX (fa Dw ?_);refine D_ (v:=.slice a es.length c) GJ ((b.blk 0 rfl).ce rfl) ar ?_;(conv=>whnf);rw[Q_ n zO,show(n:Int)+1=((n+1:Nat):Int) by omega];refine fa RA ?_;refine L_ (cs:=Av d.set) (by rw[Ax];exact Nf) ((b.blk 2 rfl).cells λj v K=>V7 d j v K) ct ?_;(conv=>whnf);rw[ch];refine P7 n (n+1) t (As GD (Dp (Cy n (n+1) t)) rfl (B0 _) zQ zQ ?_);intro y H6 hy ci au Q;have M:=b.skip hy Q;refine⟨Q.mono λk J=>by have:=J.1;omega,?_⟩;refine I9 (ys:=[Cy n (n+1) t]) M 1 GD rfl (au.cells (o:=0) (cs:=Dp (Cy n (n+1) t)) λj v K=>by rw[K_];exact K) (Ty.reps_one ⟨rfl,LQ zO zO _ _⟩) rfl (λu hu=>zM.1 (EU _) u hu) (by unfold maxLen;simp only[c_,h_];omega) (by simp only[c_,h_];omega) λa9 c9 H9 g aw=>?_;refine⟨(Q.mono λk J=>by have:=J.1;omega).trans (aw.mono λk J=>⟨by have:=J.1;omega,J.2⟩),?_⟩;refine fa Dw (AZ g 0 GJ rfl (zQ:3<4) rfl λH10 m=>?_);(conv=>whnf);rw[Q_ n zO,show(n:Int)+1=((n+1:Nat):Int) by omega];(conv=>whnf);have el:es.length+[Cy n (n+1) t].length=(es++[Cy n (n+1) t]).length:=zZ
   rw[el]at m;exact⟨rfl,a9,c9,m.pickN 4 [0,1] zQ⟩
 | @cat a' b' _ j k d' l1 l2 O hl1 hl2 hm1 hm2=>
   obtain rfl:d=d':=by rw[hd]at O;exact AjO.inj O
   have ax:Bj ns a' j:=by
    obtain⟨e1,j2,k2,U,-,g1,g2,h,-⟩:=ht;rw[hd]at U;cases U;rw[hl1]at g1;have e:j=j2:=zO
    rw[e];exact h
   have bf:Bj ns b' k:=by
    obtain⟨e1,j2,k2,U,-,g1,g2,-,h⟩:=ht;rw[hd]at U;cases U;rw[hl2]at g2;have e:k=k2:=zO
    rw[e];exact h
   have L:JK sub xs l1:=λx hx=>I x (yS _ hx);have ay:JK sub xs l2:=λx hx=>I x (wL _ hx);simp only[ReM.nodes,yT]at hN hn ag;rw[show d.op=2 from ah];refine L_ (cs:=zJ (.slice na ns.length nc) AE) Ed ((D.blk 3 rfl).cells λj v K=>by rw[K_];exact K) zA ?_;refine fa Cg ?_;refine D_ (v:=A_ d.l) E_ (by rw[(D.blk 2 rfl).cell,K_];exact GN d) zA ?_;(conv=>whnf);rw[hl1];have i5:=GA hm1 L (n);refine Ae.mk (ih a' zO ax hm1 L D zO (by first | omega | (simp only[M_];omega))) ?_;rintro _ H5 ⟨rfl,a5,c5,b⟩;obtain⟨A5,a2⟩:∃A,A=Bo sub a' (n):=⟨_,rfl⟩;rw[<-a2]at i5 b ⊢;refine L_ (cs:=zJ (.slice na ns.length nc) AE) Ed ((b.blk 3 rfl).cells λj v K=>by rw[K_];exact K) zA ?_;refine fa DY ?_;refine D_ (v:=A_ d.r) E_ (by rw[(b.blk 2 rfl).cell,K_];exact Mn d) zA ?_;(conv=>whnf);rw[hl2];have i6:=GA hm2 ay (n+A5.u);refine Ae.mk (ih b' zO bf hm2 ay b zO (by first | omega | (simp only[M_];omega))) ?_;rintro _ H6 ⟨rfl,a6,c6,M⟩;obtain⟨A6,az⟩:∃A,A=Bo sub b' (n+A5.u):=⟨_,rfl⟩;rw[<-az]at i6 M ⊢;refine Ge M zO zO (by first | omega | (simp only[M_,c_,h_];omega)) λa7 c7 H7 ao=>?_;(conv=>whnf);have e1:Bo sub (.cat a' b') n=SY A5 A6:=by simp only[Bo];rw[<-a2,<-az]
   rw[e1];refine⟨rfl,a7,c7,?_⟩;have e2:es++A5.es++A6.es++[AP A5.q A6.p]=es++(SY A5 A6).es:=by simp[SY]
   have e3:n+A5.u+A6.u=n+(SY A5 A6).u:=by simp[SY];omega
   rw[e2,e3]at ao;exact ao.pickN 4 [0,1] zQ
 | @alt a' b' _ j k d' l1 l2 O hl1 hl2 hm1 hm2=>
   obtain rfl:d=d':=by rw[hd]at O;exact AjO.inj O
   have ax:Bj ns a' j:=by
    obtain⟨e1,j2,k2,U,-,g1,g2,h,-⟩:=ht;rw[hd]at U;cases U;rw[hl1]at g1;have e:j=j2:=zO
    rw[e];exact h
   have bf:Bj ns b' k:=by
    obtain⟨e1,j2,k2,U,-,g1,g2,-,h⟩:=ht;rw[hd]at U;cases U;rw[hl2]at g2;have e:k=k2:=zO
    rw[e];exact h
   have L:JK sub xs l1:=λx hx=>I x (yS _ hx);have ay:JK sub xs l2:=λx hx=>I x (wL _ hx);simp only[ReM.nodes,yT]at hN hn ag;rw[show d.op=3 from ah];refine fa CM ?_;refine lT (v:=A_ n) E_ ((D.blk 0 rfl).ce rfl) ?_;(conv=>whnf);rw[U_ (x:=(n:Int)+1) zO,show(n:Int)+1=((n+1:Nat):Int) by omega];refine fa CM (AZ D 0 E_ rfl (zQ:0<4) rfl λH45 R=>?_);refine L_ (cs:=zJ (.slice na ns.length nc) AE) Ed ((R.blk 3 rfl).cells λj v K=>by rw[K_];exact K) zA ?_;refine fa Cg ?_;refine D_ (v:=A_ d.l) E_ (by rw[(R.blk 2 rfl).cell,K_];exact GN d) zA ?_;(conv=>whnf);rw[hl1];have i5:=GA hm1 L (n+1);refine Ae.mk (ih a' zO ax hm1 L R zO (by first | omega | (simp only[M_];omega))) ?_;rintro _ H5 ⟨rfl,a5,c5,b⟩;obtain⟨A5,a2⟩:∃A,A=Bo sub a' (n+1):=⟨_,rfl⟩;rw[<-a2]at i5 b ⊢;refine L_ (cs:=zJ (.slice na ns.length nc) AE) Ed ((b.blk 3 rfl).cells λj v K=>by rw[K_];exact K) zA ?_;refine fa DY ?_;refine D_ (v:=A_ d.r) E_ (by rw[(b.blk 2 rfl).cell,K_];exact Mn d) zA ?_;(conv=>whnf);rw[hl2];have i6:=GA hm2 ay (n+1+A5.u);refine Ae.mk (ih b' zO bf hm2 ay b zO (by first | omega | (simp only[M_];omega))) ?_;rintro _ H6 ⟨rfl,a6,c6,M⟩;obtain⟨A6,az⟩:∃A,A=Bo sub b' (n+1+A5.u):=⟨_,rfl⟩;rw[<-az]at i6 M ⊢;refine fa CM ?_;refine lT (v:=A_ ((n+1+A5.u+A6.u:Nat):Int)) E_ ((M.blk 0 rfl).ce rfl) ?_;refine fa CM ?_;refine lT (v:=A_ ((n+1+A5.u+A6.u:Nat):Int)) E_ ((M.blk 0 rfl).ce rfl) ?_;(conv=>whnf);rw[U_ (x:=((n+1+A5.u+A6.u:Nat):Int)+1) zO,show((n+1+A5.u+A6.u:Nat):Int)+1=((n+1+A5.u+A6.u+1:Nat):Int) by omega];refine fa CM (AZ M 0 E_ rfl (zQ:0<4) rfl λH7 ao=>?_);refine Ge ao zO zO (by first | omega | (simp only[M_,c_,h_];omega)) λa8 c8 H8 V=>?_;refine Ge V zO zO (by first | omega | (simp only[M_,c_,h_];omega)) λa9 c9 H9 g=>?_;refine Ge g zO zO (by first | omega | (simp only[M_,c_,h_];omega)) λcu cw H10 m=>?_;refine Ge m zO zO (by first | omega | (simp only[M_,c_,h_];omega)) λbg bh H11 a3=>?_;(conv=>whnf);have e1:Bo sub (.alt a' b') n=SH n A5 A6:=by simp only[Bo];rw[<-a2,<-az]
   rw[e1];refine⟨rfl,bg,bh,?_⟩;have e2:es++A5.es++A6.es++[AP n A5.p]++[AP n A6.p]++[AP A5.q (n+1+A5.u+A6.u)]++[AP A6.q (n+1+A5.u+A6.u)]=es++(SH n A5 A6).es:=by simp[SH]
   have e3:n+1+A5.u+A6.u+1=n+(SH n A5 A6).u:=by simp[SH];omega
   rw[e2,e3]at a3;exact a3.pickN 4 [0,1] zQ
 | @star a' _ j d' _ O hl1 hm1=>
   obtain rfl:d=d':=by rw[hd]at O;exact AjO.inj O
   have ax:Bj ns a' j:=by
    obtain⟨e1,j',U,-,g1,h⟩:=ht;rw[hd]at U;cases U;rw[hl1]at g1;have e:j=j':=zO
    rw[e];exact h
   simp only[ReM.nodes,yT]at hN hn ag;rw[show d.op=4 from ah];refine fa CM ?_;refine lT (v:=A_ n) E_ ((D.blk 0 rfl).ce rfl) ?_;(conv=>whnf);rw[U_ (x:=(n:Int)+1) zO,show(n:Int)+1=((n+1:Nat):Int) by omega];refine fa CM (AZ D 0 E_ rfl (zQ:0<4) rfl λH45 R=>?_);refine L_ (cs:=zJ (.slice na ns.length nc) AE) Ed ((R.blk 3 rfl).cells λj v K=>by rw[K_];exact K) zA ?_;refine fa Cg ?_;refine D_ (v:=A_ d.l) E_ (by rw[(R.blk 2 rfl).cell,K_];exact GN d) zA ?_;(conv=>whnf);rw[hl1];have i5:=GA hm1 I (n+1);refine Ae.mk (ih a' zO ax hm1 I R zO (by first | omega | (simp only[M_];omega))) ?_;rintro _ H5 ⟨rfl,a5,c5,b⟩;obtain⟨A5,a2⟩:∃A,A=Bo sub a' (n+1):=⟨_,rfl⟩;rw[<-a2]at i5 b ⊢;refine fa CM ?_;refine lT (v:=A_ ((n+1+A5.u:Nat):Int)) E_ ((b.blk 0 rfl).ce rfl) ?_;refine fa CM ?_;refine lT (v:=A_ ((n+1+A5.u:Nat):Int)) E_ ((b.blk 0 rfl).ce rfl) ?_;(conv=>whnf);rw[U_ (x:=((n+1+A5.u:Nat):Int)+1) zO,show((n+1+A5.u:Nat):Int)+1=((n+1+A5.u+1:Nat):Int) by omega];refine fa CM (AZ b 0 E_ rfl (zQ:0<4) rfl λH7 ao=>?_);refine Ge ao zO zO (by first | omega | (simp only[M_,c_,h_];omega)) λa8 c8 H8 V=>?_;refine Ge V zO zO (by first | omega | (simp only[M_,c_,h_];omega)) λa9 c9 H9 g=>?_;refine Ge g zO zO (by first | omega | (simp only[M_,c_,h_];omega)) λcu cw H10 m=>?_;refine Ge m zO zO (by first | omega | (simp only[M_,c_,h_];omega)) λbg bh H11 a3=>?_;(conv=>whnf);have e1:Bo sub (.star a') n=N2 n A5:=by simp only[Bo];rw[<-a2]
   rw[e1];refine⟨rfl,bg,bh,?_⟩;have e2:es++A5.es++[AP n A5.p]++[AP n (n+1+A5.u)]++[AP A5.q A5.p]++[AP A5.q (n+1+A5.u)]=es++(N2 n A5).es:=by simp[N2]
   have e3:n+1+A5.u+1=n+(N2 n A5).u:=by simp[N2];omega
   rw[e2,e3]at a3;exact a3.pickN 4 [0,1] zQ
 | @and_ a' b' _ _=>
   rw[show d.op=5 from ah];obtain⟨⟨T,hT,E⟩,hw,b0⟩:=I _ (g_.2 rfl);dsimp only at hT E hw b0;have⟨bi,bj,S⟩:=E1.1 hw;have⟨s0,f0,u,ai,aj,hu,k1,k2,k3⟩:=LD hw;have e1:Bo sub (.and_ a' b') n=⟨n+s0,n+f0,u,(sub (.and_ a' b')).edges.map (V' n)⟩:=by simp only[Bo,ai,aj,hu,zB]
   rw[e1];simp only[ReM.nodes,yT]at hn ag;generalize sub (.and_ a' b')=A at hT E hw b0 bi bj S ai aj hu ⊢;have cx:=(V_.1 hT).1;(conv=>whnf);refine Ay.mk [24] (λt:Nat=>[A_ t]) (λt G=>t<=T/\B_ B H0 G (vE bb n a c es (pB 159 x (d_ d)::pB 56 p (zJ (.slice na ns.length nc) AE)::rest))) (λt _=>T-t) ?_ ?_
   ·(conv=>whnf);exact⟨0,rfl,q_ _,D⟩
   ·clear D;rintro t H5 ak ⟨cy,b⟩;have bm:zT ((t:Int)<(xs.length:Int))=zW:=l_;(conv=>whnf);rw[bm];have⟨y,hy⟩:=Ab (l:=xs) (k:=t) zO;refine Y' (i:=t) QM (be.frame b.old) hy rfl ?_;rintro b6 o6 c6 cz bn ⟨ea,ec,rfl,d0,d1⟩;refine fa Wy (D_ (v:=A_ (y.1:Int)) E_ (bn 0 _ rfl) zA ?_);by_cases bo:t=T
    ·subst bo;obtain rfl:y=(i,A):=by rw[hT]at hy;exact(AjO.inj hy).symm
     have dq:((i:Int)==(i:Int))=zW:=beq_self_eq_true _;(conv=>whnf);rw[dq];refine Y' (i:=t) QM (be.frame b.old) hT rfl ?_;rintro b7 o7 c7 d2 bp ⟨w,C,rfl,-,b4⟩;refine fa Wz ?_;refine L_ (cs:=n_ A (.slice w A.edges.length C)) PU (λj v K=>by have:=bp (j+1) v K;rwa [(zO:o7+(j+1)=o7+1+j)]at this) zA ?_;refine Ag _ [A_ 0,A_ 0,A_ 0,.slice zV 0 0] Kd rfl ?_;intro z H8 hz bq br bu;have V:=(b.box hz bq br bu).perm (xA _ _);refine A9 (cs:=n_ A (.slice w A.edges.length C)) V 0 rfl rfl (N_ _) rfl λH9 g=>?_;rw[Ai (show(n_ A (.slice w A.edges.length C)).length=4 from rfl)]at g;replace g:B_ B H0 H9 (vE bb n a c es (pB 81 z (n_ A (.slice w A.edges.length C))::rest)):=g.pickN 5 [1,2,0] zQ;have bv:=b.old;clear b V;refine Ap.heldZ (H_ H9) [9] (sq [0,1,2,3,4,5,6,7,8] (.f 9 .e)) rfl zX (fa CM ?_);refine D_ (v:=A_ n) E_ ((g.blk 0 rfl).ce rfl) (g.in_ 0 rfl rfl).2 ?_;refine fa CM ?_;refine D_ (v:=A_ u) E_ (by rw[(g.blk 2 rfl).cell,<-hu];rfl) (g.in_ 2 rfl rfl).2 ?_;(conv=>whnf);rw[U_ (x:=(n:Int)+(u:Int)) zO,show(n:Int)+(u:Int)=((n+u:Nat):Int) by omega];refine fa CM (AZ g 0 E_ rfl (zQ:0<4) rfl λH10 m=>?_);replace m:B_ B H0 H10 (vE bb (n+u) a c (es++(A.edges.take 0).map (V' n)) (pB 81 z (n_ A (.slice w A.edges.length C))::rest)):=by
      rw[vQ,rI,yX];exact m
     clear g;(conv=>whnf);refine Ay.mk [26] (λk:Nat=>[A_ k]) (λk G=>k<=A.edges.length/\∃W X,B_ B H0 G (vE bb (n+u) W X (es++(A.edges.take k).map (V' n)) (pB 81 z (n_ A (.slice w A.edges.length C))::rest))) (λk _=>A.edges.length-k) ?_ ?_
     ·(conv=>whnf);exact⟨0,rfl,q_ _,a,c,m⟩
     ·clear m;rintro k G cj ⟨J,W,X,Y⟩;refine fa Dw ?_;refine lT (v:=.slice w A.edges.length C) GJ ((Y.blk 2 rfl).ce rfl) ?_;refine AD.m2 (λhz=>?_) (λhz=>?_)
      ·have⟨e,U⟩:=Ab (l:=A.edges) (k:=k) zO;have b5:e∈A.edges:=e_ U;have d3:=P_.has_iff.1 (S e b5).1;have d4:=P_.has_iff.1 (S e b5).2;have a4:(es++(A.edges.take k).map (V' n)).length=es.length+k:=by simp;omega
       refine fa Dw ?_;refine lT (v:=.slice w A.edges.length C) GJ ((Y.blk 2 rfl).ce rfl) ?_;refine Y' (i:=k) GD (b4.frame (λk J=>(Y.old k J).trans (bv k J).symm)) U rfl ?_;rintro b9 o9 c9 d5 bw ⟨rfl,ck⟩;refine L_ (cs:=Dp e) (by rw[B0];exact Qg) bw zA ?_;refine Ag Zg ([A_ 0,A_ 0,.bool zU]++Ai5 256 (.bool zU)) LO rfl ?_;intro y G1 bx L ap aq;have b8:=(Y.box bx L ap aq).perm (xA _ _);refine A9 (cs:=Dp e) b8 0 (by rw[B0];rfl) rfl (by rw[B0];simp) (EU e) λG2 Z=>?_;rw[Ai (show(Dp e).length=([Value.int .i64 0,A_ 0,.bool zU]++Ai5 256 (.bool zU):List v_).length by rw[B0];simp)]at Z;clear b8;refine fa Ie ?_;refine lT (v:=A_ e.fr) E_ ((Z.blk 0 rfl).ce rfl) ?_;(conv=>whnf);rw[U_ (x:=e.fr+(n:Int)) zO];refine fa Ie ?_;refine AZ Z 0 E_ rfl (by rw[B0];decide) rfl λG3 am=>?_;refine fa Gh ?_;refine lT (v:=A_ e.to) E_ ((am.blk 0 rfl).ce rfl) ?_;(conv=>whnf);rw[U_ (x:=e.to+(n:Int)) zO];refine fa Gh ?_;refine AZ am 0 E_ rfl (by rw[yF,B0];decide) rfl λG4 F=>?_;replace F:B_ B H0 G4 (pB 185 y ([A_ (e.fr+n),A_ (e.to+n),.bool e.sil]++Av e.set)::vE bb (n+u) W X (es++(A.edges.take k).map (V' n)) (pB 81 z (n_ A (.slice w A.edges.length C))::rest)):=F;clear Y Z am;(conv=>whnf);refine Au.cut (α:=Unit) [] (λ_=>[]) (λ_ G=>B_ B H0 G (pB 185 y (Dp (V' n e))::vE bb (n+u) W X (es++(A.edges.take k).map (V' n)) (pB 81 z (n_ A (.slice w A.edges.length C))::rest))) ?_ ?_
       ·refine fa LT ?_;refine lT (v:=.bool e.sil) M' ((F.blk 0 rfl).ce rfl) ?_;have bz:Dp (V' n e)=[A_ (e.fr+n),A_ (e.to+n),.bool e.sil]++Av (if e.sil then 0#256 else e.set):=rfl;rw[bz];cases ab:e.sil with
        | true=>
          refine Ct CC (Tryz.t157.zero.getD undef) rfl (Ai5 256 (.bool zU)) rfl (fa Oa ?_);refine A9 (cs:=Ai5 256 (.bool zU)) F 0 (by rw[uT];rfl) rfl (by rw[M_,uT,Ax];exact(by decide:0+3+256<=3+256)) (by rw[iW];rfl) λG5 s=>?_;(conv=>whnf);refine⟨rfl,(),rfl,?_⟩;rw[I_ rfl,Hw];rw[ab]at s;have e3:Ak ([Value.int .i64 (e.fr+n),A_ (e.to+n),.bool zW]++Av e.set) (0+3) (Ai5 256 (.bool zU))=[A_ (e.fr+n),A_ (e.to+n),.bool zW]++Ai5 256 (.bool zU):=by
           have:=PE (p:=[Value.int .i64 (e.fr+n),A_ (e.to+n),.bool zW]) (r:=Av e.set) (o:=3) (cs:=Ai5 256 (.bool zU)) rfl;rw[K_,this,uT,mK (by rw[Ax];exact N_ _),yX]
          rw[e3]at s;exact s
        | false=>
          (conv=>whnf);refine⟨rfl,(),rfl,?_⟩;rw[ab]at F;exact F
       ·rintro⟨⟩ G5 ak s;clear F;have a0:=s.apart2 (i:=1) (j:=2) rfl rfl zQ;have P:=s.apart2 (i:=0) (j:=2) rfl rfl zQ;have ar:bb<G5.size/\¬O_ (.slice W (es++(A.edges.take k).map (V' n)).length X) bb:=⟨(s.in_ 1 rfl rfl).2,λh=>a0 bb rfl (.inl h)⟩;have c3:y<G5.size/\¬O_ (.slice W (es++(A.edges.take k).map (V' n)).length X) y:=⟨(s.in_ 0 rfl rfl).2,λh=>P y rfl (.inl h)⟩;refine Ap.heldZ (λk2=>k2<G5.size/\¬O_ (.slice W (es++(A.edges.take k).map (V' n)).length X) k2) [10] (sq [0,1,2,3,4,5] (.f 6 (.f 7 (sq [8,9] (.f 10 .e))))) rfl zX (fa Dw ?_);refine D_ (v:=.slice W (es++(A.edges.take k).map (V' n)).length X) GJ ((s.blk 1 rfl).ce rfl) ar ?_;refine L_ (cs:=Dp (V' n e)) (by rw[B0];exact Qg) ((s.blk 0 rfl).cells λj v K=>by rw[K_];exact K) c3 ?_;refine As GD (Dp (V' n e)) rfl (B0 _) zQ zQ ?_;intro q G6 c4 ci au Q;have cd:=s.skip c4 Q;refine⟨Q.mono λk J=>by have:=J.1;omega,?_⟩;refine I9 (ys:=[V' n e]) cd 2 GD rfl (au.cells (o:=0) (cs:=Dp (V' n e)) λj v K=>by rw[K_];exact K) (Ty.reps_one ⟨rfl,show(V' n e).Ok from⟨⟨by show(-9223372036854775808:Int)<=e.fr+(n:Int);omega,by show e.fr+(n:Int)<=(9223372036854775807:Int);omega⟩,⟨by show(-9223372036854775808:Int)<=e.to+(n:Int);omega,by show e.to+(n:Int)<=(9223372036854775807:Int);omega⟩⟩⟩) rfl (λu hu=>zM.1 (EU _) u hu) (by unfold maxLen;rw[a4];simp only[c_,h_];omega) (by rw[a4];simp only[c_,h_];omega) λa9 c9 G9 ce aw=>?_;refine⟨(Q.mono λk J=>by have:=J.1;omega).trans (aw.mono λk J=>⟨by have:=J.1;omega,J.2⟩),?_⟩;refine fa Dw (AZ ce 1 GJ rfl (zQ:3<4) rfl λG10 ae=>?_);have bd:(es++(A.edges.take k).map (V' n))++[V' n e]=es++(A.edges.take (k+1)).map (V' n):=by rw[oL,U];simp
        have el:(es++(A.edges.take k).map (V' n)).length+[V' n e].length=(es++(A.edges.take (k+1)).map (V' n)).length:=by rw[<-bd];simp;omega
        rw[el,bd]at ae;(conv=>whnf);rw[Q_ k zO];exact⟨rfl,k+1,rfl,⟨zO,a9,c9,ae.sub (yR _ _)⟩,zO⟩
      ·obtain rfl:k=A.edges.length:=zO
       rw[uL (N_ _)]at Y;refine Ap.lex rfl zX (fa M7 ?_);refine D_ (v:=A_ s0) E_ (by rw[(Y.blk 2 rfl).cell,<-ai];rfl) zA ?_;(conv=>whnf);rw[U_ (x:=(s0:Int)+(n:Int)) zO];refine fa RF ?_;refine D_ (v:=A_ f0) E_ (by rw[(Y.blk 2 rfl).cell,<-aj];rfl) zA ?_;(conv=>whnf);rw[U_ (x:=(f0:Int)+(n:Int)) zO];(conv=>whnf);exact⟨by rw[show(s0:Int)+(n:Int)=((n+s0:Nat):Int) by omega,show(f0:Int)+(n:Int)=((n+f0:Nat):Int) by omega],W,X,Y.pickN 3 [0,1] zQ⟩
    ·have d6:y.1≠i:=E t y zO hy;have dq:((y.1:Int)==(i:Int))=zU:=beq_eq_false_iff_ne.2 zO;(conv=>whnf);rw[dq];(conv=>whnf);rw[Q_ t zO];exact⟨rfl,t+1,rfl,⟨zO,b⟩,zO⟩
 | @minus a' b' _ _=>
   rw[show d.op=6 from ah];obtain⟨⟨T,hT,E⟩,hw,b0⟩:=I _ (g_.2 rfl);dsimp only at hT E hw b0;have⟨bi,bj,S⟩:=E1.1 hw;have⟨s0,f0,u,ai,aj,hu,k1,k2,k3⟩:=LD hw;have e1:Bo sub (.minus a' b') n=⟨n+s0,n+f0,u,(sub (.minus a' b')).edges.map (V' n)⟩:=by simp only[Bo,ai,aj,hu,zB]
   rw[e1];simp only[ReM.nodes,yT]at hn ag;generalize sub (.minus a' b')=A at hT E hw b0 bi bj S ai aj hu ⊢;have cx:=(V_.1 hT).1;(conv=>whnf);refine Ay.mk [24] (λt:Nat=>[A_ t]) (λt G=>t<=T/\B_ B H0 G (vE bb n a c es (pB 159 x (d_ d)::pB 56 p (zJ (.slice na ns.length nc) AE)::rest))) (λt _=>T-t) ?_ ?_
   ·(conv=>whnf);exact⟨0,rfl,q_ _,D⟩
   ·clear D;rintro t H5 ak ⟨cy,b⟩;have bm:zT ((t:Int)<(xs.length:Int))=zW:=l_;(conv=>whnf);rw[bm];have⟨y,hy⟩:=Ab (l:=xs) (k:=t) zO;refine Y' (i:=t) QM (be.frame b.old) hy rfl ?_;rintro b6 o6 c6 cz bn ⟨ea,ec,rfl,d0,d1⟩;refine fa Wy (D_ (v:=A_ (y.1:Int)) E_ (bn 0 _ rfl) zA ?_);by_cases bo:t=T
    ·subst bo;obtain rfl:y=(i,A):=by rw[hT]at hy;exact(AjO.inj hy).symm
     have dq:((i:Int)==(i:Int))=zW:=beq_self_eq_true _;(conv=>whnf);rw[dq];refine Y' (i:=t) QM (be.frame b.old) hT rfl ?_;rintro b7 o7 c7 d2 bp ⟨w,C,rfl,-,b4⟩;refine fa Wz ?_;refine L_ (cs:=n_ A (.slice w A.edges.length C)) PU (λj v K=>by have:=bp (j+1) v K;rwa [(zO:o7+(j+1)=o7+1+j)]at this) zA ?_;refine Ag _ [A_ 0,A_ 0,A_ 0,.slice zV 0 0] Kd rfl ?_;intro z H8 hz bq br bu;have V:=(b.box hz bq br bu).perm (xA _ _);refine A9 (cs:=n_ A (.slice w A.edges.length C)) V 0 rfl rfl (N_ _) rfl λH9 g=>?_;rw[Ai (show(n_ A (.slice w A.edges.length C)).length=4 from rfl)]at g;replace g:B_ B H0 H9 (vE bb n a c es (pB 81 z (n_ A (.slice w A.edges.length C))::rest)):=g.pickN 5 [1,2,0] zQ;have bv:=b.old;clear b V;refine Ap.heldZ (H_ H9) [9] (sq [0,1,2,3,4,5,6,7,8] (.f 9 .e)) rfl zX (fa CM ?_);refine D_ (v:=A_ n) E_ ((g.blk 0 rfl).ce rfl) (g.in_ 0 rfl rfl).2 ?_;refine fa CM ?_;refine D_ (v:=A_ u) E_ (by rw[(g.blk 2 rfl).cell,<-hu];rfl) (g.in_ 2 rfl rfl).2 ?_;(conv=>whnf);rw[U_ (x:=(n:Int)+(u:Int)) zO,show(n:Int)+(u:Int)=((n+u:Nat):Int) by omega];refine fa CM (AZ g 0 E_ rfl (zQ:0<4) rfl λH10 m=>?_);replace m:B_ B H0 H10 (vE bb (n+u) a c (es++(A.edges.take 0).map (V' n)) (pB 81 z (n_ A (.slice w A.edges.length C))::rest)):=by
      rw[vQ,rI,yX];exact m
     clear g;(conv=>whnf);refine Ay.mk [26] (λk:Nat=>[A_ k]) (λk G=>k<=A.edges.length/\∃W X,B_ B H0 G (vE bb (n+u) W X (es++(A.edges.take k).map (V' n)) (pB 81 z (n_ A (.slice w A.edges.length C))::rest))) (λk _=>A.edges.length-k) ?_ ?_
     ·(conv=>whnf);exact⟨0,rfl,q_ _,a,c,m⟩
     ·clear m;rintro k G cj ⟨J,W,X,Y⟩;refine fa Dw ?_;refine lT (v:=.slice w A.edges.length C) GJ ((Y.blk 2 rfl).ce rfl) ?_;refine AD.m2 (λhz=>?_) (λhz=>?_)
      ·have⟨e,U⟩:=Ab (l:=A.edges) (k:=k) zO;have b5:e∈A.edges:=e_ U;have d3:=P_.has_iff.1 (S e b5).1;have d4:=P_.has_iff.1 (S e b5).2;have a4:(es++(A.edges.take k).map (V' n)).length=es.length+k:=by simp;omega
       refine fa Dw ?_;refine lT (v:=.slice w A.edges.length C) GJ ((Y.blk 2 rfl).ce rfl) ?_;refine Y' (i:=k) GD (b4.frame (λk J=>(Y.old k J).trans (bv k J).symm)) U rfl ?_;rintro b9 o9 c9 d5 bw ⟨rfl,ck⟩;refine L_ (cs:=Dp e) (by rw[B0];exact Qg) bw zA ?_;refine Ag Zg ([A_ 0,A_ 0,.bool zU]++Ai5 256 (.bool zU)) LO rfl ?_;intro y G1 bx L ap aq;have b8:=(Y.box bx L ap aq).perm (xA _ _);refine A9 (cs:=Dp e) b8 0 (by rw[B0];rfl) rfl (by rw[B0];simp) (EU e) λG2 Z=>?_;rw[Ai (show(Dp e).length=([Value.int .i64 0,A_ 0,.bool zU]++Ai5 256 (.bool zU):List v_).length by rw[B0];simp)]at Z;clear b8;refine fa Ie ?_;refine lT (v:=A_ e.fr) E_ ((Z.blk 0 rfl).ce rfl) ?_;(conv=>whnf);rw[U_ (x:=e.fr+(n:Int)) zO];refine fa Ie ?_;refine AZ Z 0 E_ rfl (by rw[B0];decide) rfl λG3 am=>?_;refine fa Gh ?_;refine lT (v:=A_ e.to) E_ ((am.blk 0 rfl).ce rfl) ?_;(conv=>whnf);rw[U_ (x:=e.to+(n:Int)) zO];refine fa Gh ?_;refine AZ am 0 E_ rfl (by rw[yF,B0];decide) rfl λG4 F=>?_;replace F:B_ B H0 G4 (pB 185 y ([A_ (e.fr+n),A_ (e.to+n),.bool e.sil]++Av e.set)::vE bb (n+u) W X (es++(A.edges.take k).map (V' n)) (pB 81 z (n_ A (.slice w A.edges.length C))::rest)):=F;clear Y Z am;(conv=>whnf);refine Au.cut (α:=Unit) [] (λ_=>[]) (λ_ G=>B_ B H0 G (pB 185 y (Dp (V' n e))::vE bb (n+u) W X (es++(A.edges.take k).map (V' n)) (pB 81 z (n_ A (.slice w A.edges.length C))::rest))) ?_ ?_
       ·refine fa LT ?_;refine lT (v:=.bool e.sil) M' ((F.blk 0 rfl).ce rfl) ?_;have bz:Dp (V' n e)=[A_ (e.fr+n),A_ (e.to+n),.bool e.sil]++Av (if e.sil then 0#256 else e.set):=rfl;rw[bz];cases ab:e.sil with
        | true=>
          refine Ct CC (Tryz.t157.zero.getD undef) rfl (Ai5 256 (.bool zU)) rfl (fa Oa ?_);refine A9 (cs:=Ai5 256 (.bool zU)) F 0 (by rw[uT];rfl) rfl (by rw[M_,uT,Ax];exact(by decide:0+3+256<=3+256)) (by rw[iW];rfl) λG5 s=>?_;(conv=>whnf);refine⟨rfl,(),rfl,?_⟩;rw[I_ rfl,Hw];rw[ab]at s;have e3:Ak ([Value.int .i64 (e.fr+n),A_ (e.to+n),.bool zW]++Av e.set) (0+3) (Ai5 256 (.bool zU))=[A_ (e.fr+n),A_ (e.to+n),.bool zW]++Ai5 256 (.bool zU):=by
           have:=PE (p:=[Value.int .i64 (e.fr+n),A_ (e.to+n),.bool zW]) (r:=Av e.set) (o:=3) (cs:=Ai5 256 (.bool zU)) rfl;rw[K_,this,uT,mK (by rw[Ax];exact N_ _),yX]
          rw[e3]at s;exact s
        | false=>
          (conv=>whnf);refine⟨rfl,(),rfl,?_⟩;rw[ab]at F;exact F
       ·rintro⟨⟩ G5 ak s;clear F;have a0:=s.apart2 (i:=1) (j:=2) rfl rfl zQ;have P:=s.apart2 (i:=0) (j:=2) rfl rfl zQ;have ar:bb<G5.size/\¬O_ (.slice W (es++(A.edges.take k).map (V' n)).length X) bb:=⟨(s.in_ 1 rfl rfl).2,λh=>a0 bb rfl (.inl h)⟩;have c3:y<G5.size/\¬O_ (.slice W (es++(A.edges.take k).map (V' n)).length X) y:=⟨(s.in_ 0 rfl rfl).2,λh=>P y rfl (.inl h)⟩;refine Ap.heldZ (λk2=>k2<G5.size/\¬O_ (.slice W (es++(A.edges.take k).map (V' n)).length X) k2) [10] (sq [0,1,2,3,4,5] (.f 6 (.f 7 (sq [8,9] (.f 10 .e))))) rfl zX (fa Dw ?_);refine D_ (v:=.slice W (es++(A.edges.take k).map (V' n)).length X) GJ ((s.blk 1 rfl).ce rfl) ar ?_;refine L_ (cs:=Dp (V' n e)) (by rw[B0];exact Qg) ((s.blk 0 rfl).cells λj v K=>by rw[K_];exact K) c3 ?_;refine As GD (Dp (V' n e)) rfl (B0 _) zQ zQ ?_;intro q G6 c4 ci au Q;have cd:=s.skip c4 Q;refine⟨Q.mono λk J=>by have:=J.1;omega,?_⟩;refine I9 (ys:=[V' n e]) cd 2 GD rfl (au.cells (o:=0) (cs:=Dp (V' n e)) λj v K=>by rw[K_];exact K) (Ty.reps_one ⟨rfl,show(V' n e).Ok from⟨⟨by show(-9223372036854775808:Int)<=e.fr+(n:Int);omega,by show e.fr+(n:Int)<=(9223372036854775807:Int);omega⟩,⟨by show(-9223372036854775808:Int)<=e.to+(n:Int);omega,by show e.to+(n:Int)<=(9223372036854775807:Int);omega⟩⟩⟩) rfl (λu hu=>zM.1 (EU _) u hu) (by unfold maxLen;rw[a4];simp only[c_,h_];omega) (by rw[a4];simp only[c_,h_];omega) λa9 c9 G9 ce aw=>?_;refine⟨(Q.mono λk J=>by have:=J.1;omega).trans (aw.mono λk J=>⟨by have:=J.1;omega,J.2⟩),?_⟩;refine fa Dw (AZ ce 1 GJ rfl (zQ:3<4) rfl λG10 ae=>?_);have bd:(es++(A.edges.take k).map (V' n))++[V' n e]=es++(A.edges.take (k+1)).map (V' n):=by rw[oL,U];simp
        have el:(es++(A.edges.take k).map (V' n)).length+[V' n e].length=(es++(A.edges.take (k+1)).map (V' n)).length:=by rw[<-bd];simp;omega
        rw[el,bd]at ae;(conv=>whnf);rw[Q_ k zO];exact⟨rfl,k+1,rfl,⟨zO,a9,c9,ae.sub (yR _ _)⟩,zO⟩
      ·obtain rfl:k=A.edges.length:=zO
       rw[uL (N_ _)]at Y;refine Ap.lex rfl zX (fa M7 ?_);refine D_ (v:=A_ s0) E_ (by rw[(Y.blk 2 rfl).cell,<-ai];rfl) zA ?_;(conv=>whnf);rw[U_ (x:=(s0:Int)+(n:Int)) zO];refine fa RF ?_;refine D_ (v:=A_ f0) E_ (by rw[(Y.blk 2 rfl).cell,<-aj];rfl) zA ?_;(conv=>whnf);rw[U_ (x:=(f0:Int)+(n:Int)) zO];(conv=>whnf);exact⟨by rw[show(s0:Int)+(n:Int)=((n+s0:Nat):Int) by omega,show(f0:Int)+(n:Int)=((n+f0:Nat):Int) by omega],W,X,Y.pickN 3 [0,1] zQ⟩
    ·have d6:y.1≠i:=E t y zO hy;have dq:((y.1:Int)==(i:Int))=zU:=beq_eq_false_iff_ne.2 zO;(conv=>whnf);rw[dq];(conv=>whnf);rw[Q_ t zO];exact⟨rfl,t+1,rfl,⟨zO,b⟩,zO⟩
def xG(sub:ReM->P_)(r:ReM):P_:=⟨((Bo sub r 0).u:Nat),((Bo sub r 0).p:Nat),((Bo sub r 0).q:Nat),(Bo sub r 0).es⟩
def VT(sub:ReM->P_)(r:ReM)(H H':Aa)(u:v_):Prop:=
 if 65536<(Bo sub r 0).u then∃l:List v_,l.length=4/\l.all (·.oneCell')=zW/\u= .tuple #[.agg l.toArray,A_ 40]
 else∃ea ec,u= .tuple #[.agg (n_ (xG sub r) (.slice ea (xG sub r).edges.length ec)).toArray,A_ 0]/\X_ Eg none_ H' H.size 185 (.slice ea (xG sub r).edges.length ec) (xG sub r).edges
abbrev JC:List v_:=[A_ 0,A_ 0,A_ 0,.slice zV 0 0]
def eU{AE:Int}{sub:ReM->P_}{xs:List (Nat×P_)}{sc:Nat}(V:r.nodes<=2000)(K:∀k,S k->k<H.size)(b:ReV S H v ns AE)(m:b_ pW S H sa sc xs)(o:xs.length<=4194304)(O:Bj ns r i)(L:D7 ns r i l)(e:JK sub xs l):
  Aj prog 86 #[v,A_ i,.slice sa xs.length sc] H λu H'=>C_ (H_ H) H H'/\VT sub r H H' u:=by obtain⟨-,-,-,-,W,M⟩:=GA L e 0;have P:(Bo sub r 0).u<=131072000:=zO;obtain⟨Q,na,nc,rfl,R⟩:=b;refine Aj.of_vc func86 rfl (call86 _) (Cd (zJ (.slice na ns.length nc) AE) rfl ?_);intro p H1 T q s t;have J_:=(St.nil H).box T q s t;refine Ag _ JC Kd rfl ?_;intro y H2 U w x z;have A:=J_.box U w x z;refine Az underlying81 rfl _ Kd (rP 0 (.slice zV 0 0)) rfl (Cd (rP 0 (.slice zV 0 0)) rfl ?_);intro bb H3 B C D E;have h:St H H3 (vE bb 0 zV 0 [] [pB 56 p (zJ (.slice na ns.length nc) AE),pB rB y JC]):=((A.box B C D E).nils Eg 185).pick [2,3,0,1] zQ;refine L_ (cs:=zJ (.slice na ns.length nc) AE) Ed ((h.blk 2 rfl).cells λj v b=>by rw[K_];exact b) zA ?_;have F:ReV (H_ H) H (.agg (zJ (.slice na ns.length nc) AE).toArray) ns AE:=⟨Q,na,nc,rfl,R.mono λk G=>K k G⟩;refine Ae.mk (ZW (n:=0) (es:=[]) F (m.mono λk G=>K k G) o r.nodes r (N_ _) O L e h zO (by simp only[h_];omega)) ?_;rintro _ H4 ⟨rfl,f,g,c⟩;rw[tL,K_]at c;refine fa CM ?_;refine lT (v:=A_ ((Bo sub r 0).u:Int)) E_ ((c.blk 0 rfl).ce rfl) ?_;by_cases N:65536<(Bo sub r 0).u;{have I:zT ((65536:Int)<((Bo sub r 0).u:Int))=zW:=l_;(conv=>whnf);rw[I];refine Az underlying81 rfl _ Kd JC rfl (A9 (cs:=JC) c 3 rfl rfl (N_ _) rfl λH7 a=>?_);rw[Ai (show JC.length=JC.length from rfl)]at a;refine L_ (cs:=JC) PU ((a.blk 3 rfl).cells λj v b=>by rw[K_];exact b) zA ?_;(conv=>whnf);refine⟨a.old,?_⟩;unfold VT;rw[I_ N];exact⟨JC,rfl,rfl,rfl⟩};{have I:zT ((65536:Int)<((Bo sub r 0).u:Int))=zU:=Z_;(conv=>whnf);rw[I];refine fa M7 (AZ c 0 E_ rfl (zQ:1<4) rfl λH5 J=>(fa RF (AZ J 0 E_ rfl (zQ:2<4) rfl λH6 d=>?_)));replace d:St H H6 [pB rB bb (n_ (xG sub r) (.slice f (xG sub r).edges.length g)),pS Eg 185 f (xG sub r).edges.length g (xG sub r).edges,pB 56 p (zJ (.slice na ns.length nc) AE),pB rB y JC]:=d;refine L_ (cs:=n_ (xG sub r) (.slice f (xG sub r).edges.length g)) PU ((d.blk 0 rfl).cells λj v b=>by rw[K_];exact b) zA ?_;refine A9 (cs:=n_ (xG sub r) (.slice f (xG sub r).edges.length g)) d 3 rfl rfl (N_ _) rfl λH7 a=>?_;rw[Ai (show(n_ (xG sub r) (.slice f (xG sub r).edges.length g)).length=JC.length from rfl)]at a;refine L_ (cs:=n_ (xG sub r) (.slice f (xG sub r).edges.length g)) PU ((a.blk 3 rfl).cells λj v b=>by rw[K_];exact b) zA ?_;(conv=>whnf);refine⟨a.old,?_⟩;unfold VT;rw[G_ N];exact⟨f,g,rfl,St.own a 1 rfl⟩}
def pG(te:x_)(b:Nat)(w0:v_)(vs:List v_)(ss:Nat->I7):Pc where
 foot k:=k=b\/∃(i:Nat) (v:v_),vs[i]?=zY v/\O_ v k
 ok H:=R_ H b te (w0::vs)/\(∀(i:Nat) (v:v_),vs[i]?=zY v->(ss i).ok H v)/\(∀(i j:Nat) (v w:v_) (k:Nat),i≠j->vs[i]?=zY v->vs[j]?=zY w->O_ v k->¬O_ w k)/\∀(i:Nat) (v:v_),vs[i]?=zY v->¬O_ v b
 fr h hp:=⟨hp.1.agr h (.inl rfl),λi v hv=>(ss i).fr h (λk hk=>.inr ⟨i,v,hv,hk⟩) (hp.2.1 i v hv),hp.2.2⟩
def B_.gNew(e:B_ B H0 H ps)(i:Nat)(f:ps[i]?=zY (pB te b (w0::Ai5 n (.slice zV 0 0))))(hs:∀j H,(ss j).ok H (.slice zV 0 0)):B_ B H0 H (ps.set i (pG te b w0 (Ai5 n (.slice zV 0 0)) ss)):=by have d:∀(j:Nat) (v:v_),(Ai5 n (Value.slice zV 0 0))[j]?=zY v->v= .slice zV 0 0:=λj v c=>by{exact List.eq_of_mem_replicate (e_ c)};refine e.upd i f (C_.refl _ _) (pG te b w0 (Ai5 n (.slice zV 0 0)) ss) ⟨e.blk i f,λj v c=>by rw[d j v c];exact hs j H,λi j v w k _ c g a=>?_,λj v c a=>?_⟩ (λk a=>?_) (λk a=>?_) (N_ _);{rw[d i v c]at a;exact absurd a Ii};{rw[d j v c]at a;exact Ii a};{rcases a with a | ⟨j,v,c,a⟩;{exact .inl a};{rw[d j v c]at a;exact absurd a Ii}};{rcases a with a | ⟨j,v,c,a⟩;{exact(e.in_ i f a).2};{rw[d j v c]at a;exact absurd a Ii}}
def B_.gblk(a:B_ B H0 H ps)(i:Nat)(c:ps[i]?=zY (pG te b w0 vs ss)):R_ H b te (w0::vs):=(a.at_ i c).1
def B_.gview{α:Type}{T:Ty α}{e:x_}{xs:List α}(c:B_ B H0 H ps)(i:Nat)(d:ps[i]?=zY (pG te b w0 vs ss))(g:vs[j]?=zY v)(hs:ss j=HS T e xs):∃a cap,v= .slice a xs.length cap/\b_ T (H_ H) H a cap xs:=by have h:=(c.at_ i d).2.1 j v g;rw[hs]at h;obtain⟨a,cap,l,m,-⟩:=X_.view (S':=H_ H) (h:X_ T none_ H 0 e v xs) (λk n=>(c.in_ i d (.inr ⟨j,v,g,n⟩)).2) (λ_ f=>f.elim);exact⟨a,cap,l,m⟩
def lR(te:x_)(b:Nat)(w0:v_)(vs:List v_)(ss:Nat->I7)(j:Nat)(s:I7)(v':v_):Pc where
 foot k:=k=b\/O_ v' k\/∃(i:Nat) (v:v_),i≠j/\vs[i]?=zY v/\O_ v k
 ok H:=R_ H b te (w0::vs)/\j<vs.length/\s.ok H v'/\(∀(i:Nat) (v:v_),i≠j->vs[i]?=zY v->(ss i).ok H v)/\(∀(i l:Nat) (v w:v_) (k:Nat),i≠j->l≠j->i≠l->vs[i]?=zY v->vs[l]?=zY w->O_ v k->¬O_ w k)/\
  (∀(i:Nat) (v:v_) (k:Nat),i≠j->vs[i]?=zY v->O_ v k->¬O_ v' k)/\(∀(i:Nat) (v:v_),i≠j->vs[i]?=zY v->¬O_ v b)/\¬O_ v' b
 fr h hp:=⟨hp.1.agr h (.inl rfl),hp.2.1,s.fr h (λk hk=>.inr (.inl hk)) hp.2.2.1,λi v hi hv=>(ss i).fr h (λk hk=>.inr (.inr ⟨i,v,hi,hv,hk⟩)) (hp.2.2.2.1 i v hi hv),hp.2.2.2.2⟩
def AiC{α:Type}{T:Ty α}{e:x_}{xs:List α}{G ty q o m y by_:Nat}{ys:List α}{ds:List v_}{K:v_->Aa->Prop}(D:B_ B H0 H ps)(i:Nat)(Q:SlT P G e T.size by_ z)(E:ps[i]?=zY (pG te b w0 vs ss))(f:vs[j]?=zY v)(hs:ss j=HS T e xs)
  (R:Bn H q o ds) (U:T.reps none_ H ds ys) (V:m=ys.length) (W:∀u∈ds,u.oneCell'=zW) (I:xs.length+ys.length<=maxLen) (hby:(xs.length+ys.length)*by_<=140737488355328)
  (k:∀x H',B_ B H0 H' (ps.set i (lR te b w0 vs ss j (HS T e (xs++ys)) x))->C_ (λk=>k<H.size/\¬O_ v k) H H'->x.oneCell'=zW->K x H'):
  BV P (Builtin.append_ #[G,G] ty [v,.slice (zY ⟨q,o,zV⟩) m y].toArray) H K:=by have⟨A,g,p,C⟩:=D.at_ i E;have n:=g j v f;rw[hs]at n;have J:=(V_.1 f).1;have L:b<H.size:=(D.in_ i E (.inl rfl)).2;have r:∀(l:Nat) (w:v_),vs[l]?=zY w->∀k,O_ w k->k<H.size:=λl w c k a=>(D.in_ i E (.inr ⟨l,w,c,a⟩)).2;refine BU (T:=T) (S:=none_) (lo:=0) Q (n:X_ T none_ H 0 e v xs) (q_ _) (λk a=>a.elim) R U V W I hby ?_;intro x H' s d M t;refine k x H' (D.upd i E (d.mono λk a=>⟨a.1,λC=>a.2 (.inr ⟨j,v,f,C⟩)⟩) (lR te b w0 vs ss j (HS T e (xs++ys)) x) ⟨A.agr d ⟨L,C j v f⟩,J,s,λl w F c=>(ss l).fr d (λk a=>⟨r l w c k a,p l j w v k F c f a⟩) (g l w c),λl X w Y k _ _ N=>p l X w Y k N,λl w k F c a O=>?_,λl w _ c=>C l w c,λa=>?_⟩ (λk a=>?_) (λk a=>?_) M) d s.one;{rcases t k O with h | h;{exact p l j w v k F c f a h};{have:=r l w c k a;omega}};{rcases t b a with h | h;{exact C j v f h};{omega}};{rcases a with a | a | ⟨l,w,-,c,a⟩;{exact .inl (.inl a)};{rcases t k a with h | h;{exact .inl (.inr ⟨j,v,f,h⟩)};{exact .inr h}};{exact .inl (.inr ⟨l,w,c,a⟩)}};{rcases a with a | a | ⟨l,w,F,c,a⟩;{have:k=b:=a;omega};{exact(s.lt a).2};{have:=r l w c k a;omega}}
def kC{o:Nat}{s:I7}{K:Aa->Prop}(p:B_ B H0 H ps)(i:Nat)(O:Cf P t)(q:ps[i]?=zY (lR te b w0 vs ss j s v))(Q:o=j+1)(R:v.oneCell'=zW)
  (k:∀H',B_ B H0 H' (ps.set i (pG te b w0 (vs.set j v) (Sv ss j s)))->K H'):Dm P (Instr.storeAt t (.pointer (zY ⟨b,o,zV⟩)) v) H K:=by subst Q;have⟨r,D,E,u,F,f,N,x⟩:=p.at_ i q;refine tQ O r (by simp only[c_];omega) R ?_;intro H' y h G;rw[List.set_cons_succ]at y;have n:∀(l:Nat) (w:v_),(vs.set j v)[l]?=zY w->(l=j/\w=v)\/(l≠j/\vs[l]?=zY w):=λl w a=>by{by_cases d:l=j;{subst d;rw[List.getElem?_set_self D]at a;cases a;exact .inl ⟨rfl,rfl⟩};{rw[List.getElem?_set_ne (Ne.symm d)]at a;exact .inr ⟨d,a⟩}};refine k H' (p.upd i q (h.mono λk c e=>c.2 (.inl e)) (pG te b w0 (vs.set j v) (Sv ss j s)) ⟨y,λl w a=>?_,λl I w J L z a M c m=>?_,λl w a=>?_⟩ (λk c=>?_) (λk c=>?_) zO);{rcases n l w a with⟨rfl,rfl⟩ | ⟨d,a⟩;{rw[IT];exact s.fr h (λk c e=>x (e ▸ c)) E};{rw[KQ d];exact(ss l).fr h (λk c e=>N l w d a (e ▸ c)) (u l w d a)}};{rcases n l w a with⟨rfl,rfl⟩ | ⟨d,A⟩<;>rcases n I J M with⟨rfl,rfl⟩ | ⟨C,g⟩;{exact z rfl};{exact f I J L C g m c};{exact f l w L d A c m};{exact F l I w J L d C z A g c m}};{rcases n l w a with⟨rfl,rfl⟩ | ⟨d,a⟩;{exact x};{exact N l w d a}};{refine .inl ?_;rcases c with c | ⟨l,w,a,c⟩;{exact .inl c};{rcases n l w a with⟨rfl,rfl⟩ | ⟨d,a⟩;{exact .inr (.inl c)};{exact .inr (.inr ⟨l,w,d,a,c⟩)}}};{rw[G];rcases c with c | ⟨l,w,a,c⟩;{exact(p.in_ i q (.inl c)).2};{rcases n l w a with⟨rfl,rfl⟩ | ⟨d,a⟩;{exact(p.in_ i q (.inr (.inl c))).2};{exact(p.in_ i q (.inr (.inr ⟨l,w,d,a,c⟩))).2}}}
def kB{u:v_}{K:Aa->Prop}(h:B_ B H0 H ps)(i:Nat)(q:Cf P t)(j:ps[i]?=zY (pG te b w0 vs ss))(r:u.oneCell'=zW)
  (k:∀H',B_ B H0 H' (ps.set i (pG te b u vs ss))->K H'):Dm P (Instr.storeAt t (Y_ b) u) H K:=by have⟨d,e,m,o⟩:=h.at_ i j;refine tQ q d (by simp only[c_];omega) r ?_;intro H' f g n;rw[List.set_cons_zero]at f;exact k H' (h.upd i j (g.mono λk a c=>a.2 (.inl c)) (pG te b u vs ss) ⟨f,λl w p=>(ss l).fr g (λk a c=>o l w p (c ▸ a)) (e l w p),m,o⟩ (λk a=>.inl a) (λk a=>by rw[n];exact(h.in_ i j a).2) zO)
open Go.Lib
section
open Go.RowKit
abbrev Aa3:String:= "internal/strconv.uint64pow10"
def GH(P:w_)(H:Aa):Prop:=∀w:y_,w.heap=H->TabIs P w Aa3 .u64 pow10Tab
def Xe{w w':y_}{a:String}{cs:Array v_}(h:w.var? P a=zY cs)(e:C_ (H_ w.heap) w.heap w'.heap):w'.var? P a=zY cs:=by unfold World.var? at*;cases d:P.globalNamed a with|none=>simp[d]at h|some g=>{simp only[d,xO]at h ⊢;have b:g<w.heap.size:=by{rcases Nat.lt_or_ge g w.heap.size with c | c;{exact c};{rw[Array.getElem?_eq_none c]at h;simp at h}};rw[e g b];exact h}
def GH.agr{H':Aa}(h:GH P H)(a:C_ (H_ H) H H'):GH P H':=by intro w b;subst b;have:=h {w with heap:=H} rfl;exact Xe (w:={w with heap:=H}) (w':=w) this a
structure Yp(P:w_)(f:FuncId)(e:x_):Prop where
 call:∀(args:Array v_) (w:y_),(callFunc f args).run P w= .ok (.enter f args) w
 run_:∀(B n:Nat) (i:Int) (sv:v_) (xs:List v_) (w:y_),-9223372036854775808<=i->i<=9223372036854775807->w.ownsRow B e 1 sv n xs->B<=w.heap.size->n+21<=140737488355328->TabBelow P B w Aa3 .u64 pow10Tab->
  Calls P f #[sv,A_ i,A_ 10] w λe' w'=>∃v',e'= .returned v'/\w'.ownsRow B e 1 v' (n+(itoa i).length) (xs++Go.Lib.byteCells (itoa i))/\Below B w w'/\OthersKept e zV w w'
abbrev tU8:Ty Int:=HT .u8
def KS(i:Int):List Int:=(itoa i).map λb=>(b.toNat:Int)
def Zd(i:Int):(KS i).length=(itoa i).length:=k_ _
def Si{S:Nat->Prop}{H:Aa}:∀{xs:List Int} {cs:List v_},tU8.reps S H cs xs->cs=xs.map (Value.int .u8)/\∀x∈xs,zI .u8 x
 | [],_,h=>by cases h;exact⟨rfl,λx b=>by cases b⟩
 | x::xs,_,h=>by
   obtain⟨c,r,rfl,⟨rfl,d⟩,e⟩:=h;obtain⟨rfl,f⟩:=Si e;refine⟨rfl,λy a=>?_⟩;rcases xU.1 a with rfl | a
   ·exact d
   ·exact f y a
def Xd{S:Nat->Prop}{H:Aa}:∀{xs:List Int},(∀x∈xs,zI .u8 x)->tU8.reps S H (xs.map (Value.int .u8)) xs
 | [],_=>rfl
 | x::xs,h=>⟨[.int .u8 x],xs.map (Value.int .u8),rfl,⟨rfl,h x (by simp)⟩,Xd λy a=>h y (by simp[a])⟩
def UQ(i:Int):Go.Lib.byteCells (itoa i)=(KS i).map (Value.int .u8):=by unfold Go.Lib.byteCells KS;rw[mO];rfl
def Aj3(b:UInt8):zI .u8 (b.toNat:Int):=Vg (UInt8.toNat_lt b)
def mU{f:FuncId}{e:x_}{a:Option Addr}{cap:Nat}{i:Int}{K:v_->Aa->Prop}(T:Yp P f e)(A:St H0 H [pS tU8 e a n cap xs])(B:GH P H0)(h0: -9223372036854775808<=i)(U:i<=9223372036854775807)(V:xs.length+21<=140737488355328)
  (k:∀a' d H',St H0 H' [pS tU8 e a' (xs++KS i).length d (xs++KS i)]->K (.slice a' (xs++KS i).length d) H'):Ae P f #[.slice a n cap,A_ i,A_ 10] H K:=by
 obtain⟨C,-⟩:=A.at_ 0 rfl;obtain⟨cs,⟨W,m⟩,r⟩:=C;obtain⟨rfl,D⟩:=Si r;refine⟨λw X=>⟨T.call _ w,?_⟩⟩;subst X;have Y:n=xs.length:=by{rcases m with⟨h,o⟩ | ⟨b,c,l,h,-⟩;{injection h with e1 e2 e3;omega};{injection h}};have E:w.ownsRow H0.size e 1 (.slice a n cap) xs.length (xs.map (Value.int .u8)):=by{refine⟨by rw[k_,zG],?_⟩;rcases m with⟨h,o⟩ | ⟨b,c,l,h,-,F,s,t,u,v⟩;{exact .inl ⟨h,o⟩};{have y:H0.size<=b:=by{have:=(A.in_ 0 rfl (k:=b) (.inl ⟨0,n,cap,by rw[h];injection h with e1 e2 e3;subst e1;subst e2;subst e3;rfl⟩)).1;unfold H_ at this;omega};exact .inr ⟨b,c,l.toArray,h,y,F,s,t,by rw[uA];exact u,v⟩}};have G:TabBelow P H0.size w Aa3 .u64 pow10Tab:=λp F=>(B.agr (A.old.trans (show C_ (H_ H0) w.heap p.heap from λj N=>F.block j N))) p rfl;refine(T.run_ H0.size xs.length i _ _ w h0 U E (Bl A.old) V G).mono ?_;rintro _ p ⟨O,rfl,z,g,-⟩;have⟨I,J⟩:=z;have L:xs.length+(itoa i).length=(xs++KS i).length:=by rw[M_,Zd]
 rw[L]at J I;have Q:C_ (H_ H0) H0 p.heap:=A.old.trans (show C_ (H_ H0) w.heap p.heap from λj N=>g.block j N);have q:tU8.reps none_ p.heap (xs.map (Value.int .u8)++Go.Lib.byteCells (itoa i)) (xs++KS i):=by{rw[UQ,<-xF];refine Xd λx M=>?_;rcases X'.1 M with M | M;{exact D x M};{obtain⟨b,-,rfl⟩:=List.mem_map.1 M;exact Aj3 b}};have mk:∀a' d,O= .slice a' (xs++KS i).length d->X_ tU8 none_ p.heap H0.size e O (xs++KS i)->∃H',H'=p.heap/\St H0 H' [pS tU8 e a' (xs++KS i).length d (xs++KS i)]:=λa' d Z hs=>by{subst Z;refine⟨_,rfl,?_⟩;have⟨a2,c2,e2,R⟩:=(St.nil H0).got Q hs;injection e2 with e21 e22 e23;subst e21;subst e23;exact R};have hs:X_ tU8 none_ p.heap H0.size e O (xs++KS i):=by{refine⟨_,⟨I,?_⟩,q⟩;rcases J with⟨h,o⟩ | ⟨b,c,l,h,y,F,s,t,u,v⟩;{exact .inl ⟨h,o⟩};{exact .inr ⟨b,c,l.toList,h,y,F,s,t,by rw[tG];exact u,v⟩}};obtain⟨a',d,rfl⟩:=hs.hull;obtain⟨_,rfl,S⟩:=mk a' d rfl hs;exact⟨_,rfl,⟨g.os.symm ▸ rfl,g.tape.symm ▸ rfl,g.output.symm ▸ rfl⟩,k a' d _ S⟩
end
def RL:Go.Shelf.Ren:=⟨fun | 176=>141 | 249=>182 | 288=>208 | 283=>225 | 284=>226 | 285=>227 | 286=>228 | 129=>207 | 317=>236 | 318=>237 | 319=>238 | 320=>239 | 337=>243 | 338=>244 | n=>n,fun | 37=>201 | 2=>2 | 3=>3 | 53=>99 | 4=>4 | 9=>9 | 171=>350 | 0=>0 | 173=>352 | 212=>362 | 51=>332 | 5=>5 | 20=>20 | 213=>363 | 46=>218 | 232=>367 | 233=>368 | n=>n,fun | 17=>1 | 18=>3 | 19=>4 | n=>n⟩
def ZE:Go.Proofs.LaysM.n176 prog RL:={
 mixed:=zX
 f129:=func207.trans (congrArg zY zX)
 f176:=func141.trans (congrArg zY zX)
 f249:=func182.trans (congrArg zY zX)
 f283:=func225.trans (congrArg zY zX)
 f284:=func226.trans (congrArg zY zX)
 f285:=func227.trans (congrArg zY zX)
 f286:=func228.trans (congrArg zY zX)
 f288:=func208.trans (congrArg zY zX)
 f317:=func236.trans (congrArg zY zX)
 f318:=func237.trans (congrArg zY zX)
 f319:=func238.trans (congrArg zY zX)
 f320:=func239.trans (congrArg zY zX)
 f337:=func243.trans (congrArg zY zX)
 f338:=func244.trans (congrArg zY zX)
 t0:=underlying0
 a0:=isAgg0
 z0:=sizeOf0
 v0:=zeroValue0
 t2:=underlying2
 a2:=isAgg2
 z2:=sizeOf2
 v2:=zeroValue2
 t3:=underlying3
 a3:=isAgg3
 z3:=sizeOf3
 v3:=zeroValue3
 t4:=underlying4
 a4:=isAgg4
 z4:=sizeOf4
 v4:=zeroValue4
 t5:=underlying5
 a5:=isAgg5
 z5:=sizeOf5
 v5:=zeroValue5
 t9:=underlying9
 a9:=isAgg9
 z9:=sizeOf9
 v9:=zeroValue9
 t20:=underlying20
 a20:=isAgg20
 z20:=sizeOf20
 v20:=zeroValue20
 t37:=underlying201
 a37:=isAgg201
 z37:=sizeOf201
 v37:=zeroValue201
 t46:=underlying218
 a46:=isAgg218
 z46:=sizeOf218
 v46:=zeroValue218
 t51:=underlying332
 a51:=isAgg332
 z51:=sizeOf332
 v51:=zeroValue332
 t53:=underlying99
 a53:=isAgg99
 z53:=sizeOf99
 v53:=zeroValue99
 t171:=underlying350
 a171:=isAgg350
 z171:=sizeOf350
 v171:=zeroValue350
 t173:=underlying352
 a173:=isAgg352
 z173:=sizeOf352
 v173:=zeroValue352
 t212:=underlying362
 a212:=isAgg362
 z212:=sizeOf362
 v212:=zeroValue362
 t213:=underlying363
 a213:=isAgg363
 z213:=sizeOf363
 t232:=underlying367
 a232:=isAgg367
 z232:=sizeOf367
 v232:=zeroValue367
 t233:=underlying368
 a233:=isAgg368
 z233:=sizeOf368
 v233:=zeroValue368
 g17:=zX
 g18:=zX
 g19:=zX
 i0:=zX
 i2:=zX
 i3:=zX
 i4:=zX
 i5:=zX
 i9:=zX
 i20:=zX
 i37:=zX
 i46:=zX
 i51:=zX
 i53:=zX
 i171:=zX
 i173:=zX
 i212:=zX
 i232:=zX
 i233:=zX
 m17:=zX
 m18:=zX
 m19:=by kernel_rfl}
def eF:Yp prog 141 5 where
 call:=call141
 run_ B n i sv xs w h0 h1 hown hB hlim htab:=Go.Proofs.Any.strconv_AppendInt_10 ZE B n i h0 h1 sv xs w hown hB hlim htab
def Ff(q:Int):List Nat:=(Go.Lib.itoa q).map UInt8.toNat
def aP(q:Int):KS q=(Ff q).map fun(x:Nat)=>(x:Int):=by unfold KS Ff;rw[mO];rfl
def PP(n:Nat)(l:List Nat):Nat:=l.foldl (λn b=>10*n+(b-48)) n
def Th(u:Nat):(∀b∈(Go.Lib.decDigits u).map UInt8.toNat,48<=b/\b<=57)/\PP 0 ((Go.Lib.decDigits u).map UInt8.toNat)=u:=by induction u using Nat.strongRecOn with|_ u ih=>{rw[Go.Lib.decDigits];by_cases h:u<10;{rw[dif_pos h];have e:(UInt8.ofNat (48+u)).toNat=48+u:=by{rw[UInt8.toNat_ofNat'];omega};refine⟨λb a=>?_,?_⟩;{simp only[wO,rI,g_,e]at a;omega};{simp only[wO,rI,e,PP,wU,tN];omega}};{rw[dif_neg h];have⟨d,c⟩:=ih (u / 10) zO;have e:(UInt8.ofNat (48+u % 10)).toNat=48+u % 10:=by{rw[UInt8.toNat_ofNat'];omega};refine⟨λb a=>?_,?_⟩;{rw[xF,X']at a;rcases a with a | a;{exact d b a};{simp only[wO,rI,g_,e]at a;omega}};{unfold PP at c ⊢;rw[xF,xP,c];simp only[wO,rI,e,wU,tN];omega}}}
def R0(h:0<=q):Ff q=(Go.Lib.decDigits q.toNat).map UInt8.toNat:=by unfold Ff Go.Lib.itoa;rw[G_ zO]
def LN(h:0<=q):∀b∈Ff q,48<=b/\b<=57:=by rw[R0 h];exact(Th _).1
def Wl(h:0<=q):(PP 0 (Ff q):Int)=q:=by rw[R0 h,(Th _).2];omega
def Wf:∀(k u:Nat),u<10^(k+1)->(Go.Lib.decDigits u).length<=k+1
 | 0,u,h=>by
   rw[Go.Lib.decDigits,dif_pos (by simpa using h)];simp
 | k+1,u,h=>by
   rw[Go.Lib.decDigits];by_cases a:u<10
   ·rw[dif_pos a];simp
   ·rw[dif_neg a,M_];have:=Wf k (u / 10) (by rw[Nat.div_lt_iff_lt_mul zQ];rw[Nat.pow_succ]at h;omega);simp only[c_,h_];omega
def Wk(h:0<=q/\q<65536):(Ff q).length<=5:=by rw[R0 h.1,k_];exact Wf 4 _ zO
def kP:∀(l:List Nat) (n:Nat),(∀b∈l,48<=b)->n<=PP n l
 | [],n,_=>N_ _
 | b::l,n,h=>by
   have a:=kP l (10*n+(b-48)) λx c=>h x (xQ _ c);unfold PP at a ⊢;rw[wU];omega
def aB{p r:List Nat}(h0:0<=q)(h:Ff q=p++r):(PP 0 p:Int)<=q:=by have c:=LN h0;have a:=Wl h0;rw[h]at c a;have d:=kP r (PP 0 p) λb e=>(c b (wL _ e)).1;unfold PP at a d ⊢;rw[xP]at a;omega
def BF(l:List Int):List Nat:=l.flatMap λq=>Ff q++[44]
def Pi(l:List Int)(q:Int):BF (l++[q])=BF l++Ff q++[44]:=by unfold BF;rw[List.flatMap_append];simp
def ZK{l:List Int}(h:∀q∈l,0<=q/\q<65536):∀b∈BF l,b<256:=by intro b a;have⟨q,c,a⟩:=List.mem_flatMap.1 a;rcases X'.1 a with a | a;{have:=LN (h q c).1 b a;omega};{rw[g_]at a;omega}
def KE:∀{l:List Int},(∀q∈l,0<=q/\q<65536)->(BF l).length<=l.length*6
 | [],_=>q_ _
 | q::l,h=>by
   have c:=KE (l:=l) λx a=>h x (xQ _ a);have d:=Wk (h q (xY ..));have b:BF (q::l)=(Ff q++[44])++BF l:=by unfold BF;rw[uV]
   rw[b];simp only[M_,c_,h_];omega
def vX(s:List Int×Nat)(b:Nat):List Int×Nat:=if b=44 then(s.1++[(s.2:Int)],0)else(s.1,10*s.2+(b-48))
def Ph:∀(p:List Nat) (a:List Int) (n:Nat),(∀b∈p,48<=b/\b<=57)->p.foldl vX (a,n)=(a,PP n p)
 | [],_,_,_=>rfl
 | b::p,a,n,h=>by
   have d:=h b (xY ..);rw[wU,show vX (a,n) b=(a,10*n+(b-48)) by unfold vX;rw[G_ zO],Ph p a _ λx c=>h x (xQ _ c)];rfl
def WG(h:0<=q)(a:List Int):(Ff q++[44]).foldl vX (a,0)=(a++[q],0):=by rw[xP,Ph _ _ _ (LN h)];show vX (a,PP 0 (Ff q)) 44=_;unfold vX;rw[I_ rfl];simp only[Wl h]
def Oi:∀(l:List Int) (a:List Int),(∀q∈l,0<=q)->(BF l).foldl vX (a,0)=(a++l,0)
 | [],a,_=>by simp[BF]
 | q::l,a,h=>by
   have b:BF (q::l)=(Ff q++[44])++BF l:=by unfold BF;rw[uV]
   rw[b,xP,WG (h q (xY ..)),Oi l _ λx c=>h x (xQ _ c)];simp
def ZL{l m:List Int}(b:∀q∈l,0<=q)(c:∀q∈m,0<=q)(h:BF l=BF m):l=m:=by have a:=Oi l [] b;rw[h,Oi m [] c]at a;simpa using a.symm
def WH:∀(l:List Int) (a:List Int) (i:Nat),(∀q∈l,0<=q/\q<65536)->(((BF l).take i).foldl vX (a,0)).2<65536/\∃k,k<=l.length/\(((BF l).take i).foldl vX (a,0)).1=a++l.take k
 | [],a,i,_=>by simp[BF]
 | q::l,a,i,h=>by
   have c:=h q (xY ..);have d:BF (q::l)=(Ff q++[44])++BF l:=by unfold BF;rw[uV]
   rw[d];by_cases f:i<=(Ff q).length
   ·have e:((Ff q++[44])++BF l).take i=(Ff q).take i:=by
     rw[zN,List.take_append_of_le_length f]
    rw[e,Ph _ _ _ λb g=>LN c.1 b (List.mem_of_mem_take g)];have:=aB c.1 (uM i (Ff q)).symm;exact⟨by simp only;omega,0,q_ _,zZ⟩
   ·have e:((Ff q++[44])++BF l).take i=(Ff q++[44])++(BF l).take (i-(Ff q).length-1):=by
     rw[List.take_append,uL (by simp only[M_,c_,h_];omega)];simp only[M_,c_,h_];rw[(zO:i-((Ff q).length+(0+1))=i-(Ff q).length-1)]
    rw[e,xP,WG c.1];have⟨j,k,o,m⟩:=WH l (a++[q]) (i-(Ff q).length-1) λx n=>h x (xQ _ n);exact⟨j,k+1,by simp only[c_];omega,by rw[m];simp⟩
def yC(l:List Int):ByteArray:=⟨((BF l).map UInt8.ofNat).toArray⟩
def eR{l:List Nat}(h:∀x∈l,x<256):yU ⟨(l.map UInt8.ofNat).toArray⟩=l:=by unfold yU;rw[mO];refine(uU λx a=>?_).trans (List.map_id _);show(UInt8.ofNat x).toNat=x;rw[UInt8.toNat_ofNat'];exact vV (h x a)
def Rt{l:List Int}(h:∀q∈l,0<=q/\q<65536):yU (yC l)=BF l:=eR (ZK h)
def cL{l m:List Int}(b:∀q∈l,0<=q/\q<65536)(c:∀q∈m,0<=q/\q<65536)(h:yC l=yC m):l=m:=by have:=congrArg yU h;rw[Rt b,Rt c]at this;exact ZL (λq a=>(b q a).1) (λq a=>(c q a).1) this
def TP{l:List Int}(h:∀q∈l,0<=q/\q<65536):(yC l).size=(BF l).length:=by rw[<-Rs,Rt h]
section
variable{K:Type} [DecidableEq K]
def L'(most:Nat)(f:List K)(k:K):Option (List K×Nat):=match f.findIdx? (·=k)with
 | some i=>zY (f,i)
 | none=>if f.length<most then zY (f++[k],f.length)else zV
def C4(most:Nat)(step:K->Nat->K)(x:K)(s:Option (List K×List Nat))(b:Nat):Option (List K×List Nat):=
 s.bind λp=>(L' most p.1 (step x b)).map λr=>(r.1,p.2++[r.2])
def By(most:Nat)(step:K->Nat->K)(bs:List Nat)(start:K):Nat->Option (List K×List (List Nat))
 | 0=>zY ([start],[])
 | n+1=>(By most step bs start n).bind λp=>match p.1[n]? with
   | none=>zY p
   | some x=>(bs.foldl (C4 most step x) (zY (p.1,[]))).map λr=>(r.1,p.2++[r.2])
variable{most:Nat}{step:K->Nat->K}{bs:List Nat}{start:K}
def Fp(x:K):∀l:List Nat,l.foldl (C4 most step x) zV=zV
 | []=>rfl
 | b::l=>by rw[wU];exact Fp x l
def IA{f f':List K}{k:K}{i:Nat}(h:L' most f k=zY (f',i))(n:f.length<=most)(l:f.Nodup):f'[i]?=zY k/\f'.length<=most/\f'.Nodup/\f <+: f':=by unfold L' at h;cases c:f.findIdx? (·=k)with|some j=>{rw[c]at h;injection h with h;injection h with h1 h2;subst h1;subst h2;obtain⟨o,d,-⟩:=List.findIdx?_eq_some_iff_getElem.1 c;have d:f[j]=k:=by{simpa using d};exact⟨by rw[List.getElem?_eq_getElem o,d],n,l,uB _⟩}|none=>{rw[c]at h;simp only at h;split at h;{rename_i p;injection h with h;injection h with h1 h2;subst h1;subst h2;have g:k∉f:=λq=>by{have:=List.findIdx?_eq_none_iff.1 c k q;simp at this};refine⟨zZ,by simp only[M_,c_,h_];omega,?_,List.prefix_append _ _⟩;rw[List.nodup_append];exact⟨l,zZ,λa r b m=>by rw[g_]at m;subst m;intro e;subst e;exact g r⟩};{cases h}}
omit [DecidableEq K]in
def E8{f f':List K}{i:Nat}{k:K}(h:f <+: f')(a:f[i]?=zY k):f'[i]?=zY k:=by obtain⟨t,rfl⟩:=h;rw[zR (V_.1 a).1];exact a
structure O4(most:Nat)(step:K->Nat->K)(bs:List Nat)(start:K)(n:Nat)(f:List K)(rows:List (List Nat)):Prop where
 len:f.length<=most
 nd:f.Nodup
 zero:f[0]?=zY start
 rl:rows.length=n
 cols:∀row∈rows,row.length=bs.length
 ok:∀(i k:Nat) (row:List Nat) (b t:Nat) (x:K),rows[i]?=zY row->bs[k]?=zY b->row[k]?=zY t->f[i]?=zY x->f[t]?=zY (step x b)
def Vc{f:List K}{x:K}(s:f.length<=most)(u:f.Nodup):∀(k:Nat),k<=bs.length->∀(f':List K) (row:List Nat),(bs.take k).foldl (C4 most step x) (zY (f,[]))=zY (f',row)->
  f'.length<=most/\f'.Nodup/\f <+: f'/\row.length=k/\∀(j b t:Nat),bs[j]?=zY b->row[j]?=zY t->f'[t]?=zY (step x b):=by intro k;induction k with|zero=>intro _ f' row h;simp only[vQ,tN,AjO.injEq,Prod.mk.injEq]at h;obtain⟨rfl,rfl⟩:=h;exact⟨s,u,uB _,rfl,λj b t _ h=>by simp at h⟩|succ k v=>{intro F f' row h;have⟨b,m⟩:=Ab (l:=bs) (k:=k) zO;rw[Ac m,xP]at h;cases e:(bs.take k).foldl (C4 most step x) (zY (f,[]))with|none=>rw[e]at h;cases h|some p=>{have⟨n,w⟩:=p;have⟨y,z,A,o,B⟩:=v zO n w e;rw[e]at h;simp only[wU,tN,C4,xO]at h;cases g:L' most n (step x b)with|none=>rw[g]at h;cases h|some r=>{have⟨G,H⟩:=r;rw[g]at h;simp only[wB,AjO.injEq,Prod.mk.injEq]at h;obtain⟨rfl,rfl⟩:=h;have⟨C,D,E,q⟩:=IA g y z;refine⟨D,E,A.trans q,by simp[o],λj c t d a=>?_⟩;by_cases I:j<k;{rw[zR zO]at a;exact E8 q (B j c t d a)};{have i:=(V_.1 a).1;simp only[M_,c_,h_]at i;obtain rfl:j=k:=zO;rw[m]at d;injection d with d;subst d;rw[zL zO,o,Nat.sub_self]at a;simp only[wH,AjO.injEq]at a;subst a;exact C}}}}
def Nn{f:List K}{x:K}(a:f.length<=most)(c:f.Nodup){f':List K}{row:List Nat}(h:bs.foldl (C4 most step x) (zY (f,[]))=zY (f',row)):
  f'.length<=most/\f'.Nodup/\f <+: f'/\row.length=bs.length/\∀(j b t:Nat),bs[j]?=zY b->row[j]?=zY t->f'[t]?=zY (step x b):=
 Vc a c bs.length (N_ _) f' row (by rw[zH];exact h)
def Kn(z:1<=most):∀(n:Nat) (f:List K) (rows:List (List Nat)),By most step bs start n=zY (f,rows)->(∀j,j<n->j<f.length)->O4 most step bs start n f rows
 | 0,f,rows,h,_=>by
   simp only[By,AjO.injEq,Prod.mk.injEq]at h;obtain⟨rfl,rfl⟩:=h;exact⟨z,zZ,rfl,rfl,(λrow h=>by cases h),λi k row b t x h=>by simp at h⟩
 | n+1,f,rows,h,hlt=>by
   simp only[By]at h;cases s:By most step bs start n with
   | none=>rw[s]at h;cases h
   | some p=>
     have⟨o,d⟩:=p;rw[s]at h;simp only[xO]at h;cases g:o[n]? with
     | none=>
       rw[g]at h;simp only[AjO.injEq,Prod.mk.injEq]at h;obtain⟨rfl,rfl⟩:=h;have:=hlt n zO;rw[List.getElem?_eq_none_iff]at g;omega
     | some x=>
       rw[g]at h;simp only at h;cases u:bs.foldl (C4 most step x) (zY (o,[]))with
       | none=>rw[u]at h;cases h
       | some r=>
         have⟨G,row⟩:=r;rw[u]at h;simp only[wB,AjO.injEq,Prod.mk.injEq]at h;obtain⟨rfl,rfl⟩:=h;have D:=(V_.1 g).1;have c:=Kn z n o d s λj H=>zO
         have⟨g1,g2,q,E,F⟩:=Nn c.len c.nd u;refine⟨g1,g2,E8 q c.zero,by simp[c.rl],λr a=>?_,λi k r b t y e A B C=>?_⟩
         ·rcases X'.1 a with a | a
          ·exact c.cols r a
          ·rw[g_]at a;subst a;exact E
         ·by_cases v:i<n
          ·rw[zR (by rw[c.rl];exact v)]at e;have⟨I,m⟩:=Ab (l:=o) (k:=i) zO;have:=E8 q m;rw[C]at this;injection this with this
           subst this;exact E8 q (c.ok i k r b t y e A B m)
          ·have w:=(V_.1 e).1;simp only[M_,c_,h_,c.rl]at w;obtain rfl:i=n:=zO
           rw[zL (by rw[c.rl];exact N_ _),c.rl,Nat.sub_self]at e;simp only[wH,AjO.injEq]at e;subst e;have:=E8 q g;rw[C]at this;injection this with this
           subst this;exact F k b t A B
def L6{n:Nat}{f:List K}{rows:List (List Nat)}(h:By most step bs start n=zY (f,rows))(c:f.length<=n):∀m,n<=m->By most step bs start m=zY (f,rows):=by intro m d;induction m with|zero=>obtain rfl:n=0:=zO;exact h|succ m a=>by_cases b:n=m+1;{subst b;exact h};{have:=a zO;simp only[By,this,xO];rw[zE zO]}
def V8{n:Nat}(h:By most step bs start n=zV):∀m,n<=m->By most step bs start m=zV:=by intro m c;induction m with|zero=>obtain rfl:n=0:=zO;exact h|succ m a=>by_cases b:n=m+1;{subst b;exact h};{have:=a zO;simp only[By,this,Option.bind_none]}
def CS(most:Nat)(step:K->Nat->K)(bs:List Nat)(start:K):Option (List K×List (List Nat)):=By most step bs start most
def K3{n:Nat}{f:List K}{rows:List (List Nat)}(h:By most step bs start n=zY (f,rows))(a:f.length=n)(b:f.length<=most):CS most step bs start=zY (f,rows):=
 L6 h zO most zO
def K4{n:Nat}(h:By most step bs start (n+1)=zV)(a:n<most):CS most step bs start=zV:=V8 h most a
end
section
variable{α:Type}{T:Ty α}{e:x_}{nb:Nat}{xs:List (List α)}
def Y7{ty q by_ t f:Nat}{a:Option Addr}{cap:Nat}{ds:List v_}{x:List α}{y:α}{K:v_->Aa->Prop}(o:B_ B H0 H ps)(i:Nat)(s:SlT P j e T.size by_ z)(p:ps[i]?=zY (pT T e te nb vs xs))(r:vs[t]?=zY (.slice a n cap))(v:xs[t]?=zY x)
  (w:Bn H q 0 ds) (A:T.rep none_ H ds y) (C:ds.all (·.oneCell')=zW) (l:x.length+1<=34359738368) (hby:by_<=1024)
  (k:∀a' c H1,Mid T B H0 H H1 ps i e te nb vs xs t (.slice a' (x.length+1) c) (x++[y])->C_ (λk=>k<H.size/\¬O_ (.slice a n cap) k) H H1->K (.slice a' (x.length+1) c) H1):BV P (Builtin.append_ #[j,j] ty [.slice a n cap,.slice (T_ q) 1 f].toArray) H K:=by have tab:=o.tab i p;have g:=tab.own t _ _ r v;refine BU (T:=T) (S:=none_) (lo:=nb+1) (ys:=[y]) s g tab.blk.lt (λk D=>D.elim) w (Ty.reps_one A) rfl (λu E=>zM.1 C u E) (by unfold maxLen;simp only[i_];omega) (by have:=Nat.mul_le_mul l hby;simp only[i_];omega) ?_;intro F H1 b d m h;obtain⟨a',c,rfl⟩:=b.hull;rw[M_,i_]at b h ⊢;exact k a' c H1 ⟨o,p,b,⟨_,r,d,h⟩,m⟩ d
def B_.rowNe(b:B_ B H0 H ps)(i:Nat)(c:ps[i]?=zY (pT T e te nb vs xs)){t:Nat}{x:List α}(d:vs[t]?=zY v)(f:xs[t]?=zY x):¬O_ v nb:=λh=>by
 have a:=(b.tab i c).own t _ _ d f;have:=(a.lt h).1;omega
end
section
variable{β:Type}
def xB(n:Nat)(key:t_->Option (Nat×β))(l:List t_):List (List β):=(Am0 n).map λq=>l.filterMap λe=>(key e).bind λp=>if p.1=q then zY p.2 else zV
def DK(n:Nat)(a:t_->Option (Nat×β))(l:List t_):(xB n a l).length=n:=by simp[xB]
def Hc{q:Nat}(a:t_->Option (Nat×β))(l:List t_)(h:q<n):(xB n a l)[q]?=zY (l.filterMap λe=>(a e).bind λp=>if p.1=q then zY p.2 else zV):=by unfold xB;rw[I',wS h];rfl
def Of(n:Nat)(a:t_->Option (Nat×β)):xB n a []=Ai5 n []:=by unfold xB;simp[mN]
def Eo{a:t_->Option (Nat×β)}{l:List t_}{e:t_}(h:a e=zV):xB n a (l++[e])=xB n a l:=by unfold xB;refine uU λq _=>?_;rw[iV];simp[h]
def LX{q:Nat}{a:t_->Option (Nat×β)}{l:List t_}{e:t_}{y:β}{row:List β}(h:a e=zY (q,y))(c:(xB n a l)[q]?=zY row):xB n a (l++[e])=(xB n a l).set q (row++[y]):=by
 have f:q<n:=by have:=(V_.1 c).1;rwa [DK]at this
 rw[Hc a l f]at c;injection c with c;apply yW;intro j;by_cases d:j<n;{rw[Hc a _ d,iV,xV,DK,Hc a _ d];by_cases b:q=j;{subst b;rw[I_ rfl,I_ d,<-c];simp[h]};{rw[G_ b];simp[h,b]}};{rw[zE (by rw[DK];omega),zE (by rw[yF,DK];omega)]}
end
def AY(a:P_):Nat:=if 0<=a.st/\a.st<=65536 then a.st.toNat else 0
def KH(a:P_):AY a<=65536:=by unfold AY;split<;>omega
def JW(a:P_)(q:Int):a.has q=(zT (0<=q)&&zT (q<(AY a:Int))):=by rw[Bool.eq_iff_iff,P_.has_iff];unfold AY;simp only[O',yD];split<;>omega
def xS(a:P_)(e:t_):Bool:=a.has e.fr&&a.has e.to
def xD(a:P_)(e:t_):Option (Nat×Int):=if xS a e&&e.sil then zY (e.fr.toNat,e.to)else zV
def Ly(a:P_)(e:t_):Option (Nat×t_):=if xS a e&& !e.sil then zY (e.fr.toNat,e)else zV
def nO(a:P_):List (List Int):=xB (AY a) (xD a) a.edges
def PL(a:P_):List (List t_):=xB (AY a) (Ly a) a.edges
abbrev gH:x_:=172
def sJ(sv tv:v_)(n:Nat):List v_:=[sv,tv,A_ n]
def N9(S:Nat->Prop)(H:Aa)(v:v_)(a:P_):Prop:=∃nb sa sc ta tc,v= Y_ nb/\S nb/\Bn H nb 0 (sJ (.slice sa (AY a) sc) (.slice ta (AY a) tc) (AY a))/\b_ (zC a_) S H sa sc (nO a)/\b_ (zC C') S H ta tc (PL a)
def N9.frame{H':Aa}(h:N9 S H v a)(k:C_ S H H'):N9 S H' v a:=by have⟨nb,sa,sc,c,d,e,b,f,g,i⟩:=h;exact⟨nb,sa,sc,c,d,e,b,f.eq (k nb b),g.frame k,i.frame k⟩
def N9.mono{S':Nat->Prop}(h:N9 S H v a)(k:∀i,S i->S' i):N9 S' H v a:=by have⟨nb,sa,sc,b,c,d,e,f,g,j⟩:=h;exact⟨nb,sa,sc,b,c,d,k _ e,f,g.mono k,j.mono k⟩
def Vv{nb:Nat}{d e:v_}(h:Bn H nb 0 (sJ d e (AY a))):BZ prog 88 #[Y_ nb,A_ q] H (.bool (a.has q)):=by refine Aj.of_vc func88 rfl (call88 _) ?_;by_cases c:0<=q;{have b:zT ((0:Int)<=q)=zW:=m_ c;(conv=>whnf);rw[b];refine fa NZ (D_ (v:=A_ (AY a:Int)) E_ (h 2 _ rfl) zA ?_);(conv=>whnf);exact⟨by rw[JW,b,wX],C_.refl _ _⟩};{have b:zT ((0:Int)<=q)=zU:=j_ c;(conv=>whnf);rw[b];(conv=>whnf);exact⟨by rw[JW,b,wZ],C_.refl _ _⟩}
def lI:(prog.info? 172).bind (·.zero)=zY (.agg #[.slice zV 0 0,.slice zV 0 0,A_ 0]):=rfl
def bC(hS:∀k,S k->k<H.size)(h:tT S H v a):
  Aj prog 87 #[v] H λr H'=>C_ (H_ H) H H'/\N9 (H_ H') H' r a:=by have hr:=h.1;have hl:=h.2.1;refine Aj.of_vc func87 rfl (call87 _) (RV h λea ec ab h1=>?_);subst ab;intro p H1 hp ae ag ah;have J_:=(St.nil H).box hp ae ag ah;refine Az underlying172 rfl _ lI (sJ (.slice zV 0 0) (.slice zV 0 0) 0) rfl (Cd (sJ (.slice zV 0 0) (.slice zV 0 0) 0) rfl ?_);intro nb H2 ai aj ak am;have I:=J_.box ai aj ak am;have Z:=KH a;obtain⟨n,Q⟩:∃n,n=AY a:=⟨_,rfl⟩;rw[<-Q]at Z;have R:=I.blk 0 rfl;have w:∀c:Bool,c=(zT ((0:Int)<=a.st)&&zT (a.st<=65536))->(c=zW->(n:Int)=a.st)/\(c=zU->n=0):=by{intro c hc;rw[hc,Q];unfold AY;constructor;{intro h;simp only[O',yD]at h;rw[I_ h];omega};{intro h;rw[G_ λh2=>by simp[h2.1,h2.2]at h]}};(conv=>whnf);refine Au.cut (α:=Unit) [] (λ_=>[]) (λ_ H3=>St H H3 [pB 76 p (n_ a (.slice ea a.edges.length ec)),pB gH nb (sJ (.slice zV 0 0) (.slice zV 0 0) n)]) ?_ ?_;{refine fa Em ?_;refine D_ (v:=A_ a.st) E_ (by rw[R.cell];rfl) zA ?_;by_cases h0:0<=a.st;{have X:zT ((0:Int)<=a.st)=zW:=m_ h0;(conv=>whnf);rw[X];refine fa Em ?_;refine D_ (v:=A_ a.st) E_ (by rw[R.cell];rfl) zA ?_;by_cases h6:a.st<=65536;{have d6:zT (a.st<=(65536:Int))=zW:=m_ h6;have ao:(n:Int)=a.st:=(w zW (by rw[X,d6];rfl)).1 rfl;(conv=>whnf);rw[d6];refine fa Em ?_;refine D_ (v:=A_ a.st) E_ (by rw[R.cell];rfl) zA ?_;refine fa NZ (AZ I 1 E_ rfl (zQ:2<3) rfl λH3 J=>(⟨rfl,(),rfl,?_⟩));unfold sJ;rw[ao];exact J};{have d6:zT (a.st<=(65536:Int))=zU:=j_ h6;obtain rfl:n=0:=(w zU (by rw[X,d6];rfl)).2 rfl;(conv=>whnf);rw[d6];(conv=>whnf);exact⟨rfl,(),rfl,I⟩}};{have X:zT ((0:Int)<=a.st)=zU:=j_ h0;obtain rfl:n=0:=(w zU (by rw[X];rfl)).2 rfl;(conv=>whnf);rw[X];(conv=>whnf);exact⟨rfl,(),rfl,I⟩}};{rintro⟨⟩ H3 ap J;refine fa NZ ?_;refine lT (v:=A_ n) E_ ((J.blk 1 rfl).ce rfl) ?_;refine EQ Dt rfl zO zO zO zO ?_;intro sb H4 aq ar a0 au;rw[zB]at a0 ⊢;have aw:=J.tabNew a_ 3 aq ar a0 au;refine fa NY (AZ aw 1 DC rfl (zQ:0<3) rfl λH5 a1=>(fa NZ ?_));refine lT (v:=A_ n) E_ ((a1.blk 1 rfl).ce rfl) ?_;refine EQ Ul rfl zO zO zO zO ?_;intro tb H6 ax ay a2 az;rw[zB]at a2 ⊢;have b0:=a1.tabNew C' 174 ax ay a2 az;refine fa LS (AZ b0 1 Tf rfl (zQ:1<3) rfl λH7 a3=>?_);have b4:=a3.blk 0 rfl;refine fa En ?_;refine D_ (v:=.slice ea a.edges.length ec) Iy (by rw[b4.cell];rfl) zA ?_;(conv=>whnf);refine Ay.mk [40] (λi:Nat=>[A_ i]) (λi H8=>i<=a.edges.length/\∃vs vt,St H H8 [pB 76 p (n_ a (.slice ea a.edges.length ec)),pB gH nb (sJ (.slice (T_ sb) n n) (.slice (T_ tb) n n) n),pT a_ 3 41 sb vs (xB n (xD a) (a.edges.take i)),pT C' 174 74 tb vt (xB n (Ly a) (a.edges.take i))]) (λi _=>a.edges.length-i) ?_ ?_;{(conv=>whnf);refine⟨0,rfl,q_ _,Ai5 n (.slice zV 0 0),Ai5 n (.slice zV 0 0),?_⟩;rw[vQ,Of,Of];exact a3};{rintro i H8 b5 ⟨hi,vs,vt,o⟩;refine AD.m2 (λhz=>?_) (λhz=>?_);{have⟨e,he⟩:=Ab (l:=a.edges) (k:=i) zO;refine Au.run (Y' (i:=i) I6 (h1.frame (o.old.mono hS)) he rfl ?_);rintro b6 o6 c6 bd b7 ⟨rfl,a4⟩;refine L_ (cs:=zP e) O6 b7 zA (Ag _ [A_ 0,A_ 0,.bool zU,.int .u64 0,.int .u64 0,.int .u64 0,.int .u64 0] Lq rfl ?_);intro x H9 hx a5 a6 a7;have N:=o.box hx a5 a6 a7;refine A9 (cs:=zP e) N 4 rfl rfl (N_ _) rfl λH10 O=>?_;rw[Ai (show(zP e).length=7 from rfl)]at O;clear N a5 a6 a7;obtain⟨H9,rfl⟩:∃H9,H9=H10:=⟨_,rfl⟩;have K:=O;have hX:=K.blk 4 rfl;have u:Bn H9 nb 0 (sJ (.slice (T_ sb) n n) (.slice (T_ tb) n n) (AY a)):=by{rw[<-Q];exact(K.blk 1 rfl).cells λj v L=>by rw[K_];exact L};refine fa Ic ?_;refine D_ (v:=A_ e.fr) E_ (by rw[hX.cell];rfl) zA ?_;refine Al (Vv u) λH14 P=>?_;have z:=K.call P;cases G:a.has e.fr with|false=>have k1:xD a e=zV:=by{unfold xD xS;rw[G,wZ,wZ];rfl};have k2:Ly a e=zV:=by{unfold Ly xS;rw[G,wZ,wZ];rfl};have g1:=Eo (n:=n) (l:=a.edges.take i) k1;have g2:=Eo (n:=n) (l:=a.edges.take i) k2;rw[<-Ac he]at g1 g2;(conv=>whnf);rw[Q_ i zO];refine⟨rfl,i+1,zZ,⟨zO,vs,vt,?_⟩,zO⟩;rw[g1,g2];exact z.pick [0,1,2,3] zQ|true=>{refine fa K8 ?_;refine lT (v:=A_ e.to) E_ ((z.blk 4 rfl).ce rfl) ?_;refine Al (Vv (u.eq (P nb (K.in_ 1 rfl rfl).2))) λHq a8=>?_;have d:=z.call a8;cases Y:a.has e.to with|false=>have k1:xD a e=zV:=by{unfold xD xS;rw[G,Y,tK,wZ];rfl};have k2:Ly a e=zV:=by{unfold Ly xS;rw[G,Y,tK,wZ];rfl};have g1:=Eo (n:=n) (l:=a.edges.take i) k1;have g2:=Eo (n:=n) (l:=a.edges.take i) k2;rw[<-Ac he]at g1 g2;(conv=>whnf);rw[Q_ i zO];refine⟨rfl,i+1,zZ,⟨zO,vs,vt,?_⟩,zO⟩;rw[g1,g2];exact d.pick [0,1,2,3] zQ|true=>{have be:=P_.has_iff.1 G;have bf:0<=e.fr/\e.fr<(n:Int):=by{have:=JW a e.fr;rw[G,<-Q]at this;simpa using this.symm};have bg:e.fr.toNat<n:=zO;refine fa Wv ?_;refine lT (v:=.bool e.sil) M' ((d.blk 4 rfl).ce rfl) ?_;cases M:e.sil with|true=>{(conv=>whnf);have⟨row,b⟩:=Ab (l:=xB n (xD a) (a.edges.take i)) (k:=e.fr.toNat) (by rw[DK];omega);have b8:row.length<=i:=by{rw[Hc _ _ (zO:e.fr.toNat<n)]at b;injection b with b;rw[<-b];exact yV (rJ _ _) (mL _ _)};obtain⟨ra,rc,m,-⟩:=d.row 2 rfl b;have T:=d.rowNe 2 rfl m b;have q:∀k,O_ (.slice ra row.length rc) k->(pT a_ 3 41 sb vs (xB n (xD a) (a.edges.take i))).foot k:=λk s=>.inr ⟨e.fr.toNat,_,m,s⟩;have d1:=d.apart2 (i:=1) (j:=2) rfl rfl zQ;have d4:=d.apart2 (i:=4) (j:=2) rfl rfl zQ;have qn:nb<Hq.size/\¬O_ (.slice ra row.length rc) nb:=⟨(d.in_ 1 rfl rfl).2,λh=>d1 nb rfl (q nb h)⟩;have U:x<Hq.size/\¬O_ (.slice ra row.length rc) x:=⟨(d.in_ 4 rfl rfl).2,λh=>d4 x rfl (q x h)⟩;have qt:sb<Hq.size/\¬O_ (.slice ra row.length rc) sb:=⟨(d.in_ 2 rfl (.inl rfl)).2,T⟩;have A:=d.blk 1 rfl;have t:=d.blk 4 rfl;refine Ap.heldZ (λk=>k<Hq.size/\¬O_ (.slice ra row.length rc) k) [19] (sq [0,1,2,3,4,5,6,7,8,9,10,11,12,13,14,15] (.f 16 (.f 17 (sq [18] (.f 19 .e))))) rfl zX (fa NY ?_);refine D_ (v:=.slice (T_ sb) n n) DC (by rw[A.cell];rfl) qn ?_;refine fa Ic ?_;refine D_ (v:=A_ e.fr) E_ (by rw[t.cell];rfl) U ?_;refine fa NY ?_;refine D_ (v:=.slice (T_ sb) n n) DC (by rw[A.cell];rfl) qn ?_;refine fa Ic ?_;refine D_ (v:=A_ e.fr) E_ (by rw[t.cell];rfl) U ?_;refine ix Dt zO zO (D_ C9 (d.tcell 2 rfl m (by rw[K_,zG])) qt (fa K8 ?_));refine D_ (v:=A_ e.to) E_ (by rw[t.cell];rfl) U ?_;refine As AB [A_ e.to] rfl rfl zQ zQ ?_;intro b9 H11 B a9 C g;have D:=d.skip B g;refine⟨g.mono λk s=>by have:=s.1;omega,?_⟩;refine Y7 (ds:=[A_ e.to]) (y:=e.to) D 2 AB rfl m b (C.cells λj v L=>by rw[K_];exact L) ⟨rfl,a4.2⟩ rfl zO zQ λwa wc H12 mid E=>?_;refine⟨(g.mono λk s=>by have:=s.1;omega).trans (E.mono λk s=>⟨by have:=s.1;omega,s.2⟩),?_⟩;refine ix Dt zO zO (oW mid C9 (by rw[K_,zG]) λH13 F=>?_);have V:xD a e=zY (e.fr.toNat,e.to):=by{unfold xD xS;rw[G,Y,M];rfl};have W:Ly a e=zV:=by{unfold Ly xS;rw[G,Y,M];rfl};have g1:=LX V b;have g2:=Eo (n:=n) (l:=a.edges.take i) W;rw[<-Ac he]at g1 g2;(conv=>whnf);rw[Q_ i zO];refine⟨rfl,i+1,zZ,⟨zO,vs.set e.fr.toNat (.slice wa (row.length+1) wc),vt,?_⟩,zO⟩;rw[g1,g2];exact F.pick [0,1,2,3] zQ}|false=>{(conv=>whnf);have⟨row,b⟩:=Ab (l:=xB n (Ly a) (a.edges.take i)) (k:=e.fr.toNat) (by rw[DK];omega);have b8:row.length<=i:=by{rw[Hc _ _ (zO:e.fr.toNat<n)]at b;injection b with b;rw[<-b];exact yV (rJ _ _) (mL _ _)};obtain⟨ra,rc,m,-⟩:=d.row 3 rfl b;have T:=d.rowNe 3 rfl m b;have q:∀k,O_ (.slice ra row.length rc) k->(pT C' 174 74 tb vt (xB n (Ly a) (a.edges.take i))).foot k:=λk s=>.inr ⟨e.fr.toNat,_,m,s⟩;have d1:=d.apart2 (i:=1) (j:=3) rfl rfl zQ;have d4:=d.apart2 (i:=4) (j:=3) rfl rfl zQ;have qn:nb<Hq.size/\¬O_ (.slice ra row.length rc) nb:=⟨(d.in_ 1 rfl rfl).2,λh=>d1 nb rfl (q nb h)⟩;have U:x<Hq.size/\¬O_ (.slice ra row.length rc) x:=⟨(d.in_ 4 rfl rfl).2,λh=>d4 x rfl (q x h)⟩;have qt:tb<Hq.size/\¬O_ (.slice ra row.length rc) tb:=⟨(d.in_ 3 rfl (.inl rfl)).2,T⟩;have A:=d.blk 1 rfl;have t:=d.blk 4 rfl;refine Ap.heldZ (λk=>k<Hq.size/\¬O_ (.slice ra row.length rc) k) [18] (sq [0,1,2,3,4,5,6,7,8,9,10,11,12,13,14] (.f 15 (.f 16 (sq [17] (.f 18 .e))))) rfl zX (fa LS ?_);refine D_ (v:=.slice (T_ tb) n n) Tf (by rw[A.cell];rfl) qn ?_;refine fa Ic ?_;refine D_ (v:=A_ e.fr) E_ (by rw[t.cell];rfl) U ?_;refine fa LS ?_;refine D_ (v:=.slice (T_ tb) n n) Tf (by rw[A.cell];rfl) qn ?_;refine fa Ic ?_;refine D_ (v:=A_ e.fr) E_ (by rw[t.cell];rfl) U ?_;refine ix Ul zO zO (D_ Iy (d.tcell 3 rfl m (by rw[K_,zG])) qt ?_);refine L_ (cs:=zP e) O6 (t.cells λj v L=>by rw[K_];exact L) U ?_;refine As I6 (zP e) rfl rfl zQ zQ ?_;intro b9 H11 B a9 C g;have D:=d.skip B g;refine⟨g.mono λk s=>by have:=s.1;omega,?_⟩;refine Y7 (ds:=zP e) (y:=e) D 3 I6 rfl m b (C.cells λj v L=>by rw[K_];exact L) ⟨rfl,a4⟩ (HY e) zO zQ λwa wc H12 mid E=>?_;refine⟨(g.mono λk s=>by have:=s.1;omega).trans (E.mono λk s=>⟨by have:=s.1;omega,s.2⟩),?_⟩;refine ix Ul zO zO (oW mid Iy (by rw[K_,zG]) λH13 F=>?_);have V:Ly a e=zY (e.fr.toNat,e):=by{unfold Ly xS;rw[G,Y,M];rfl};have W:xD a e=zV:=by{unfold xD xS;rw[G,Y,M];rfl};have g1:=LX V b;have g2:=Eo (n:=n) (l:=a.edges.take i) W;rw[<-Ac he]at g1 g2;(conv=>whnf);rw[Q_ i zO];refine⟨rfl,i+1,zZ,⟨zO,vs,vt.set e.fr.toNat (.slice wa (row.length+1) wc),?_⟩,zO⟩;rw[g1,g2];exact F.pick [0,1,2,3] zQ}}}};{obtain rfl:i=a.edges.length:=zO;rw[zH]at o;(conv=>whnf);refine⟨o.old,nb,zY ⟨sb,0,zV⟩,n,zY ⟨tb,0,zV⟩,n,rfl,(o.in_ 1 rfl rfl).2,?_,?_,?_⟩;{rw[<-Q];exact(o.blk 1 rfl).cells λj v L=>by rw[K_];exact L};{have:=o.tview 2 rfl (by rw[DK];unfold maxLen;omega);unfold nO;rw[<-Q];rw[DK]at this;exact this};{have:=o.tview 3 rfl (by rw[DK];unfold maxLen;omega);unfold PL;rw[<-Q];rw[DK]at this;exact this}}}}
def JZ(a:P_)(e:t_):Option (Nat×t_):=if xS a e then zY (e.fr.toNat,e)else zV
abbrev wJ:x_:=193
def xW(n:Nat)(ov mv:v_):List v_:=[A_ n,ov,mv]
def kF:(prog.info? 193).bind (·.zero)=zY (.agg #[A_ 0,.slice zV 0 0,.slice zV 0 0]):=rfl
def pE(nb tb:Nat)(n:Nat)(ma:Option Addr)(mc:Nat)(vt:List v_)(rows:List (List t_))(TI:List Bool):List Pc:=
 [pB wJ nb (xW n (.slice (T_ tb) n n) (.slice ma n mc)),pT Eg 185 79 tb vt rows,pS AI 4 ma n mc TI]
def M3{S:Nat->Prop}{H:Aa}:∀xs:List Bool,AI.reps S H (xs.map Value.bool) xs
 | []=>rfl
 | x::xs=>⟨[.bool x],xs.map Value.bool,rfl,rfl,M3 xs⟩
def fK(hS:∀k,S k->k<H.size)(h:rZ S H v a):
  Aj prog 97 #[v] H λr H'=>∃nb tb ma mc vt,r= Y_ nb/\St H H' (pE nb tb (AY a) ma mc vt (xB (AY a) (JZ a) a.edges) (Ai5 (AY a) zU)):=by have hr:=h.1;have hl:=h.2.1;refine Aj.of_vc func97 rfl (call97 _) (ZM h λea ec a0 h1=>?_);subst a0;intro p H1 hp a1 a2 a3;have J_:=(St.nil H).box hp a1 a2 a3;refine Az underlying193 rfl _ kF (xW 0 (.slice zV 0 0) (.slice zV 0 0)) rfl (Cd (xW 0 (.slice zV 0 0) (.slice zV 0 0)) rfl ?_);intro nb H2 a4 a5 a6 a7;have w:=J_.box a4 a5 a6 a7;have L:=KH a;obtain⟨n,M⟩:∃n,n=AY a:=⟨_,rfl⟩;rw[<-M]at L;have E:=w.blk 0 rfl;have o:∀c:Bool,c=(zT ((0:Int)<a.st)&&zT (a.st<=65536))->(c=zW->(n:Int)=a.st)/\(c=zU->n=0):=by{intro c hc;rw[hc,M];unfold AY;constructor;{intro h;simp only[O',yD]at h;rw[I_ ⟨zO,h.2⟩];omega};{intro h;by_cases h0:0<a.st;{rw[G_ λh2=>by simp[h0,h2.2]at h]};{split<;>omega}}};(conv=>whnf);refine Au.cut (α:=Unit) [] (λ_=>[]) (λ_ H3=>St H H3 [pB 81 p (n_ a (.slice ea a.edges.length ec)),pB wJ nb (xW n (.slice zV 0 0) (.slice zV 0 0))]) ?_ ?_;{refine fa CM ?_;refine D_ (v:=A_ a.st) E_ (by rw[E.cell];rfl) zA ?_;by_cases h0:0<a.st;{have I:zT ((0:Int)<a.st)=zW:=m_ h0;(conv=>whnf);rw[I];refine fa CM ?_;refine D_ (v:=A_ a.st) E_ (by rw[E.cell];rfl) zA ?_;by_cases h6:a.st<=65536;{have N:zT (a.st<=(65536:Int))=zW:=m_ h6;have a8:(n:Int)=a.st:=(o zW (by rw[I,N];rfl)).1 rfl;(conv=>whnf);rw[N];refine fa CM ?_;refine D_ (v:=A_ a.st) E_ (by rw[E.cell];rfl) zA ?_;refine fa Je (AZ w 1 E_ rfl (zQ:0<3) rfl λH3 z=>(⟨rfl,(),rfl,?_⟩));unfold xW;rw[a8];exact z};{have N:zT (a.st<=(65536:Int))=zU:=j_ h6;obtain rfl:n=0:=(o zU (by rw[I,N];rfl)).2 rfl;(conv=>whnf);rw[N];(conv=>whnf);exact⟨rfl,(),rfl,w⟩}};{have I:zT ((0:Int)<a.st)=zU:=j_ h0;obtain rfl:n=0:=(o zU (by rw[I];rfl)).2 rfl;(conv=>whnf);rw[I];(conv=>whnf);exact⟨rfl,(),rfl,w⟩}};{rintro⟨⟩ H3 a9 z;refine fa Je ?_;refine lT (v:=A_ n) E_ ((z.blk 1 rfl).ce rfl) ?_;refine EQ Um rfl zO zO zO zO ?_;intro tb H4 ab ae O ag;rw[zB]at O ⊢;have ah:=z.tabNew Eg 185 ab ae O ag;refine fa LV (AZ ah 1 Tg rfl (zQ:1<3) rfl λH5 P=>(fa Je ?_));refine lT (v:=A_ n) E_ ((P.blk 1 rfl).ce rfl) ?_;refine EQ C7 rfl zO zO zO zO ?_;intro mb H6 ai aj Q ak;rw[zB]at Q ⊢;have F:AI.reps none_ H6 (Ai5 n (Value.bool zU)) (Ai5 n zU):=by{have:=M3 (S:=none_) (H:=H6) (Ai5 n zU);rwa [List.map_replicate]at this};have am:=P.new (T:=AI) (n:=n) (xs:=Ai5 n zU) ai aj Q ak F zZ (by unfold maxLen;omega);refine fa Jf (AZ am 1 Dn rfl (zQ:2<3) rfl λH7 ao=>?_);(conv=>whnf);refine Ay.mk [4] (λi:Nat=>[A_ i]) (λi H8=>i<=a.edges.length/\∃vt,St H H8 [pB 81 p (n_ a (.slice ea a.edges.length ec)),pB wJ nb (xW n (.slice (T_ tb) n n) (.slice (T_ mb) n n)),pT Eg 185 79 tb vt (xB n (JZ a) (a.edges.take i)),pS AI 4 (T_ mb) n n (Ai5 n zU)]) (λi _=>a.edges.length-i) ?_ ?_;{(conv=>whnf);refine⟨0,rfl,q_ _,Ai5 n (.slice zV 0 0),?_⟩;rw[vQ,Of];exact ao};{rintro i H8 ap ⟨hi,vt,q⟩;have R:=q.blk 0 rfl;refine fa Dw ?_;refine D_ (v:=.slice ea a.edges.length ec) GJ (by rw[R.cell];rfl) zA ?_;refine AD.m2 (λhz=>?_) (λhz=>?_);{have⟨e,J⟩:=Ab (l:=a.edges) (k:=i) zO;refine Au.run (fa Dw ?_);refine D_ (v:=.slice ea a.edges.length ec) GJ (by rw[R.cell];rfl) zA ?_;refine Y' (i:=i) GD (h1.frame (q.old.mono hS)) J rfl ?_;rintro b6 o6 c6 b5 aq ⟨rfl,ar⟩;refine L_ (cs:=Dp e) (by rw[B0];exact Qg) aq zA ?_;refine Ag _ AcF LO rfl ?_;intro x H9 hx au aw ax;have ay:=q.box hx au aw ax;refine A9 (cs:=Dp e) ay 4 (by rw[B0];rfl) rfl (by rw[B0];decide) (EU e) λHq b=>?_;rw[Ai (show(Dp e).length=AcF.length by rw[B0,Zh])]at b;have A:=b.blk 1 rfl;have m:=b.blk 4 rfl;have s:a.has e.fr=(zT (0<=e.fr)&&zT (e.fr<(n:Int))):=by{rw[JW,M]};have t:a.has e.to=(zT (0<=e.to)&&zT (e.to<(n:Int))):=by{rw[JW,M]};refine Ap.lex rfl zX (fa Ie ?_);refine D_ (v:=A_ e.fr) E_ (by rw[m.cell];rfl) zA ?_;by_cases c1:0<=e.fr;{have C:zT (0<=e.fr)=zW:=m_ c1;(conv=>whnf);rw[C];refine fa Ie ?_;refine D_ (v:=A_ e.fr) E_ (by rw[m.cell];rfl) zA ?_;refine fa Je ?_;refine D_ (v:=A_ n) E_ (by rw[A.cell];rfl) zA ?_;by_cases c2:e.fr<(n:Int);{have G:zT (e.fr<(n:Int))=zW:=m_ c2;(conv=>whnf);rw[G];refine fa Gh ?_;refine D_ (v:=A_ e.to) E_ (by rw[m.cell];rfl) zA ?_;by_cases c3:0<=e.to;{have K:zT (0<=e.to)=zW:=m_ c3;(conv=>whnf);rw[K];refine fa Gh ?_;refine D_ (v:=A_ e.to) E_ (by rw[m.cell];rfl) zA ?_;refine fa Je ?_;refine D_ (v:=A_ n) E_ (by rw[A.cell];rfl) zA ?_;by_cases c4:e.to<(n:Int);{have U:zT (e.to<(n:Int))=zW:=m_ c4;have az:JZ a e=zY (e.fr.toNat,e):=by{unfold JZ xS;rw[s,t,C,G,K,U];rfl};have⟨row,d⟩:=Ab (l:=xB n (JZ a) (a.edges.take i)) (k:=e.fr.toNat) (by rw[DK];omega);have b7:row.length<=i:=by{rw[Hc _ _ (zO:e.fr.toNat<n)]at d;injection d with d;rw[<-d];exact yV (rJ _ _) (mL _ _)};obtain⟨ra,rc,B,-⟩:=b.row 2 rfl d;have b0:=b.rowNe 2 rfl B d;have D:∀k,O_ (.slice ra row.length rc) k->(pT Eg 185 79 tb vt (xB n (JZ a) (a.edges.take i))).foot k:=λk g=>.inr ⟨e.fr.toNat,_,B,g⟩;have d1:=b.apart2 (i:=1) (j:=2) rfl rfl zQ;have d4:=b.apart2 (i:=4) (j:=2) rfl rfl zQ;have qn:nb<Hq.size/\¬O_ (.slice ra row.length rc) nb:=⟨(b.in_ 1 rfl rfl).2,λh=>d1 nb rfl (D nb h)⟩;have qx:x<Hq.size/\¬O_ (.slice ra row.length rc) x:=⟨(b.in_ 4 rfl rfl).2,λh=>d4 x rfl (D x h)⟩;have qt:tb<Hq.size/\¬O_ (.slice ra row.length rc) tb:=⟨(b.in_ 2 rfl (.inl rfl)).2,b0⟩;(conv=>whnf);rw[U];refine Ap.heldZ (λk=>k<Hq.size/\¬O_ (.slice ra row.length rc) k) [18] (sq [0,1,2,3,4,5,6,7,8,9,10,11,12,13,14] (.f 15 (.f 16 (sq [17] (.f 18 .e))))) rfl zX (fa LV ?_);refine D_ (v:=.slice (T_ tb) n n) Tg (by rw[A.cell];rfl) qn ?_;refine fa Ie ?_;refine D_ (v:=A_ e.fr) E_ (by rw[m.cell];rfl) qx ?_;refine fa LV ?_;refine D_ (v:=.slice (T_ tb) n n) Tg (by rw[A.cell];rfl) qn ?_;refine fa Ie ?_;refine D_ (v:=A_ e.fr) E_ (by rw[m.cell];rfl) qx ?_;refine ix Um zO zO (D_ GJ (b.tcell 2 rfl B (by rw[K_,zG])) qt ?_);refine L_ (cs:=Dp e) (by rw[B0];exact Qg) (m.cells λj v hv=>by rw[K_];exact hv) qx ?_;refine As GD (Dp e) rfl (B0 e) zQ zQ ?_;intro b8 H11 V b4 W u;have X:=b.skip V u;refine⟨u.mono λk g=>by have:=g.1;omega,?_⟩;refine Y7 (ds:=Dp e) (y:=e) X 2 GD rfl B d (W.cells λj v hv=>by rw[K_];exact hv) ⟨rfl,ar⟩ (EU e) zO zQ λwa wc H12 mid Y=>?_;refine⟨(u.mono λk g=>by have:=g.1;omega).trans (Y.mono λk g=>⟨by have:=g.1;omega,g.2⟩),?_⟩;refine ix Um zO zO (oW mid GJ (by rw[K_,zG]) λH13 Z=>?_);have g1:=LX az d;rw[<-Ac J]at g1;(conv=>whnf);rw[Q_ i zO];refine⟨rfl,i+1,zZ,⟨zO,vt.set e.fr.toNat (.slice wa (row.length+1) wc),?_⟩,zO⟩;rw[g1];exact Z.pick [0,1,2,3] zQ};{have U:zT (e.to<(n:Int))=zU:=j_ c4;(conv=>whnf);rw[U];have g:JZ a e=zV:=by{unfold JZ xS;rw[s,t,C,G,K,U];simp};have g1:=Eo (n:=n) (l:=a.edges.take i) g;rw[<-Ac J]at g1;(conv=>whnf);rw[Q_ i zO];refine⟨rfl,i+1,zZ,⟨zO,vt,?_⟩,zO⟩;rw[g1];exact b.pick [0,1,2,3] zQ}};{have K:zT (0<=e.to)=zU:=j_ c3;(conv=>whnf);rw[K];have g:JZ a e=zV:=by{unfold JZ xS;rw[s,t,C,G,K];simp};have g1:=Eo (n:=n) (l:=a.edges.take i) g;rw[<-Ac J]at g1;(conv=>whnf);rw[Q_ i zO];refine⟨rfl,i+1,zZ,⟨zO,vt,?_⟩,zO⟩;rw[g1];exact b.pick [0,1,2,3] zQ}};{have G:zT (e.fr<(n:Int))=zU:=j_ c2;(conv=>whnf);rw[G];have g:JZ a e=zV:=by{unfold JZ xS;rw[s,t,C,G];simp};have g1:=Eo (n:=n) (l:=a.edges.take i) g;rw[<-Ac J]at g1;(conv=>whnf);rw[Q_ i zO];refine⟨rfl,i+1,zZ,⟨zO,vt,?_⟩,zO⟩;rw[g1];exact b.pick [0,1,2,3] zQ}};{have C:zT (0<=e.fr)=zU:=j_ c1;(conv=>whnf);rw[C];have g:JZ a e=zV:=by{unfold JZ xS;rw[s,t,C];simp};have g1:=Eo (n:=n) (l:=a.edges.take i) g;rw[<-Ac J]at g1;(conv=>whnf);rw[Q_ i zO];refine⟨rfl,i+1,zZ,⟨zO,vt,?_⟩,zO⟩;rw[g1];exact b.pick [0,1,2,3] zQ}};{obtain rfl:i=a.edges.length:=zO;rw[zH]at q;(conv=>whnf);refine⟨nb,tb,zY ⟨mb,0,zV⟩,n,vt,rfl,?_⟩;unfold pE;rw[<-M];exact q.pick [1,2,3] zQ}}}
def MD(l:List Int):Nat:=l.foldl (λh x=>(h*31+x.toNat+1) % 1000003) 7
def CN(l:List Int):Nat:=MD l % 1024
def dU(l:List Int):MD l<1000003:=by have a:∀(l:List Int) (h:Nat),h<1000003->l.foldl (λh x=>(h*31+x.toNat+1) % 1000003) h<1000003:=by{intro l;induction l with|nil=>exact λh b=>b|cons x l c=>exact λh b=>c _ (Nat.mod_lt _ zQ)};exact a l 7 zQ
def X6(l:List Int)(x:Int):MD (l++[x])=(MD l*31+x.toNat+1) % 1000003:=by unfold MD;rw[xP];rfl
def Z9{a:Option Addr}{c:Nat}(o:∀k,S k->k<H.size)(h:b_ a_ S H a c xs)(p:∀q∈xs,0<=q/\q<65536):
  BZ prog 146 #[.slice a xs.length c] H (.int .i64 (CN xs:Int)):=by have e:=h.le;unfold maxLen at e;refine Aj.of_vc func146 rfl (call146 _) ?_;(conv=>whnf);refine Ay.mk [3,4] (λi:Nat=>[A_ (MD (xs.take i):Int),A_ i]) (λi H2=>i<=xs.length/\C_ (H_ H) H H2) (λi _=>xs.length-i) ?_ ?_;{(conv=>whnf);exact⟨0,rfl,q_ _,C_.refl _ _⟩};{rintro i H2 n ⟨u,f⟩;have g:=dU (xs.take i);refine AD.m2 (λr=>?_) (λr=>?_);{have⟨x,j⟩:=Ab (l:=xs) (k:=i) zO;have s:=p x (e_ j);have d:=X6 (xs.take i) x;rw[<-Ac j]at d;(conv=>whnf);rw[U_ (x:=(MD (xs.take i):Int)*31) zO];refine Y' (i:=i) AB (h.frame (f.mono o)) j rfl ?_;rintro v w y t m ⟨rfl,-⟩;refine lT E_ m.one ?_;(conv=>whnf);rw[U_ (x:=(MD (xs.take i):Int)*31+x) zO];(conv=>whnf);rw[U_ (x:=(MD (xs.take i):Int)*31+x+1) zO];rw[show(MD (xs.take i):Int)*31+x+1=((MD (xs.take i)*31+x.toNat+1:Nat):Int) by omega];refine Yo (a:=MD (xs.take i)*31+x.toNat+1) (b:=1000003) zQ ?_;rw[<-d];(conv=>whnf);rw[Q_ i zO];exact⟨rfl,i+1,zZ,⟨zO,f⟩,zO⟩};{obtain rfl:i=xs.length:=zO;rw[zH]at g ⊢;refine Yo (a:=MD xs) (b:=1024) zQ ?_;(conv=>whnf);exact⟨rfl,f⟩}}
abbrev tI:Ty Int:=HT .i64
abbrev FC:Ty (List Int):=zC tI
def bK(ca na fa:Option Addr)(cc nc fc fl:Nat)(cells:List (BitVec 256))(next:List (List Int))(S:Nat->Prop)(H:Aa)(hS:∀k,S k->k<H.size)
  (hc:b_ CU S H ca cc cells) (hn:b_ FC S H na nc next) (a7:fl<=9223372036854775807):
  BZ prog 115 #[.slice ca cells.length cc,.slice na next.length nc,.slice fa fl fc] H (.bool (BN cells next fl)):=by
 have lc:=hc.le;have ln:=hn.le;unfold maxLen at lc ln;refine Aj.of_vc func115 rfl (call115 _) (Ag (BL 0) (Ah 0) rfl rfl ?_);intro p H1 hp a8 O P;(conv=>whnf);refine Ay.mk [16] (λk:Nat=>[A_ k]) (λk H2=>k<=cells.length/\C_ (H_ H) H H2/\p<H2.size/\∃a,EH 0#256 (cells.take k)=zY a/\R_ H2 p 101 (Ah a)) (λk _=>cells.length-k) ?_ ?_;{(conv=>whnf);exact⟨0,rfl,zO,P.mono (λk s=>by unfold H_ at s;omega),zO,0,rfl,O⟩};{
 rintro k H2 a5 ⟨s,B,Q,a,g,I⟩;(conv=>whnf);refine AD.m2 (λh=>?_) (λh=>?_);{have⟨c,C⟩:=Ab (l:=cells) (k:=k) zO;refine Y' Dz (hc.frame (B.mono hS)) C rfl ?_;rintro b o cs R i rfl;refine L_ (cs:=Ah c) Bh i zA (Ag (BL 0) (Ah 0) rfl rfl ?_);intro q H3 M a9 T J;refine wM rfl T (zQ:0+4<=4) rfl ?_;intro H4 U K ab;have y:R_ H4 q 101 (Ah c):=U;have z:R_ H4 p 101 (Ah a):=(I.agr J (zO:p<q)).agr K (zO:p≠q);refine L_ (cs:=Ah a) Bh (z.cells (λj v u=>by simpa using u)) zA (L_ (cs:=Ah c) Bh (y.cells (λj v u=>by simpa using u)) zA (Al (Vr a c H4) ?_));intro H5 d;refine Ct CB (BL 0) rfl (Ah 0) rfl (Oq (a &&& c) 0#256 ?_);have hA:C_ (H_ H) H H5:=(B.trans ((J.mono (λk s=>by unfold H_ at s;omega)).trans (K.mono (λk s=>by unfold H_ at s;omega)))).trans (d.mono (λk s=>by unfold H_ at*;omega));by_cases N:a &&& c=0#256;{rw[show zT (a &&& c=0#256)=zW by simpa using N];have D:=z.agr d (zO:p<H4.size);have L:=y.agr d (zO:q<H4.size);refine L_ (cs:=Ah a) Bh (D.cells (λj v u=>by simpa using u)) zA (L_ (cs:=Ah c) Bh (L.cells (λj v u=>by simpa using u)) zA (Al (Hj a c H5) ?_));intro H6 E;refine wM rfl (D.agr E D.lt) (zQ:0+4<=4) rfl ?_;intro H7 V W ae;(conv=>whnf);rw[Q_ k zO];have ag:=Bl E;have ah:=Bl d;refine⟨rfl,k+1,zZ,⟨zO,?_,zO,a ||| c,?_,V⟩,zO⟩;{exact(hA.trans (E.mono (λk s=>by unfold H_ at*;omega))).trans (W.mono (λk s=>by unfold H_ at s;omega))};{rw[Ac C,Nl g,I_ N]}};{rw[show zT (a &&& c=0#256)=zU by simpa using N];(conv=>whnf);refine⟨?_,hA⟩;have:EH 0#256 cells=zV:=by{rw[<-uM (k+1) cells,La,Ac C,Nl g,G_ N]<;>rfl};simp[BN,this]}};{
 have X:k=cells.length:=zO;subst X;rw[zH]at g;(conv=>whnf);refine Ap.quiet (H_ H2) rfl zX ?_;have f:∀{H':Aa},C_ (H_ H2) H2 H'->C_ (λk=>k<H.size) H H':=λh=>B.trans (h.mono (λk s=>by unfold H_ at*;omega));refine L_ (cs:=Ah a) Bh (I.cells (λj v u=>by simpa using u)) Q (nA (λH' _=>HN 0 255 zQ zQ H') (Oq a (AL 0 255) ?_));rw[LA];refine AD.mk (λG=>?_) (λG=>?_)<;>simp only[Bool.not_eq_true',Bool.not_eq_false',yD,oR]at G;{
 (conv=>whnf);intro H5 d;(conv=>whnf);exact⟨by
  have e:(a==AlK 256)=zU:=beq_eq_false_iff_ne.2 G;rw[BN,g];simp only[e,wZ],f d⟩};refine AD.m2 (λY=>?_) (λY=>?_);{(conv=>whnf);intro H5 d;(conv=>whnf);exact⟨by simp[BN,g,show¬1<=next.length by omega],f d⟩};refine AD.m2 (λh3=>?_) (λh3=>?_);{(conv=>whnf);intro H5 d;(conv=>whnf);exact⟨by simp[BN,g,show¬next.length<=65536 by omega],f d⟩};(conv=>whnf);intro H5 d;refine AD.mk (λh4=>?_) (λh4=>?_)<;>simp only[bne_iff_ne,ne_eq,bne_eq_false_iff_eq]at h4;{(conv=>whnf);exact⟨by simp[BN,g,show¬next.length=fl by omega],f d⟩};have Z:next.length=fl:=zO
 have w:BN cells next fl=next.all (IQ next.length cells.length):=by{have e:(a==AlK 256)=zW:=beq_iff_eq.2 G;rw[BN,g];simp only[e,m_ (zO:1<=next.length),m_ (zO:next.length<=65536),beq_iff_eq.2 Z,Bool.and_self,wX]}
 rw[w];have F:∀{k:Nat} {row:List Int},next[k]?=zY row->IQ next.length cells.length row=zU->next.all (IQ next.length cells.length)=zU:=by{intro k row G Y;rw[mM];exact⟨row,e_ G,by simp[Y]⟩}
 have a0:=hn.frame ((f d).mono hS);(conv=>whnf);refine Ay.mk [51] (λk:Nat=>[A_ k]) (λk H'=>H'=H5/\k<=next.length/\(next.take k).all (IQ next.length cells.length)=zW) (λk _=>next.length-k) ?_ ?_;{(conv=>whnf);exact⟨0,rfl,rfl,zO,rfl⟩};{
 rintro k H6 a1 ⟨rfl,ai,n⟩;(conv=>whnf);refine AD.m2 (λh=>?_) (λh=>?_);{
 have⟨row,m⟩:=Ab (l:=next) (k:=k) zO;refine Y' Dt a0 m rfl ?_;rintro b o cs R i ⟨ra,rc,rfl,hr⟩;have lr:=hr.le;unfold maxLen at lr;refine lT C9 i.one ?_;refine AD.mk (λh5=>?_) (λh5=>?_)<;>simp only[bne_iff_ne,ne_eq,bne_eq_false_iff_eq]at h5;{(conv=>whnf);exact⟨by rw[F m (by simp[IQ];intro h;omega)],f d⟩};(conv=>whnf);refine Ay.mk [62] (λj:Nat=>[A_ j]) (λj H'=>H'=H6/\j<=row.length/\(row.take j).all (λq=>zT (0<=q)&&zT (q<(next.length:Int)))=zW) (λj _=>row.length-j) ?_ ?_;{(conv=>whnf);exact⟨0,rfl,rfl,zO,rfl⟩};{
 rintro j H7 a2 ⟨rfl,hj,r⟩;(conv=>whnf);refine AD.m2 (λh=>?_) (λh=>?_);{
 have⟨q,M⟩:=Ab (l:=row) (k:=j) zO;have A:¬(0<=q/\q<(next.length:Int))->IQ next.length cells.length row=zU:=by{intro hb;have:(row.all λq=>zT (0<=q)&&zT (q<(next.length:Int)))=zU:=by{rw[mM];exact⟨q,e_ M,by simpa using hb⟩};simp only[IQ,this,tK]}
 refine Y' AB hr M rfl ?_;rintro b2 o2 aj a6 t ⟨rfl,ak⟩;refine lT E_ t.one ?_;refine AD.m2 (λh6=>?_) (λh6=>?_);{(conv=>whnf);exact⟨by rw[F m (A zO)],f d⟩};refine AD.m2 (λh7=>?_) (λh7=>?_);{(conv=>whnf);exact⟨by rw[F m (A zO)],f d⟩};(conv=>whnf);rw[Q_ j zO];refine⟨rfl,j+1,zZ,⟨rfl,zO,?_⟩,zO⟩;rw[Ac M,sC,r];simp;omega};{have a3:j=row.length:=zO;subst a3;rw[zH]at r;(conv=>whnf);rw[Q_ k zO];refine⟨rfl,k+1,zZ,⟨rfl,zO,?_⟩,zO⟩;rw[Ac m,sC,n];simp only[List.all_cons,List.all_nil,Bool.and_true,wX,IQ,r,beq_iff_eq];omega}}};{
 have a4:k=next.length:=zO
 subst a4;rw[zH]at n;(conv=>whnf);exact⟨by rw[n],f d⟩}}}}
def eE(na:Option Addr)(nc c d m:Nat)(next:List (List Int))(S:Nat->Prop)(H:Aa)(r:b_ FC S H na nc next)(A:∀row∈next,row.length=m)(I:c<m)(J:d<m)(s:m<=9223372036854775807):
  BZ prog 163 #[.slice na next.length nc,A_ c,A_ d] H (.bool (FK next c d)):=by
 have B:=r.le;unfold maxLen at B;refine Aj.of_vc func163 rfl (call163 _) ?_;refine AD.mk (λh=>?_) (λh=>?_)<;>simp only[beq_iff_eq,beq_eq_false_iff_ne,Int.natCast_inj,ne_eq]at h;{(conv=>whnf);exact⟨by simp[FK,h],C_.refl _ _⟩};have j:(c==d)=zU:=by simpa using h
 (conv=>whnf);refine Ay.mk [14] (λk:Nat=>[A_ k]) (λk H'=>H'=H/\k<=next.length/\(next.take k).all (λrow=>row[c]?==row[d]?)=zW) (λk _=>next.length-k) ?_ ?_;{(conv=>whnf);exact⟨0,rfl,rfl,zO,rfl⟩};{
 rintro k H1 t ⟨rfl,K,e⟩;refine AD.m2 (λh=>?_) (λh=>?_);{have⟨row,a⟩:=Ab (l:=next) (k:=k) zO;have u:=A row (e_ a);refine Y' Dt r a rfl ?_;rintro b o L C i ⟨ra,rc,rfl,v⟩;refine D_ C9 i.one zA (Ap.lex rfl zX ?_);have⟨x,n⟩:=Ab (l:=row) (k:=c) zO;have⟨y,p⟩:=Ab (l:=row) (k:=d) zO;refine Y' AB v n rfl ?_;rintro M N D w f ⟨rfl,E⟩;refine D_ E_ f.one zA (Y' AB v p rfl ?_);rintro O P F z g ⟨rfl,G⟩;refine lT E_ g.one ?_;refine AD.mk (λh=>?_) (λh=>?_)<;>simp only[bne_iff_ne,ne_eq,bne_eq_false_iff_eq]at h;{(conv=>whnf);refine⟨?_,C_.refl _ _⟩;have:(next.all λrow=>row[c]?==row[d]?)=zU:=by{rw[mM];exact⟨row,e_ a,by simp[n,p,h]⟩};simp only[FK,j,this,Bool.or_false]};{(conv=>whnf);rw[Q_ k zO];refine⟨rfl,k+1,zZ,⟨rfl,zO,?_⟩,zO⟩;rw[Ac a,sC,e];simp[n,p,h]}};{
 have q:k=next.length:=zO
 subst q;rw[zH]at e;(conv=>whnf);exact⟨by simp only[FK,j,e,Bool.false_or],C_.refl _ _⟩}}
end Go.Proofs.YtfbghcpdinlmcaaGreatDoor
