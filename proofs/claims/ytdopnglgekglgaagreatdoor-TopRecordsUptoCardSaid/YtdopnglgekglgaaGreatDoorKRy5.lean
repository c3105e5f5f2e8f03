import Derived.Test.YtdopnglgekglgaaGreatDoorKRy4
import Derived.Laws.Strings
set_option linter.unusedVariables false
set_option linter.unusedSimpArgs false
set_option linter.defProp false
set_option maxHeartbeats 100000000
open Bool renaming noConfusion → AlB
open List renaming range → AhW, length → Al4
set_option maxRecDepth 100000
open Go.Proofs.Tryz
open Go renaming Value → v_, Program → w_, TypeId → x_
namespace Go.Proofs.YtdopnglgekglgaaGreatDoor
section
attribute [local irreducible] AN Bb AY
theorem OG{f:FuncId}{first cap:Array v_}(r:ReM)(h:r.plain=true)(B:r.nodes≤1000000000)(H:Aa):Al prog 197 #[Av r,.func (.func f) first cap] H fun v H'=>BldR H H' r v:=by
 rw[C7];refine Al.of_vc func197 rfl (call197 _) (BV (St.nil H) _ [C_ 0,C_ 0,C_ 0,.slice none 0 0] XD rfl fun y H1 st1=>(NV underlying66 (Gg.mk (JR r) #[EJ r] (Jc r) (PI r B H1) ?_)));rintro _ H2 ⟨rfl,m⟩;have k:=st1.call m;by_cases e:2000<r.nodes
 ·have p:decide ((2000:Int)<(r.nodes:Int))=true:=s_;(conv=>whnf);rw[p];refine Ah underlying304 rfl _ XD [C_ 0,C_ 0,C_ 0,.slice none 0 0] rfl (AD (cs:=[C_ 0,C_ 0,C_ 0,.slice none 0 0]) k 0 rfl rfl (J_ _) rfl fun H3 b=>?_);refine L_ (cs:=[C_ 0,C_ 0,C_ 0,.slice none 0 0]) ((b.blk 0 rfl).cells fun j v a=>by rw[P_];exact a) trivial ?_;(conv=>whnf);exact⟨b.old,by rw[I_ e]<;>rfl⟩
 ·have p:decide ((2000:Int)<(r.nodes:Int))=false:=m_;have C:=D6 r;have D:=EN r h 0;(conv=>whnf);rw[p];refine Ah underlying321 rfl _ bd_z (bdL 0 (.slice none 0 0) (.func (.func f) first cap)) (by kernel_rfl) (BC (bdL 0 (.slice none 0 0) (.func (.func f) first cap)) rfl ?_);intro bb H3 q t u w;have b:St H H3 (pB tBd bb (bdL 0 (.slice none 0 0) (.func (.func f) first cap))::pS tEd 332 none 0 0 []::[pB 304 y [C_ 0,C_ 0,C_ 0,.slice none 0 0]]):=((k.box q t u w).nils tEd 332).pick [1,2,0] (by decide);have A:=AeX (sub:=(.func (.func f) first cap)) (n:=0) (es:=[]) r h b (by omega) (by simp only[J'];omega);rw[C7]at A;refine Aj.mk A ?_;rintro _ H4 ⟨rfl,a4,g,l⟩;rw[Ybj,P_]at l;refine fa ?_;refine fa ?_;refine Bh l 0 rfl (show 1<6 by decide) rfl fun H5 x=>(fa ?_);refine fa ?_;refine Bh x 0 rfl (show 2<6 by decide) rfl fun H6 c=>(fa ?_);refine B_ ((c.blk 0 rfl).cellE rfl) trivial (fa ?_);refine fa ?_;refine lT ((c.blk 0 rfl).cellE rfl) ?_;have E:decide ((65536:Int)<(i_ r:Int))=false:=m_;(conv=>whnf);rw[E];refine fa ?_;have z:AL H6 bb 0 (nfL (Be r) (.slice a4 (Be r).edges.length g)):=(c.blk 0 rfl).cells fun j v a=>by
   rw[P_]
   match j,a with
   | 0,a=>exact a
   | 1,a=>exact a
   | 2,a=>exact a
   | 3,a=>exact a
  refine L_ (cs:=nfL (Be r) (.slice a4 (Be r).edges.length g)) z trivial (AD (cs:=nfL (Be r) (.slice a4 (Be r).edges.length g)) c 2 rfl rfl (J_ _) rfl fun H7 d=>?_);rw[Bx (show(nfL (Be r) (.slice a4 (Be r).edges.length g)).length=4 from rfl)]at d;refine L_ (cs:=nfL (Be r) (.slice a4 (Be r).edges.length g)) ((d.blk 2 rfl).cells fun j v a=>by rw[P_];exact a) trivial ?_;(conv=>whnf);exact⟨d.old,by rw[G_ e];exact⟨a4,g,rfl,St.own d 1 rfl⟩⟩
theorem AaT{r:ReM}(a:r.plain=true)(e:r.nodes≤2000):(Be r).Rng∧(Be r).edges.length≤33554432:=by
 have c:=D6 r;have d:=EN r a 0;have b:=CS r a 0;refine⟨⟨Co (by omega),Co (by omega),Co (by omega)⟩,?_⟩;show(AV r 0).2.2.length≤_;omega
theorem ZD{S:Nat→Prop}{H:Aa}{v:v_}{a:O_}{b:Int}(p:∀k,S k→k<H.size)(h:NfV S H v a)(d:GG prog H):
  Al prog 200 #[v,C_ b] H fun r H'=>A_ (D_ H) H H'∧match D8 a b with
   | .error e=>r= .tuple #[.pointer none,C_ e]
   | .ok F=>∃v,r= .tuple #[v,C_ 0]∧∃(o:AM),Bc (fun k=>H.size≤k∧k<H'.size) H' v (some o)∧LQ a F (Ar (some o)) (AG (some o))∧e_ (some o)=F.length∧IE (some o):=by
 by_cases j:b<1∨4096<b
 ·rw[WR j];exact(Kn h j).mono fun r H' ⟨g,c⟩=>⟨c,g⟩
 ·obtain⟨m,rfl⟩:=Yav (show 0≤b by omega);rw[TO (by omega) (by omega)];refine(N0 p h d (budget:=m) (by omega) (by omega)).mono fun r H' ⟨g,c⟩=>⟨g,?_⟩;have f:=detA a (most:=m) (by omega);cases hd:Gj m (Bj a) (De (CM a)) (Kh a)with
  | none=>
    rw[hd]at c f;rw[←f];exact c
  | some q=>
    have⟨F,rows⟩:=q;rw[hd]at c f;rw[←f];obtain⟨t,rfl,l⟩:=c;have⟨n,u,w⟩:=Ac5 (by omega) (by omega) hd;rw[n,I_ rfl]at l;exact⟨t,rfl,_,l,u,w,⟨_,_,_,by
     unfold Mb;rw[Z_,I_ n]⟩⟩
theorem AfJ{P:w_}{t e mb o:Nat}{v:v_}{l:List v_}{H:Aa}{K:Aa→Prop}(d:K_ H mb e l) [ht:CellT P t](f:o<l.length)(g:v.oneCell'=true)
  (k:∀H',K_ H' mb e (l.set o v)→A_ (fun k=>k<H.size∧k≠mb) H H'→H'.size=H.size→K H'):By P (Instr.storeAt t (.pointer (some ⟨mb,o,none⟩)) v) H K:=by
 refine Zak d f g ?_;intro H' a b c;exact k H' a (b.mono fun k h=>h.2) c
def mkL(b m:Int):List v_:=[C_ b,C_ m]
theorem mk_z:(prog.info? 296).bind (·.zero)=some (.agg (mkL 0 0).toArray):=by kernel_rfl
theorem X6(r:ReM)(w:r.plain=true)(hn:r.nodes≤2000){H:Aa}{mb:Nat}{b:Int}(st:St H H [])(x:K_ H mb 296 (mkL b 0))(y:GG prog H):
  Al prog 184 #[H_ mb,Av r] H fun R H'=>A_ (fun k=>k<H.size∧k≠mb) H H'∧H.size≤H'.size∧match D8 (Be r) b with
   | .error e=>R= .tuple #[.pointer none,C_ e]
   | .ok F=>K_ H' mb 296 (mkL b (F.length:Int))∧∃v o,R= .tuple #[v,C_ 0]∧Bc (fun k=>H.size≤k∧k<H'.size) H' v (some o)∧LQ (Be r) F (Ar (some o)) (AG (some o))∧e_ (some o)=F.length∧IE (some o):=by
 have C:=x.lt;have a5:∀{H':Aa},A_ (D_ H) H H'→A_ (fun k=>k<H.size∧k≠mb) H H':=fun h=>h.mono fun k a=>a.1;refine Al.of_vc func184 rfl (call184 _) (Aj.mk (OG r w (by omega) H) ?_);rintro _ H2 ⟨D,Q⟩;rw[G_ (by omega)]at Q;obtain⟨T,U,rfl,z⟩:=Q;have⟨a6,a7,e2,E⟩:=st.got D z;injection e2 with e21 e22 e23
 subst e21;subst e23;refine BV E _ [C_ 0,C_ 0,C_ 0,.slice none 0 0] XD rfl fun p H3 I=>(AD (cs:=nfL (Be r) (.slice T (Be r).edges.length U)) I 1 rfl rfl (J_ _) rfl fun H4 c=>?_);rw[Bx (show(nfL (Be r) (.slice T (Be r).edges.length U)).length=4 from rfl)]at c;have V:=c.blk 1 rfl;have⟨hr,hl⟩:=AaT w hn;have m:=x.agr c.old C;have g:∀{G:Aa},A_ (D_ H4) H4 G→A_ (fun k=>k<H4.size∧k≠mb) H4 G:=fun h=>h.mono fun k a=>a.1;have A:∀{G:Aa},A_ (fun k=>k<H4.size∧k≠mb) H4 G→A_ (fun k=>k<H.size∧k≠mb) H G:=fun h=>(c.old.mono fun k a=>a.1).trans (h.mono fun k a=>⟨Ae c.old a.1,a.2⟩);have W:H.size≤H4.size:=Ap c.old;refine Au.heldZ (fun k=>k<H4.size∧k≠mb) [] (sq [0,1,2,3,4] (.f 5 (.f 6 (sq [7,8] (.f 9 (sq [10,11,12] (.f 13 .e))))))) rfl (by kernel_rfl) ?_;have J:p≠mb:=by
  have:=St.ge c 1 rfl (show(pB 304 p _).foot p from rfl);omega
 refine Uv hr hl V ⟨V.lt,J⟩ (c.view 0 rfl) fun v5 K=>(F_ ?_);refine B_ (m.cellE rfl) trivial (⟨A_.refl _ _,?_⟩);refine Aj.mk (ZD (b:=b) (S:=D_ H4) (fun k a=>a) K (y.agr c.old)) ?_;rintro r5 H5 ⟨d,j⟩;have n:=m.agr d m.lt;refine⟨g d,?_⟩;cases hd:D8 (Be r) b with
 | error e=>
   rw[hd]at j;simp only at j;subst j;have he:=(Mm hd).1;have X:(e==0)=false:=beq_eq_false_iff_ne.2 he;refine Aj.mk (R:=fun R G=>R= .tuple #[.pointer none,C_ e]∧G=H5) (Al.of_vc func199 rfl (call199 _) (by
    refine Af.run ?_;(conv=>whnf);rw[X];(conv=>whnf);exact⟨rfl,rfl⟩)) ?_
   rintro _ _ ⟨rfl,rfl⟩;refine⟨g d,?_⟩;(conv=>whnf);refine⟨g d,?_⟩;(conv=>whnf);exact⟨A (g d),by have:=Ap d;omega,rfl⟩
 | ok F=>
   rw[hd]at j;obtain⟨L,rfl,o,t,hL,Y,M⟩:=j;have hF:=t.steps;have a8:=hF.n2;have X:((0:Int)==0)=true:=rfl;have B:Bc (fun k=>H4.size≤k∧k<H5.size) H5 L (some o):=t;have Z:mb<H4.size:=m.lt;refine Aj.mk (R:=fun R G=>R= .tuple #[L,C_ 0]∧A_ (fun k=>k<H5.size∧k≠mb) H5 G∧H5.size≤G.size∧K_ G mb 296 (mkL b (F.length:Int))) (Al.of_vc func199 rfl (call199 _) (by
    refine Af.run (Au.heldZ (fun k=>k=mb) [10] (sq [0,1,2,3,4,5] (.f 6 (sq [7,8,9] (.f 10 .e)))) rfl (by kernel_rfl) (F_ ?_));refine B_ (n.cellE rfl) rfl (Ak (Gz B) fun H6 l=>?_);have N:=n.agr l n.lt;refine⟨l.mono fun k a=>by rw[a];exact n.lt,?_⟩;rw[Y];refine YU ?_;have e1:(if(0:Int)<(F.length:Int)then(F.length:Int)else 0)=(F.length:Int):=by split<;>omega
    rw[e1];refine F_ ?_;refine AfJ N (show 1<2 by decide) rfl fun H7 u q O=>?_;(conv=>whnf);refine⟨rfl,(l.mono fun k a=>a.1).trans (q.mono fun k a=>⟨Ae l a.1,a.2⟩),?_,u⟩;have:=Ap l;omega)) ?_
   rintro _ H7 ⟨rfl,q,O,u⟩;have a0:=Ap d;have P:A_ (fun k=>k<H4.size∧k≠mb) H4 H7:=(g d).trans (q.mono fun k a=>⟨by omega,a.2⟩);refine⟨P,?_⟩;(conv=>whnf);refine⟨P,?_⟩;(conv=>whnf);refine⟨A P,by omega,u,L,o,rfl,(t.frame (q.mono fun k a=>⟨a.2,by omega⟩)).mono fun k a=>⟨by omega,by omega⟩,hL,Y,M⟩
theorem Ww(a:O_)(x:List Int){b:Nat}(d:256≤b):Bj a x b=[]:=by
 have h:∀q,goS a (fun q=>q∈x) b q→False:=EX (Y:=fun _=>False) (fun q ⟨e,_,_,c,_⟩=>by
  rw[BitVec.getLsbD_of_ge _ _ d]at c;cases c) fun e _ _ _ h=>h
 rw[Ydl];intro q f;exact h q ((Fm (Ei (OZ a _ b)) q).1 f)
section
variable{l:List Nat}
end
end
section
attribute [local irreducible] AN Bb AY EA
noncomputable def Cw(b:Int)(r:ReM):Except Int (PA×Nat):=if b<1∨4096<b then .error 2 else if 2000<r.nodes then .error 24 else match DX b r 0 with
 | (_,.error e)=>.error e
 | (m,.ok d)=>.ok (d,m)
theorem KA{b:Int}{r:ReM}{d:PA}{m:Nat}(h:Cw b r= .ok (d,m)):1≤b∧b≤4096∧r.nodes≤2000∧DX b r 0=(m,.ok d):=by
 unfold Cw at h;split at h
 ·cases h
 ·rename_i e;split at h
  ·cases h
  ·cases c:DX b r 0 with
   | mk s a=>
     rw[c]at h;cases a with
     | error f=>simp only at h;cases h
     | ok d=>simp only at h;cases h;exact⟨by omega,by omega,by omega,rfl⟩
end
section
attribute [local irreducible] AN Bb AY EA Gj
theorem ZF{b:Int}{a:O_}{e:Int}(c:1≤b)(d:b≤4096)(h:Gk b a= .error e):e=40:=by
 have h:=(WS h).1;unfold D8 at h;rw[G_ (by omega)]at h;cases hd:Mn a b.toNat with
 | none=>rw[hd]at h;injection h with h;exact h.symm
 | some F=>rw[hd]at h;cases h
theorem Af2{b:Int}{ends:Bool→Bool→Bool}{a c:PA}{e:Int}(d:1≤b)(f:b≤4096)(h:prX b ends a c= .error e):e=40:=by
 unfold prX at h;rw[G_ (by omega)]at h;cases hd:prN a c b.toNat with
 | none=>rw[hd]at h;injection h with h;exact h.symm
 | some F=>rw[hd]at h;cases h
theorem Yu{b:Int}(c:1≤b)(d:b≤4096){ends:Bool→Bool→Bool}{f g:Nat→Nat×Except Int PA}{s a:Nat}{e:Int}(j:∀s a e,f s=(a,.error e)→e=40)(k:∀s a e,g s=(a,.error e)→e=40)(h:MY b ends f g s=(a,.error e)):e=40:=by
 rcases Bt (show BN _ _=_ from h)with h | ⟨m,n,-,h⟩
 ·exact j _ _ _ h
 ·rcases Bt h with h | ⟨p,q,-,h⟩
  ·exact k _ _ _ h
  ·split at h
   ·rename_i l;cases h;exact Af2 c d l
   ·cases h
theorem UD{b:Int}(c:1≤b)(j:b≤4096){ends:Bool→Bool→Bool}{f g:Nat→Nat×Except Int PA}{n s a:Nat}{e:Int}(k:∀s a e,f s=(a,.error e)→e=40)(l:∀s a e,g s=(a,.error e)→e=40)(h:R1 (MY b ends f g s) n=(a,.error e)):e=40:=by
 rcases Bt (show BN _ _=_ from h)with h | ⟨m,N,p,h⟩
 ·exact Yu c j k l h
 ·obtain⟨m,r,t,u,d,-,-,q,rfl,-⟩:=Yv p;obtain⟨F,-,-,-,-,w,-,x,-,-⟩:=SQ q;rw[I_ (QN (by omega))]at h;cases h
mutual
theorem Gs{b:Int}(c:1≤b)(d:b≤4096):∀(r:ReM) (n s a:Nat) (e:Int),Cu b r n s=(a,.error e)→e=40
 | .eps,n,s,a,e,h=>by cases h
 | .cls t,n,s,a,e,h=>by cases h
 | .cat x y,n,s,a,e,h=>by
   simp only[Cu]at h;rcases Bt h with h | ⟨f,A,-,h⟩
   ·exact Gs c d x _ _ _ _ h
   ·rcases Bt h with h | ⟨g,C,-,h⟩
    ·exact Gs c d y _ _ _ _ h
    ·cases h
 | .alt x y,n,s,a,e,h=>by
   simp only[Cu]at h;rcases Bt h with h | ⟨f,A,-,h⟩
   ·exact Gs c d x _ _ _ _ h
   ·rcases Bt h with h | ⟨g,C,-,h⟩
    ·exact Gs c d y _ _ _ _ h
    ·cases h
 | .star x,n,s,a,e,h=>by
   simp only[Cu]at h;rcases Bt h with h | ⟨f,A,-,h⟩
   ·exact Gs c d x _ _ _ _ h
   ·cases h
 | .and_ x y,n,s,a,e,h=>by
   simp only[Cu]at h;exact UD c d (fun s a e=>EW c d x s a e) (fun s a e=>EW c d y s a e) h
 | .minus x y,n,s,a,e,h=>by
   simp only[Cu]at h;exact UD c d (fun s a e=>EW c d x s a e) (fun s a e=>EW c d y s a e) h
theorem EW{b:Int}(c:1≤b)(f:b≤4096):∀(r:ReM) (s g:Nat) (e:Int),DX b r s=(g,.error e)→e=40:=fun r s g e h=>by
 rcases Bt (show BN _ _=_ from h)with h | ⟨j,A,-,h⟩
 ·exact Gs c f r _ _ _ _ h
 ·split at h
  ·cases h;rfl
  ·cases a:Gk b ⟨A.u,A.p,A.q,A.es⟩with
   | error e=>simp only[a]at h;cases h;exact ZF c f a
   | ok d=>simp only[a]at h;cases h
end
section
variable{b b':Int}
theorem WU{a:O_}{d:PA}(k:1≤b)(l:b≤4096)(h:Gk b' a= .ok d)(g:(d.n:Int)≤b):Gk b a= .ok d:=by
 obtain⟨F,c,rfl,-,-,-,-,-⟩:=OQ h;obtain⟨m,rfl,f,j,hd⟩:=L2 c;have g:(F.length:Int)≤b:=g;have e:D8 a b= .ok F:=by
  unfold D8;rw[G_ (by omega)];have:Mn a b.toNat=some F:=Km f hd (by omega);rw[this]
 unfold Gk;rw[e]
theorem WT{a:O_}{d:PA}(k:1≤b)(l:b≤4096)(h:Gk b' a= .ok d)(g:b<(d.n:Int)):Gk b a= .error 40:=by
 obtain⟨F,c,rfl,-,-,-,-,-⟩:=OQ h;obtain⟨m,rfl,f,j,hd⟩:=L2 c;have g:b<(F.length:Int):=g;have e:D8 a b= .error 40:=by
  unfold D8;rw[G_ (by omega)];have:Mn a b.toNat=none:=Q6 f (by omega) hd (by omega);rw[this]
 unfold Gk;rw[e]
theorem Ab4{ends:Bool→Bool→Bool}{a c d:PA}(g:1≤b)(j:b≤4096)(h:prX b' ends a c= .ok d)(f:(d.n:Int)≤b):prX b ends a c= .ok d:=by
 obtain⟨F,e,rfl,-,-,-,-,-,k,l⟩:=SQ h;have f:(F.length:Int)≤b:=f;unfold prX;rw[G_ (by omega)];have:prN a c b.toNat=some F:=Km (by omega) e (by omega);rw[this]
theorem Ab3{ends:Bool→Bool→Bool}{a c d:PA}(g:1≤b)(j:b≤4096)(h:prX b' ends a c= .ok d)(f:b<(d.n:Int)):prX b ends a c= .error 40:=by
 obtain⟨F,e,rfl,-,-,-,-,-,k,l⟩:=SQ h;have f:b<(F.length:Int):=f;unfold prX;rw[G_ (by omega)];have:prN a c b.toNat=none:=Q6 (by omega) (by omega) e (by omega);rw[this]
structure Lst{α:Type}(b:Int)(s:Nat)(x x':Nat×Except Int α):Prop where
 ge:∀s1 a,x=(s1,.ok a)→s≤s1
 low:∀s1 a,x=(s1,.ok a)→(s1:Int)≤b→x'=(s1,.ok a)
 few:∀s1 a,x=(s1,.ok a)→(s:Int)≤b→b<(s1:Int)→∃s2 e,x'=(s2,.error e)
theorem Lst.bind{α β:Type}{s:Nat}{x p:Nat×Except Int α}{f q:α→Nat→Nat×Except Int β}(h:Lst b s x p)(l:∀g a,x=(g,.ok a)→Lst b g (f a g) (q a g)):Lst b s (BN x f) (BN p q):=by
 refine⟨fun g c k=>?_,fun g c k m=>?_,fun g c k t m=>?_⟩
 ·have⟨n,a,d,j⟩:=DW k;exact Nat.le_trans (h.ge _ _ d) ((l _ _ d).ge _ _ j)
 ·have⟨n,a,d,j⟩:=DW k;have:=(l _ _ d).ge _ _ j;rw[NE (h.low _ _ d (by omega))];exact(l _ _ d).low _ _ j m
 ·have⟨n,a,d,j⟩:=DW k;by_cases r:(n:Int)≤b
  ·rw[NE (h.low _ _ d r)];exact(l _ _ d).few _ _ j r m
  ·have⟨u,e,w⟩:=h.few _ _ d t (by omega);exact⟨u,e,RY w⟩
theorem Lst.pure{α:Type}{s:Nat}{a:α}:Lst b s ((s,.ok a):Nat×Except Int α) (s,.ok a):=
 ⟨fun d c h=>by cases h;exact J_ _,fun d c h _=>h,fun d c h e f=>by cases h;omega⟩
theorem Lst.fail{α:Type}{s a:Nat}{e:Int}{c:Nat×Except Int α}:Lst b s ((a,.error e):Nat×Except Int α) c:=
 ⟨fun _ _ h=>(by cases h),fun _ _ h=>(by cases h),fun _ _ h=>(by cases h)⟩
theorem Lst.fin(f:1≤b)(g:b≤4096){s:Nat}{x j:Nat×Except Int BR}(h:Lst b s x j):Lst b s (N1 b' x) (N1 b j):=by
 refine h.bind fun m A _=>?_;split
 ·exact Lst.fail
 ·cases hd:Gk b' ⟨A.u,A.p,A.q,A.es⟩with
  | error e=>exact Lst.fail
  | ok d=>
    refine⟨fun k c a=>by cases a;exact Yds _ _,fun k c a l=>?_,fun k c a r l=>?_⟩
    ·cases a;rw[WU f g hd (by omega)]
    ·cases a;have:b<(d.n:Int):=by omega
     rw[WT f g hd this];exact⟨_,_,rfl⟩
theorem Lst.sign(j:1≤b)(k:b≤4096){ends:Bool→Bool→Bool}{f g l m:Nat→Nat×Except Int PA}(p:∀s,Lst b s (f s) (l s))(q:∀s,Lst b s (g s) (m s))(s:Nat):Lst b s (MY b' ends f g s) (MY b ends l m s):=by
 refine(p s).bind fun r t _=>(q r).bind fun h u _=>?_;cases hd:prX b' ends t u with
 | error e=>exact Lst.fail
 | ok d=>
   refine⟨fun h c a=>by cases a;exact Yds _ _,fun h c a w=>?_,fun h c a x w=>?_⟩
   ·cases a;rw[Ab4 j k hd (by omega)]
   ·cases a;have:b<(d.n:Int):=by omega
    rw[Ab3 j k hd this];exact⟨_,_,rfl⟩
theorem Lst.spl{s n:Nat}{x c:Nat×Except Int O_}(h:Lst b s x c):Lst b s (R1 x n) (R1 c n):=by
 refine h.bind fun d a _=>?_;split
 ·exact Lst.pure
 ·exact Lst.fail
mutual
theorem Fa(a:1≤b)(c:b≤4096):∀(r:ReM) (n s:Nat),Lst b s (Cu b' r n s) (Cu b r n s)
 | .eps,n,s=>Lst.pure
 | .cls t,n,s=>Lst.pure
 | .cat x y,n,s=>by
   simp only[Cu];exact(Fa a c x _ _).bind fun d A _=>(Fa a c y _ _).bind fun e C _=>Lst.pure
 | .alt x y,n,s=>by
   simp only[Cu];exact(Fa a c x _ _).bind fun d A _=>(Fa a c y _ _).bind fun e C _=>Lst.pure
 | .star x,n,s=>by
   simp only[Cu];exact(Fa a c x _ _).bind fun d A _=>Lst.pure
 | .and_ x y,n,s=>by
   simp only[Cu];exact(Lst.sign a c (fun s=>Dy a c x s) (fun s=>Dy a c y s) s).spl
 | .minus x y,n,s=>by
   simp only[Cu];exact(Lst.sign a c (fun s=>Dy a c x s) (fun s=>Dy a c y s) s).spl
theorem Dy(a:1≤b)(c:b≤4096):∀(r:ReM) (s:Nat),Lst b s (DX b' r s) (DX b r s):=fun r s=>(Fa a c r 0 s).fin a c
end
end
theorem Gy{b:Int}{r:ReM}(c:1≤b)(f:b≤4096)(g:r.nodes≤2000):Cw b r=match DX b r 0 with
  | (_,.error e)=>.error e
  | (m,.ok d)=>.ok (d,m):=by
 unfold Cw;exact(G_ (by omega)).trans ((G_ (by omega)).trans (by
  cases DX b r 0 with
  | mk s a=>cases a<;>rfl))
theorem MB{b:Int}{r:ReM}{d:PA}{m:Nat}(h:Cw b r= .ok (d,m)):1≤m∧(m:Int)≤4096∧d.n≤m:=by
 have⟨g,j,t,a⟩:=KA h;have k:(m:Int)≤b:=by
  by_cases l:(m:Int)≤b
  ·exact l
  ·have⟨u,e,f⟩:=(Dy (b':=b) g j r 0).few _ _ a (by omega) (by omega);rw[a]at f;cases f
 obtain⟨w,A,-,-,hd,p⟩:=TW a;obtain⟨c,q,-⟩:=UZ a;have:=c.pos;exact⟨by omega,by omega,by omega⟩
theorem Oe{b a:Int}{r:ReM}{d:PA}{m:Nat}(h:Cw b r= .ok (d,m))(e:(m:Int)≤a)(c:a≤4096):Cw a r= .ok (d,m):=by
 have⟨j,k,f,g⟩:=KA h;have l:=MB h;rw[Gy (by omega) c f,(Dy (by omega) c r 0).low _ _ g e]
theorem Vz{b a:Int}{r:ReM}{d:PA}{m:Nat}(h:Cw b r= .ok (d,m))(c:1≤a)(g:a<(m:Int)):Cw a r= .error 40:=by
 have⟨l,n,j,k⟩:=KA h;have p:=MB h;have⟨q,e,f⟩:=(Dy c (by omega) r 0).few _ _ k (by omega) g;rw[Gy c (by omega) j,f,EW c (by omega) r _ _ _ f]
end
section
attribute [local irreducible] AN Bb AY
end
structure Tk where
 k:Nat
 p:Nat
 s:ByteArray
abbrev FT:=Nat×Nat
def JD(c:Nat):Bool:=decide (c=95∨(97≤c∧c≤122)∨(65≤c∧c≤90))
def dgB(c:Nat):Bool:=decide (48≤c∧c≤57)
def prB(c:Nat):Bool:=decide (32≤c∧c≤126)
def blB(c:Nat):Bool:=decide (c=32∨c=9∨c=10∨c=13)
def FN(p:Nat→Bool)(t:ByteArray):Nat→Nat→Nat
 | 0,i=>i
 | n+1,i=>if p (bt t i)then FN p t n (i+1)else i
def BD(t:ByteArray):Nat→Bool→Nat→Nat
 | 0,_,i=>i
 | n+1,c,i=>if t.size≤i then i else if c then BD t n (bt t i != 10) (i+1)else
   if bt t i=35 then BD t n true (i+1)else if blB (bt t i)then BD t n false (i+1)else i
def Vl(c:Nat):Option Nat:=if dgB c then some (c-48)else if 97≤c∧c≤102 then some (c-87)else none
def Ae7(c:Nat):Option Nat:=if c=110 then some 10 else if c=114 then some 13 else if c=116 then some 9 else if c=34∨c=92 then some c else none
def M0(t:ByteArray):Nat→Nat→Nat→Option Nat×Nat
 | 0,v,i=>(some v,i)
 | n+1,v,i=>if t.size≤i+1 then(none,i+1)else match Vl (bt t (i+1))with
   | none=>(none,i+1)
   | some d=>M0 t n (16*v+d) (i+1)
def FW(t:ByteArray)(i:Nat):Option Nat×Nat:=
 if t.size≤i+1 then(none,i+1)else if bt t (i+1)=120 then M0 t 2 0 (i+1)else(Ae7 (bt t (i+1)),i+1)
def Gv(t:ByteArray)(o:Nat):Nat→Nat→List Nat→FT ⊕ (List Nat×Nat)
 | 0,_,_=>.inl (51,o)
 | n+1,i,l=>if t.size≤i then .inl (51,o)else if bt t i=34 then .inr (l,i+1)else if prB (bt t i)=false then .inl (50,i)else if bt t i≠92 then Gv t o n (i+1) (l++[bt t i])else
   if t.size≤(FW t i).2 then .inl (51,o)else match(FW t i).1 with
    | none=>.inl (50,(FW t i).2)
    | some b=>Gv t o n ((FW t i).2+1) (l++[b])
def Hs(t:ByteArray)(o:Nat):Nat→Nat→FT ⊕ Nat
 | 0,_=>.inl (52,o)
 | n+1,i=>if t.size≤i then .inl (52,o)else if bt t i=92∧i+1<t.size then(if prB (bt t (i+1))then Hs t o n (i+2)else .inl (50,i+1))else
   if prB (bt t i)=false then .inl (50,i)else if bt t i=47 then .inr (i+1)else Hs t o n (i+1)
def X5:List Nat:=[61,59,40,41,123,125,44,124,38,45,46,126,42,43,63]
def DZ:ByteArray:=⟨#[62,62]⟩
def onM(t:ByteArray)(i:Nat):FT ⊕ (Tk×Nat):=
 if JD (bt t i)then(if 32<FN (fun c=>JD c|| dgB c) t (t.size-i) i-i then .inl (1,i)else .inr (⟨1,i,t.extract i (FN (fun c=>JD c|| dgB c) t (t.size-i) i)⟩,FN (fun c=>JD c|| dgB c) t (t.size-i) i))
 else if bt t i=34 then(Gv t i (t.size-(i+1)) (i+1) []).map id fun x=>(⟨2,i,bA x.1⟩,x.2)
 else if bt t i=47 then(Hs t i (t.size-(i+1)) (i+1)).map id fun j=>(⟨3,i,t.extract (i+1) (j-1)⟩,j)
 else if bt t i∈X5 then .inr (⟨4,i,t.extract i (i+1)⟩,i+1)
 else if bt t i=62∧bt t (i+1)=62 then .inr (⟨4,i,DZ⟩,i+2)
 else .inl (50,i)
def HQ(t:ByteArray):Nat→Nat→List Tk→FT ⊕ List Tk
 | 0,_,l=>.inr (l++[⟨0,t.size,⟨#[]⟩⟩])
 | n+1,i,l=>if t.size≤i then .inr (l++[⟨0,t.size,⟨#[]⟩⟩])else match onM t i with
   | .inl e=>.inl e
   | .inr (k,j)=>HQ t n (BD t (t.size-j) false j) (l++[k])
def MW(t:ByteArray):FT ⊕ List Tk:=if 4096<t.size then .inl (1,0)else HQ t t.size (BD t t.size false 0) []
theorem Nc{p:Nat→Bool}{t:ByteArray}:∀n i,i≤FN p t n i∧FN p t n i≤i+n
 | 0,i=>⟨J_ _,J_ _⟩
 | n+1,i=>by
   unfold FN;split
   ·have:=Nc (p:=p) (t:=t) n (i+1);omega
   ·omega
theorem Fu{t:ByteArray}:∀n c i,i≤BD t n c i∧(i≤t.size→BD t n c i≤t.size)
 | 0,c,i=>⟨J_ _,fun h=>h⟩
 | n+1,c,i=>by
   unfold BD;have a:=Fu (t:=t) n (bt t i != 10) (i+1);have b:=Fu (t:=t) n true (i+1);have d:=Fu (t:=t) n false (i+1)
   repeat' split
   all_goals omega
theorem Ue{t:ByteArray}:∀n v i,i≤(M0 t n v i).2∧(i<t.size→(M0 t n v i).2≤t.size)
 | 0,v,i=>⟨J_ _,Nat.le_of_lt⟩
 | n+1,v,i=>by
   unfold M0;have:=fun d=>Ue (t:=t) n d (i+1);split
   ·exact⟨Nat.le_succ _,fun h=>by simp only;omega⟩
   ·split
    ·exact⟨Nat.le_succ _,fun h=>by simp only;omega⟩
    ·rename_i d _;have:=this (16*v+d);omega
theorem L3(t:ByteArray)(i:Nat):i<(FW t i).2∧(i<t.size→(FW t i).2≤t.size):=by
 unfold FW;have:=Ue (t:=t) 2 0 (i+1)
 repeat' split
 all_goals first | omega | (simp only;omega)
theorem Ud{c d:Nat}(h:Vl c=some d):d<16:=by
 unfold Vl dgB at h;split at h
 ·rename_i a;have:=of_decide_eq_true a;cases h;omega
 ·split at h
  ·cases h;omega
  ·cases h
theorem Ug{t:ByteArray}:∀n v i b,(M0 t n v i).1=some b→b<(v+1)*16^n
 | 0,v,i,b,h=>by cases h;simp
 | n+1,v,i,b,h=>by
   unfold M0 at h;split at h
   ·cases h
   ·split at h
    ·cases h
    ·rename_i d hd;have:=Ug n _ _ b h;have:=Ud hd;exact Ybq ‹_› (by rw[Nat.pow_succ,Nat.mul_comm (16^n) 16,←Nat.mul_assoc];exact Nat.mul_le_mul_right _ (by omega))
theorem Ae6{t:ByteArray}{i b:Nat}(h:(FW t i).1=some b):b<256:=by
 unfold FW at h;split at h
 ·cases h
 ·split at h
  ·exact Ug 2 0 _ _ h
  ·simp only[Ae7]at h
   repeat' split at h
   all_goals first | (cases h;omega) | cases h
theorem LD{t:ByteArray}{o:Nat}:∀n i l r,Gv t o n i l= .inr r→i<r.2∧r.2≤t.size
 | 0,i,l,r,h=>by cases h
 | n+1,i,l,r,h=>by
   unfold Gv at h;have c:=L3 t i;have a:=fun l=>LD (t:=t) (o:=o) n (i+1) l r;have b:=fun l=>LD (t:=t) (o:=o) n ((FW t i).2+1) l r
   repeat' split at h
   all_goals first
    | (cases h;done)
    | (cases h;simp only;omega)
    | (have:=a _ h;omega)
    | (have:=b _ h;omega)
theorem P4{t:ByteArray}{o:Nat}:∀n i r,Hs t o n i= .inr r→i<r∧r≤t.size
 | 0,i,r,h=>by cases h
 | n+1,i,r,h=>by
   unfold Hs at h;have a:=P4 (t:=t) (o:=o) n (i+1) r;have b:=P4 (t:=t) (o:=o) n (i+2) r
   repeat' split at h
   all_goals first
    | (cases h;done)
    | (cases h;omega)
    | (have:=a h;omega)
    | (have:=b h;omega)
inductive Ex where
 | nm (p:Nat) (s:ByteArray)
 | tx (p:Nat) (s:ByteArray)
 | re (p:Nat) (s:ByteArray)
 | kd (p:Nat) (a:Ex)
 | un (p:Nat) (s:ByteArray) (a:Ex)
 | bi (p:Nat) (s:ByteArray) (a b:Ex)
 | cl (p:Nat) (s:ByteArray) (l:Ex)
 | nil
 | cons (a l:Ex)
def Ex.snoc:Ex→Ex→Ex
 | .cons a l,x=>.cons a (l.snoc x)
 | _,x=>.cons x .nil
inductive NT where
 | ex (l:Nat)
 | xl (l:Nat) (a:Ex)
 | po
 | pl (a:Ex)
 | at_
 | ar (k m:Nat) (l:Ex)
abbrev W_(b:UInt8):ByteArray:=⟨#[b]⟩
def rkM(s:ByteArray):Int:=if s=W_ 124 then 0 else if s=W_ 38∨s=W_ 45∨s=⟨#[38,45]⟩then 1 else if s=DZ then 2 else if s=W_ 126 then 3 else if s=W_ 46 then 4 else -1
def arM(s:ByteArray):Int:=
 if s=⟨#[99,111,112,121]⟩∨s=⟨#[107,101,121]⟩∨s=⟨#[105,110,115]⟩∨s=⟨#[105,100]⟩∨s=⟨#[102,111,108,100]⟩then 1
 else if s=⟨#[100,101,108]⟩∨s=⟨#[108,101,102,116]⟩∨s=⟨#[114,105,103,104,116]⟩∨s=⟨#[100,101,102,97,117,108,116]⟩then 2
 else if s=⟨#[110,111,114,109]⟩then 3 else if s=⟨#[108,101,116]⟩then -1 else 0
def hd(ts:List Tk):Tk:=ts.headD ⟨0,0,⟨#[]⟩⟩
def isM(ts:List Tk)(s:ByteArray):Bool:=decide ((hd ts).k=4∧(hd ts).s=s)
def inM(o:Nat)(ts:List Tk)(a b:ByteArray)(r:FT ⊕ (Ex×List Tk))(f:Ex→Ex):FT ⊕ (Ex×List Tk):=
 if isM ts a=false then .inl (60,(hd ts).p)else if 64≤o then .inl (23,(hd ts).p)else match r with
  | .inl e=>.inl e
  | .inr (x,us)=>if isM us b then .inr (f x,us.tail)else .inl (60,(hd us).p)
def pE:Nat→NT→Nat→List Tk→FT ⊕ (Ex×List Tk)
 | 0,_,_,_=>.inl (60,0)
 | n+1,.ex l,o,ts=>if l=5 then pE n .po o ts else match pE n (.ex (l+1)) o ts with
   | .inl e=>.inl e
   | .inr (a,us)=>pE n (.xl l a) o us
 | n+1,.xl l a,o,ts=>if(hd ts).k=4∧rkM (hd ts).s=l then(match pE n (.ex (l+1)) o ts.tail with
    | .inl e=>.inl e
    | .inr (b,us)=>pE n (.xl l (.bi (hd ts).p (hd ts).s a b)) o us)else .inr (a,ts)
 | n+1,.po,o,ts=>match pE n .at_ o ts with
   | .inl e=>.inl e
   | .inr (a,us)=>pE n (.pl a) o us
 | n+1,.pl a,o,ts=>if isM ts (W_ 42)|| (isM ts (W_ 43)|| isM ts (W_ 63))then pE n (.pl (.un (hd ts).p (hd ts).s a)) o ts.tail else .inr (a,ts)
 | n+1,.at_,o,ts=>
   if(hd ts).k=2 then .inr (.tx (hd ts).p (hd ts).s,ts.tail)
   else if(hd ts).k=3 then .inr (.re (hd ts).p (hd ts).s,ts.tail)
   else if(hd ts).k=1∧0<arM (hd ts).s then inM o ts.tail (W_ 40) (W_ 41) (pE n (.ar 0 (arM (hd ts).s).toNat .nil) (o+1) ts.tail.tail) (.cl (hd ts).p (hd ts).s)
   else if(hd ts).k=1∧arM (hd ts).s=0 then .inr (.nm (hd ts).p (hd ts).s,ts.tail)
   else if isM ts (W_ 123)then inM o ts (W_ 123) (W_ 125) (pE n (.ex 0) (o+1) ts.tail) (.kd (hd ts).p)
   else if isM ts (W_ 40)then inM o ts (W_ 40) (W_ 41) (pE n (.ex 0) (o+1) ts.tail) id
   else .inl (60,(hd ts).p)
 | n+1,.ar k m l,o,ts=>if k<m then(if 0<k∧isM ts (W_ 44)=false then .inl (60,(hd ts).p)else
    match pE n (.ex 0) o (if 0<k then ts.tail else ts)with
    | .inl e=>.inl e
    | .inr (a,us)=>pE n (.ar (k+1) m (l.snoc a)) o us)else .inr (l,ts)
def nxE(o:Nat)(ts:List Tk)(x:NT):FT ⊕ (Ex×List Tk):=pE (16*ts.length+16) x o ts
structure Df where
 p:Nat
 s:ByteArray
 a:Ex
def AeK:ByteArray:=⟨#[108,101,116]⟩
def pgM:Nat→List Tk→List Df→FT ⊕ (List Df×Ex)
 | 0,_,_=>.inl (60,0)
 | n+1,ts,ds=>if(hd ts).k=1∧(hd ts).s=AeK then
    (if(hd ts.tail).k≠1∨arM (hd ts.tail).s≠0 then .inl (60,(hd ts.tail).p)
    else if isM ts.tail.tail (W_ 61)=false then .inl (60,(hd ts.tail.tail).p)
    else match nxE 0 ts.tail.tail.tail (.ex 0)with
     | .inl e=>.inl e
     | .inr (a,us)=>if isM us (W_ 59)=false then .inl (60,(hd us).p)else pgM n us.tail (ds++[⟨(hd ts.tail).p,(hd ts.tail).s,a⟩]))
   else match nxE 0 ts (.ex 0)with
    | .inl e=>.inl e
    | .inr (a,us)=>if(hd us).k≠0 then .inl (60,(hd us).p)else .inr (ds,a)
def IY(t:ByteArray):FT ⊕ (List Df×Ex):=match MW t with
 | .inl e=>.inl e
 | .inr ts=>pgM ts.length ts []
def DC(ts:List Tk):Prop:=∃l e,ts=l++[e]∧e.k=0
theorem DC.tail{ts:List Tk}(h:DC ts)(b:(hd ts).k≠0):DC ts.tail∧ts.length=ts.tail.length+1:=by
 obtain⟨l,e,rfl,a⟩:=h;cases l with
 | nil=>exact absurd a b
 | cons x l=>exact⟨⟨l,e,rfl,a⟩,rfl⟩
theorem DC.pos{ts:List Tk}(h:DC ts):∃a,ts=hd ts::a:=by
 obtain⟨l,e,rfl,b⟩:=h;cases l with
 | nil=>exact⟨[],rfl⟩
 | cons x l=>exact⟨l++[e],rfl⟩
theorem I8{ts:List Tk}{s:ByteArray}(h:isM ts s=true):(hd ts).k=4:=(of_decide_eq_true h).1
inductive LO where
 | copy | key | ins | del | left | right | default_ | keyed | star | alt | cat | swap | chain
inductive CO where
 | id | fold | norm | star | alt | cat
def AcY:ByteArray:=⟨#[115,116,97,114]⟩
def Ad8:ByteArray:=⟨#[97,108,116]⟩
def AdM:ByteArray:=⟨#[99,97,116]⟩
def LO.s:LO→ByteArray
 | .copy=>⟨#[99,111,112,121]⟩
 | .key=>⟨#[107,101,121]⟩
 | .ins=>⟨#[105,110,115]⟩
 | .del=>⟨#[100,101,108]⟩
 | .left=>⟨#[108,101,102,116]⟩
 | .right=>⟨#[114,105,103,104,116]⟩
 | .default_=>⟨#[100,101,102,97,117,108,116]⟩
 | .keyed=>⟨#[107,101,121,101,100]⟩
 | .star=>AcY
 | .alt=>Ad8
 | .cat=>AdM
 | .swap=>⟨#[115,119,97,112]⟩
 | .chain=>⟨#[99,104,97,105,110]⟩
def CO.s:CO→ByteArray
 | .id=>⟨#[105,100]⟩
 | .fold=>⟨#[102,111,108,100]⟩
 | .norm=>⟨#[110,111,114,109]⟩
 | .star=>AcY
 | .alt=>Ad8
 | .cat=>AdM
inductive Tm where
 | txt (p:Nat) (s:ByteArray)
 | rx (p:Nat) (r:ReM)
 | ca (p:Nat) (op:CO) (n:Option ReM) (to back:ByteArray) (a b:Tm)
 | le (p:Nat) (op:LO) (n:Option ReM) (s:ByteArray) (q a b:Tm)
 | nil
def Tm.isCa:Tm→Bool
 | .ca .. =>true
 | _=>false
def Tm.isLe:Tm→Bool
 | .le .. =>true
 | _=>false
abbrev nx:ByteArray:=⟨#[]⟩
def Gd(s:ByteArray):Nat:=max 1 (2*s.size-1)
def Ey:Option ReM→Nat
 | none=>0
 | some r=>r.nodes
def Tm.sz:Tm→Nat
 | .txt _ s=>Gd s
 | .rx _ r=>r.nodes
 | .ca _ op n to _ a b=>1+Ey n+a.sz+b.sz+(match op with | .norm=>Gd to | _=>0)
 | .le _ op n s q a b=>1+Ey n+q.sz+a.sz+b.sz+(match op with | .ins=>Gd s | _=>0)
 | .nil=>0
def Tm.node:Tm→Option ReM
 | .txt _ s=>some (Cz (byN s))
 | .rx _ r=>some r
 | _=>none
def Ex.place:Ex→Nat
 | .nm p _ | .tx p _ | .re p _ | .kd p _ | .un p _ _ | .bi p _ _ _ | .cl p _ _=>p
 | .cons a _=>a.place
 | .nil=>0
def unM(p:Nat)(s:ByteArray)(t:Tm):FT ⊕ Tm:=match t.node with
 | some n=>.inr (.rx p (if s=W_ 42 then .star n else if s=W_ 43 then .cat n (.star n)else .alt n .eps))
 | none=>match t with
   | .ca .. =>if s=W_ 42 then .inr (.ca p .star none nx nx t .nil)else .inl (72,p)
   | .le .. =>.inr (if s=W_ 42 then .le p .star none nx .nil t .nil else if s=W_ 43 then .le p .cat none nx .nil t (.le p .star none nx .nil t .nil)else .le p .alt none nx .nil t (.le p .copy (some .eps) nx .nil .nil .nil))
   | _=>.inl (72,p)
def S7(s:ByteArray):Option LO:=if s=W_ 124 then some .alt else if s=W_ 46 then some .cat else if s=W_ 126 then some .swap else if s=DZ then some .chain else none
def Sh(s:ByteArray):Option CO:=if s=W_ 124 then some .alt else if s=W_ 46 then some .cat else none
def Rq(s:ByteArray)(x y:ReM):Option ReM:=if s=W_ 124 then some (.alt x y)else if s=W_ 46 then some (.cat x y)else if s=W_ 38 then some (.and_ x y)else if s=W_ 45 then some (.minus x y)else none
def biM(p:Nat)(s:ByteArray)(a b:Tm):FT ⊕ Tm:=match a.node,b.node with
 | some x,some y=>(match Rq s x y with
   | some r=>.inr (.rx p r)
   | none=>.inl (72,p))
 | _,_=>match a,b with
   | .le ..,.le .. =>(match S7 s with
     | some o=>.inr (.le p o none nx .nil a b)
     | none=>.inl (72,p))
   | .ca ..,.ca .. =>(match Sh s with
     | some o=>.inr (.ca p o none nx nx a b)
     | none=>.inl (72,p))
   | _,_=>.inl (72,p)
inductive AK where
 | node | text | canon | lens
def AK.ok:AK→Tm→Bool
 | .node,t=>t.node.isSome
 | .text,.txt .. =>true
 | .canon,.ca .. =>true
 | .lens,.le .. =>true
 | _,_=>false
def DV:List AK→List Tm→Ex→Option Nat
 | k::ks,t::ts,.cons a l=>if k.ok t then DV ks ts l else some a.place
 | _,_,_=>none
def JZ:Tm→ByteArray
 | .txt _ s=>s
 | _=>nx
def clM(p:Nat)(w:ByteArray)(l:Ex)(ts:List Tm):FT ⊕ Tm:=
 let t (i:Nat):Tm:=ts.getD i .nil
 let go (ks:List AK) (r:Tm):FT ⊕ Tm:=match DV ks ts l with
  | some q=>.inl (72,q)
  | none=>.inr r
 if w=CO.id.s then go [.node] (.ca p .id (t 0).node nx nx .nil .nil)
 else if w=CO.fold.s then go [.node] (.ca p .fold (t 0).node nx nx .nil .nil)
 else if w=CO.norm.s then go [.node,.text,.text] (.ca p .norm (t 0).node (JZ (t 1)) (JZ (t 2)) .nil .nil)
 else if w=LO.del.s then go [.node,.text] (.le p .del (t 0).node (JZ (t 1)) .nil .nil .nil)
 else if w=LO.ins.s then go [.text] (.le p .ins none (JZ (t 0)) .nil .nil .nil)
 else if w=LO.copy.s then go [.node] (.le p .copy (t 0).node nx .nil .nil .nil)
 else if w=LO.key.s then go [.node] (.le p .key (t 0).node nx .nil .nil .nil)
 else if w=LO.left.s then go [.canon,.lens] (.le p .left none nx (t 0) (t 1) .nil)
 else if w=LO.right.s then go [.lens,.canon] (.le p .right none nx (t 1) (t 0) .nil)
 else go [.lens,.text] (.le p .default_ none (JZ (t 1)) .nil (t 0) .nil)
def Kk(p:Nat):FT ⊕ Tm→FT ⊕ List Tm
 | .inl e=>.inl e
 | .inr t=>if 2000<t.sz then .inl (24,p)else .inr [t]
def hdT(l:List Tm):Tm:=l.headD .nil
def V'(env:ByteArray→Option Tm):Ex→FT ⊕ List Tm
 | .nm p s=>match env s with
   | some t=>.inr [t]
   | none=>.inl (70,p)
 | .tx p s=>.inr [.txt p s]
 | .re p s=>match GW s with
   | .inl e=>.inl (e.1,((p:Int)+1+e.2).toNat)
   | .inr r=>.inr [.rx p r]
 | .kd p a=>match V' env a with
   | .inl e=>.inl e
   | .inr l=>match hdT l with
     | .le .. =>Kk p (.inr (.le p .keyed none nx .nil (hdT l) .nil))
     | _=>.inl (72,p)
 | .un p s a=>match V' env a with
   | .inl e=>.inl e
   | .inr l=>Kk p (unM p s (hdT l))
 | .bi p s a b=>match V' env a with
   | .inl e=>.inl e
   | .inr l=>match V' env b with
     | .inl e=>.inl e
     | .inr m=>Kk p (biM p s (hdT l) (hdT m))
 | .cl p s l=>match V' env l with
   | .inl e=>.inl e
   | .inr ts=>Kk p (clM p s l ts)
 | .nil=>.inr []
 | .cons a l=>match V' env a with
   | .inl e=>.inl e
   | .inr t=>match V' env l with
     | .inl e=>.inl e
     | .inr ts=>.inr (hdT t::ts)
def elM(env:ByteArray→Option Tm):List Df→Ex→FT ⊕ Tm
 | [],e=>match V' env e with
   | .inl e=>.inl e
   | .inr l=>.inr (hdT l)
 | d::ds,e=>if(env d.s).isSome then .inl (71,d.p)else match V' env d.a with
   | .inl e=>.inl e
   | .inr l=>elM (fun s=>if s=d.s then some (hdT l)else env s) ds e
def Yf(t:ByteArray):FT ⊕ Tm:=match IY t with
 | .inl e=>.inl e
 | .inr x=>elM (fun _=>none) x.1 x.2
noncomputable def CU(r:ReM):Nat:=match Cw 4096 r with
 | .ok (_,m)=>m
 | .error _=>4097
theorem AaS{b:Int}{r:ReM}(c:1≤b)(a:b≤4096)(h:(CU r:Int)≤b):∃d,Cw 4096 r= .ok (d,CU r)∧Cw b r= .ok (d,CU r):=by
 unfold CU at h ⊢;cases hs:Cw 4096 r with
 | error e=>rw[hs]at h;simp only at h;omega
 | ok x=>
   have⟨d,m⟩:=x;rw[hs]at h;exact⟨d,rfl,Oe hs h a⟩
theorem AaR{b:Int}{r:ReM}(c:1≤b)(g:b≤4096)(k:r.nodes≤2000)(h:b<(CU r:Int)):Cw b r= .error 40:=by
 unfold CU at h;cases hs:Cw 4096 r with
 | ok x=>
   have⟨d,m⟩:=x;rw[hs]at h;exact Vz hs c h
 | error e=>
   cases a:Cw b r with
   | ok x=>
     have⟨d,m⟩:=x;have:=Oe a (MB a).2.1 (Ydj _);rw[hs]at this;cases this
   | error l=>
     rw[Gy c g k]at a;cases j:DX b r 0 with
     | mk s f=>
       rw[j]at a;cases f with
       | ok d=>cases a
       | error e2=>cases a;rw[EW c g r _ _ _ j]
structure LR(a a':Option AM):Prop where
 st:∀q b,b<256→Ar a q b=Ar a' q b
 fi:∀q,AG a q=AG a' q
structure Hn(r:ReM)(A:AM):Prop where
 ok:A.Ok
 made:IE (some A)
 ex:∃d m,Cw 4096 r= .ok (d,m)∧IsPA (some A) d
theorem Hn.like{r:ReM}{A A':AM}(h:Hn r A)(g:Hn r A'):LR (some A) (some A'):=by
 have⟨d,m,x,e⟩:=h.ex;have⟨d',m',j,f⟩:=g.ex;rw[x]at j;cases j;have p:A.next.length=d.n:=e.n
 have t:A'.next.length=d.n:=f.n
 constructor
 ·intro q b u;by_cases c:q<0∨(d.n:Int)≤q
  ·unfold Ar;rw[I_ (by show q<0∨(A.next.length:Int)≤q;rw[p];exact c),I_ (by show q<0∨(A'.next.length:Int)≤q;rw[t];exact c)]
  ·obtain⟨k,rfl⟩:=Yav (a:=q) (by omega);rw[e.st k b (by omega) u,f.st k b (by omega) u]
 ·intro q;by_cases c:0≤q
  ·obtain⟨k,rfl⟩:=Yav c;by_cases w:k<d.n
   ·rw[e.fi k w,f.fi k w]
   ·simp[AG,YaE (l:=A.final) (i:=k) (by rw[h.ok.fl,p];omega),YaE (l:=A'.final) (i:=k) (by rw[g.ok.fl,t];omega)]
  ·simp[AG,c]
open Classical in
noncomputable def Hp(r:ReM):Option AM:=if h:∃A,Hn r A then some h.choose else none
theorem Hn.aut{r:ReM}{A:AM}(h:Hn r A):LR (some A) (Hp r):=by
 have a:∃A,Hn r A:=⟨A,h⟩;unfold Hp;rw[dif_pos a];exact h.like a.choose_spec
theorem M4{g a:Gr}(d:∀n b,b<256→g.next n b=a.next n b)(e:∀n,g.ends n=a.ends n):∀{w:List Nat} {n:Nd},A9 w→(Dl g w n↔Dl a w n)
 | [],n,_=>by show g.ends n=true↔a.ends n=true;rw[e]
 | b::w,n,h=>by
   show(∃t,t∈g.next n b∧Dl g w t)↔∃t,t∈a.next n b∧Dl a w t
   rw[d n b (h b (by simp))];exact exists_congr fun t=>and_congr_right fun _=>M4 d e fun c f=>h c (YbX _ f)
def Hx(g g':Gr):Prop:=∀w,A9 w→(CR g (·=AH) w↔CR g' (·=AH) w)
theorem Hx.of{g a:Gr}(c:∀n b,b<256→g.next n b=a.next n b)(d:∀n,g.ends n=a.ends n):Hx g a:=fun w e=>exists_congr fun n=>and_congr_right fun _=>M4 c d e
theorem Hx.first{g c:Gr}(h:Hx g c){w:List Nat}(k:Dv g (·=AH) w):Dv c (·=AH) w:=by
 obtain⟨⟨e,d,f,j⟩,l⟩:=k;exact⟨⟨e,d,(h w d).1 f,fun u m a b=>j u m a ((h u a).2 b)⟩,fun u a b=>l u a ((h u a).2 b)⟩
open Classical in
noncomputable def FX(g:Gr):Option (List Nat):=if h:∃w,Dv g (·=AH) w then some h.choose else none
theorem KT{g a:Gr}(h:Hx g a){w:List Nat}(k:Dv g (·=AH) w):FX a=some w:=by
 have b:∃w,Dv a (·=AH) w:=⟨w,h.first k⟩;unfold FX;rw[dif_pos b];exact congrArg some (b.choose_spec.uniq (h.first k))
theorem FD{g a:Gr}(h:Hx g a)(k:∀u,A9 u→¬CR g (·=AH) u):FX a=none:=by
 unfold FX;rw[dif_neg];rintro⟨w,⟨d,b,c,e⟩,f⟩;exact k w b ((h w b).2 c)
def UP(w:List Nat)(ok:Bool):Option (List Nat):=if ok then some w else none
theorem LP.o{g a:Gr}(h:Hx g a){w:List Nat}{ok:Bool}(k:LP g w ok):FX a=UP w ok∧(ok=false→w=[]):=by
 cases ok with
 | true=>exact⟨KT h (k.1 rfl),nofun⟩
 | false=>exact⟨FD h (k.2 rfl).2,fun _=>(k.2 rfl).1⟩
section
variable{a a' b b':Option AM}
theorem LR.cat(h:LR a a')(k:LR b b'):Hx (E9 a b) (E9 a' b'):=Hx.of (fun n c d=>by
  show B8 a b n c=B8 a' b' n c;unfold B8;simp only[h.st _ _ d,k.st _ _ d,h.fi]) fun n=>by
  show BH a b n=BH a' b' n;unfold BH;simp only[h.fi,k.fi]
theorem LR.iter(h:LR a a'):Hx (EH a) (EH a'):=Hx.of (fun n c b=>by
  show Bv a n c=Bv a' n c;unfold Bv CL;simp only[h.st _ _ b,h.fi]) fun n=>by
  show Et a n=Et a' n;unfold Et;simp only[h.fi]
theorem LR.accL(h:LR a a'){w:List Nat}(b:A9 w):accL a w=accL a' w:=by
 have d:∀(w:List Nat) (q:Int),A9 w→Hu a w q=Hu a' w q:=fun w=>by
  induction w with
  | nil=>exact fun q _=>rfl
  | cons c w e=>
    intro q b;rw[C9,C9,h.st _ _ (b c (by simp))];exact e _ fun x f=>b x (YbX _ f)
 unfold Go.Proofs.YtdopnglgekglgaaGreatDoor.accL;rw[d w 0 b,h.fi]
theorem LR.acc(h:LR a a')(s:ByteArray):Bs a s=Bs a' s:=by
 rw[←Wv s,LW (Ef s),LW (Ef s),h.accL (Ef s)]
end
noncomputable def Lm(x y:ReM):Option (List Nat):=FX (E9 (Hp x) (Hp y))
noncomputable def X7(x y:ReM):Option (List Nat):=FX (AcQ (Hp x) (Hp y))
noncomputable def WV(x y:ReM):Option (List Nat):=FX (askG xorB (Hp x) (Hp y))
noncomputable def iterW(x:ReM):Option (List Nat):=if AG (Hp x) 0 then some []else FX (EH (Hp x))
noncomputable def Gm(x:ReM)(s:ByteArray):Bool:=Bs (Hp x) s
theorem LN.o{x y:ReM}{A C:AM}(h:Hn x A)(k:Hn y C){t:ByteArray}{i j:Nat}{ok:Bool}(c:LN (some A) (some C) t i j ok):∃w,Lm x y=UP w ok∧t=bA w:=by
 have d:=h.aut.cat k.aut;cases ok with
 | true=>obtain⟨w,a,b,-⟩:=c.1 rfl;exact⟨w,KT d b,a⟩
 | false=>obtain⟨a,-,-,b⟩:=c.2 rfl;exact⟨[],FD d b,a⟩
theorem Jm.o{x:ReM}{A:AM}(h:Hn x A){w:List Nat}{ok:Bool}(a:Jm (some A) w ok):iterW x=UP w ok:=by
 unfold iterW;rw[←h.aut.fi];cases b:AG (some A) 0 with
 | true=>obtain⟨rfl,rfl⟩:=a.1 b;rfl
 | false=>exact(LP.o h.aut.iter (a.2 b)).1
abbrev F3:=Nat×Nat×List Nat
def N'{α β:Type}(x:F3 ⊕ α)(f:α→F3 ⊕ β):F3 ⊕ β:=match x with
 | .inl e=>.inl e
 | .inr a=>f a
def nev(c p:Nat):Option (List Nat)→F3 ⊕ Unit
 | some w=>.inl (c,p,w)
 | none=>.inr ()
def tst(x:Bool)(c p:Nat):F3 ⊕ Unit:=if x then .inr ()else .inl (c,p,[])
noncomputable def bld(b:Nat)(r:ReM)(p:Nat):F3 ⊕ Unit:=if CU r≤b then .inr ()else .inl (40,p,[])
inductive QuM where
 | nil
 | mk (t:Tm) (o i:ReM) (a b:QuM)
def QuM.o:QuM→ReM
 | .nil=>.eps
 | .mk _ o _ _ _=>o
def QuM.i:QuM→ReM
 | .nil=>.eps
 | .mk _ _ i _ _=>i
inductive LnM where
 | nil
 | mk (t:Tm) (s v:ReM) (q:QuM) (a b:LnM)
def LnM.s:LnM→ReM
 | .nil=>.eps
 | .mk _ s _ _ _ _=>s
def LnM.v:LnM→ReM
 | .nil=>.eps
 | .mk _ _ v _ _ _=>v
def Tm.lop:Tm→LO
 | .le _ op _ _ _ _ _=>op
 | _=>.copy
def P9:LnM→Bool
 | .nil=>false
 | .mk t _ _ _ a b=>match t.lop with
   | .left=>true
   | .chain=>P9 a
   | _=>P9 a|| P9 b
def K4:LnM→Bool
 | .nil=>false
 | .mk t _ _ _ a b=>match t.lop with
   | .right=>true
   | .chain=>K4 b
   | _=>K4 a|| K4 b
def Xv:LnM→Bool
 | .nil=>false
 | .mk t _ _ _ a b=>match t.lop with
   | .key=>true
   | .chain=>Xv b
   | _=>Xv a|| Xv b
def unfS(s:BitVec 256):BitVec 256:=(AhW 26).foldl (fun o k=>if s.getLsbD (97+k)then o ||| AJ (65+k) (65+k)else o) (s &&& ~~~ AJ 65 90)
def N8:ReM→ReM
 | .cls s=>.cls (unfS s)
 | .cat a b=>.cat (N8 a) (N8 b)
 | .alt a b=>.alt (N8 a) (N8 b)
 | .and_ a b=>.and_ (N8 a) (N8 b)
 | .minus a b=>.minus (N8 a) (N8 b)
 | .star a=>.star (N8 a)
 | .eps=>.eps
def capA:Option AM:=Mb [~~~ AJ 65 90,AJ 65 90] [[0,1],[1,1]] [false,true]
noncomputable def capW(r:ReM):Option (List Nat):=FX (AcQ (Hp r) capA)
def nO(n:Option ReM):ReM:=n.getD .eps
noncomputable def quT(p:Nat)(op:CO)(n:Option ReM)(to:ByteArray)(A C:QuM):F3 ⊕ (ReM×ReM):=match op with
 | .id=>.inr (nO n,nO n)
 | .norm=>.inr (nO n,Cz (byN to))
 | .fold=>.inr (N8 (nO n),nO n)
 | .cat=>N' (nev 81 p (Lm A.o C.o)) fun _=>N' (nev 82 p (Lm A.i C.i)) fun _=>.inr (.cat A.o C.o,.cat A.i C.i)
 | .alt=>N' (nev 85 p (X7 A.o C.o)) fun _=>.inr (.alt A.o C.o,.alt A.i C.i)
 | .star=>N' (nev 83 p (iterW A.o)) fun _=>N' (nev 84 p (iterW A.i)) fun _=>.inr (.star A.o,.star A.i)
noncomputable def quE(p:Nat)(op:CO)(back:ByteArray)(o i:ReM):F3 ⊕ Unit:=match op with
 | .norm=>tst (Gm o back) 80 p
 | .fold=>nev 90 p (capW i)
 | _=>.inr ()
noncomputable def AdO(b:Nat):Tm→F3 ⊕ QuM
 | .ca p op n to back x y=>N' (AdO b x) fun A=>N' (AdO b y) fun C=>N' (quT p op n to A C) fun r=>N' (bld b r.1 p) fun _=>N' (bld b r.2 p) fun _=>N' (quE p op back r.1 r.2) fun _=>.inr (.mk (.ca p op n to back x y) r.1 r.2 A C)
 | _=>.inr .nil
noncomputable def typ(b p:Nat)(s v:ReM):F3 ⊕ (ReM×ReM):=N' (bld b s p) fun _=>N' (bld b v p) fun _=>.inr (s,v)
noncomputable def Zw(b p:Nat)(s v1 v2:ReM)(A C:LnM):F3 ⊕ (ReM×ReM):=N' (nev 81 p (Lm A.s C.s)) fun _=>N' (nev 82 p (Lm v1 v2)) fun _=>typ b p s (.cat v1 v2)
noncomputable def lnT(b p:Nat)(op:LO)(n:Option ReM)(w:ByteArray)(q:QuM)(A C:LnM):F3 ⊕ (ReM×ReM):=match op with
 | .copy | .key=>typ b p (nO n) (nO n)
 | .del=>N' (typ b p (nO n) .eps) fun r=>N' (tst (Gm (nO n) w) 80 p) fun _=>.inr r
 | .ins=>typ b p .eps (Cz (byN w))
 | .alt=>N' (nev 85 p (X7 A.s C.s)) fun _=>N' (if K4 A|| K4 C|| Xv A|| Xv C then nev 86 p (X7 A.v C.v)else .inr ()) fun _=>typ b p (.alt A.s C.s) (.alt A.v C.v)
 | .cat=>Zw b p (.cat A.s C.s) A.v C.v A C
 | .swap=>Zw b p (.cat A.s C.s) C.v A.v A C
 | .star | .keyed=>N' (nev 83 p (iterW A.s)) fun _=>N' (nev 84 p (iterW A.v)) fun _=>typ b p (.star A.s) (.star A.v)
 | .left=>N' (nev 89 p (WV q.i A.s)) fun _=>.inr (q.o,A.v)
 | .right=>N' (nev 89 p (WV q.i A.v)) fun _=>.inr (A.s,q.o)
 | .default_=>N' (tst (Gm A.s w) 80 p) fun _=>.inr (A.s,A.v)
 | .chain=>N' (nev 87 p (WV A.v C.s)) fun _=>N' (tst (!(K4 A|| P9 C)) 88 p) fun _=>.inr (A.s,C.v)
def LO.isLeft:LO→Bool
 | .left=>true
 | _=>false
def LO.isRight:LO→Bool
 | .right=>true
 | _=>false
noncomputable def qIf(b:Nat)(x:Bool)(t:Tm):F3 ⊕ QuM:=if x then AdO b t else .inr .nil
noncomputable def BY(b:Nat):Tm→F3 ⊕ LnM
 | .le p op n w q x y=>N' (qIf b op.isLeft q) fun Q1=>N' (BY b x) fun A=>N' (BY b y) fun C=>N' (qIf b op.isRight q) fun Q2=>N' (lnT b p op n w (if op.isLeft then Q1 else Q2) A C) fun r=>
   .inr (.mk (.le p op n w q x y) r.1 r.2 (if op.isLeft then Q1 else Q2) A C)
 | _=>.inr .nil
def Tm.wf:Tm→Bool
 | .ca _ op n _ _ a b=>(match op with
   | .id | .fold | .norm=>n.isSome
   | .star=>a.isCa
   | _=>a.isCa&&b.isCa)&&a.wf&&b.wf
 | .le _ op n _ q a b=>(match op with
   | .copy | .key | .del=>n.isSome
   | .ins=>true
   | .left | .right=>q.isCa&&a.isLe
   | .default_ | .star | .keyed=>a.isLe
   | _=>a.isLe&&b.isLe)&&q.wf&&a.wf&&b.wf
 | _=>true
theorem Bm{α β:Type}{x:F3 ⊕ α}{f:α→F3 ⊕ β}{c:β}(h:N' x f= .inr c):∃a,x= .inr a∧f a= .inr c:=by
 cases x with
 | inl e=>cases h
 | inr a=>exact⟨a,rfl,h⟩
theorem FS{α β:Type}{x:F3 ⊕ α}{f:α→F3 ⊕ β}{a:α}(h:x= .inr a):N' x f=f a:=by rw[h];rfl
theorem W0{b:Nat}{r:ReM}{p:Nat}{u:Unit}(h:bld b r p= .inr u):CU r≤b:=by
 unfold bld at h;split at h
 ·assumption
 ·cases h
theorem Wz{b:Nat}{r:ReM}{p:Nat}(h:CU r≤b):bld b r p= .inr ():=I_ h
theorem YK{b p:Nat}{s v:ReM}{r:ReM×ReM}(h:typ b p s v= .inr r):r=(s,v)∧CU s≤b∧CU v≤b:=by
 obtain⟨_,a,c⟩:=Bm h;obtain⟨_,d,e⟩:=Bm c;cases e;exact⟨rfl,W0 a,W0 d⟩
theorem Nn{b p:Nat}{s v:ReM}(h:CU s≤b)(k:CU v≤b):typ b p s v= .inr (s,v):=by
 unfold typ;rw[Wz h,Wz k];rfl
theorem TE{b:Nat}{t:Tm}{L:LnM}(h:BY b t= .inr L)(a:t.isLe=true):∃s v q A C,L= .mk t s v q A C:=by
 cases t<;>first | cases a | skip
 simp only[BY]at h;obtain⟨A,-,h⟩:=Bm h;obtain⟨C,-,h⟩:=Bm h;obtain⟨_,-,h⟩:=Bm h;obtain⟨_,-,h⟩:=Bm h;obtain⟨r,-,h⟩:=Bm h;cases h;exact⟨_,_,_,_,_,rfl⟩
section
attribute [local irreducible] AN Bb AY EA
def DQ(m:Nat):PS:=fun q=>0≤q∧m.testBit q.toNat=true
def frc{α:Type}(n:Nat)(f:Nat→α):α:=match n with
 | 0=>f 0
 | k+1=>f (k+1)
theorem OY{α:Type}(n:Nat)(f:Nat→α):frc n f=f n:=by cases n<;>rfl
def orP(c:Bool)(q:Int)(m:Nat):Nat:=if c then m ||| 1 <<< q.toNat else m
theorem Iv{c:Bool}{q:Int}{m:Nat}(b:0≤q){x:Int}:DQ (orP c q m) x↔DQ m x∨c=true∧x=q:=by
 unfold orP DQ;cases c
 ·simp
 ·simp only[if_true,Nat.testBit_or,Nat.one_shiftLeft,Nat.testBit_two_pow,Yar,Zzj,true_and];constructor
  ·rintro⟨h,a | a⟩
   ·exact .inl ⟨h,a⟩
   ·exact .inr (by omega)
  ·rintro(⟨h,a⟩ | rfl)
   ·exact⟨h,.inl a⟩
   ·exact⟨b,.inr rfl⟩
def MZ:List Z'→Nat→Nat
 | [],m=>m
 | e::es,m=>frc (orP (e.sil&&m.testBit e.fr.toNat) e.to m) fun k=>MZ es k
def Vm:List Z'→Nat→Nat→Nat→Nat
 | [],_,_,o=>o
 | e::es,m,b,o=>frc (orP (!e.sil&&e.set.getLsbD b&&m.testBit e.fr.toNat) e.to o) fun k=>Vm es m b k
def clP(es:List Z'):Nat→Nat→Nat
 | 0,m=>m
 | n+1,m=>frc (MZ es m) fun k=>if k=m then m else clP es n k
def stE(es:List Z')(m b:Nat):Nat:=clP es 99 (Vm es m b 0)
def Ae2(a:O_):Bool:=decide (a.st≤65536)&&a.edges.all fun e=>decide (0≤e.fr)&&decide (0≤e.to)&&decide (e.to<a.st)
structure RO(a:O_):Prop where
 n:a.st≤65536
 e:∀e∈a.edges,0≤e.fr∧0≤e.to∧a.has e.to=true
theorem Ae3{a:O_}(h:Ae2 a=true):RO a:=by
 unfold Ae2 at h;simp only[h_,Zzj,Ycc]at h;exact⟨h.1,fun e c=>by
  obtain⟨⟨d,b⟩,f⟩:=h.2 e c;exact⟨d,b,O_.has_iff.2 ⟨b,f,h.1⟩⟩⟩
section
variable{a:O_}{m b:Nat}
theorem Na:∀(es:List Z'),(∀e∈es,e∈a.edges)→RO a→∀m,(∀q,DQ m q→DQ (MZ es m) q)∧(∀q,DQ (MZ es m) q→clS a (DQ m) q)
 | [],_,_,m=>⟨fun _ h=>h,fun _ h=>Kl h⟩
 | e::es,hs,ok,m=>by
   have k:=ok.e e (hs e (by simp));have d:=Na es (fun x f=>hs x (by simp[f])) ok (orP (e.sil&&m.testBit e.fr.toNat) e.to m);simp only[MZ,OY];refine⟨fun q h=>d.1 q ((Iv k.2.1).2 (.inl h)),fun q h=>?_⟩;refine EX (Y:=clS a (DQ m)) (fun p b=>?_) (Ju a _) q (d.2 q h);rcases(Iv k.2.1).1 b with b | ⟨c,rfl⟩
   ·exact Kl b
   ·rw[h_]at c;exact Ju a _ e (hs e (by simp)) c.1 k.2.2 (Kl ⟨k.1,c.2⟩)
theorem Ow:∀(es:List Z'),(∀e∈es,e∈a.edges)→RO a→∀m,∀e∈es,e.sil=true→DQ m e.fr→DQ (MZ es m) e.to
 | [],_,_,_,e,h,_,_=>by cases h
 | d::es,hs,ok,m,e,c,h1,h2=>by
   have k:=ok.e d (hs d (by simp));have b:∀e∈es,e∈a.edges:=fun x f=>hs x (by simp[f]);simp only[MZ,OY];rcases Ybe.1 c with rfl | c
   ·exact(Na es b ok _).1 _ ((Iv k.2.1).2 (.inr ⟨by rw[h1,h2.2];rfl,rfl⟩))
   ·exact Ow es b ok _ e c h1 ((Iv k.2.1).2 (.inl h2))
theorem OL(ok:RO a):∀n m,(∀q,DQ m q→DQ (clP a.edges n m) q)∧(∀q,DQ (clP a.edges n m) q→clS a (DQ m) q)
 | 0,m=>⟨fun _ h=>h,fun _ h=>Kl h⟩
 | n+1,m=>by
   simp only[clP,OY];split
   ·exact⟨fun _ h=>h,fun _ h=>Kl h⟩
   ·have b:=Na a.edges (fun _ h=>h) ok m;have c:=OL ok n (MZ a.edges m);exact⟨fun q h=>c.1 q (b.1 q h),fun q h=>EX b.2 (Ju a _) q (c.2 q h)⟩
theorem WH(ok:RO a){n:Nat}(b:MZ a.edges (clP a.edges n m)=clP a.edges n m)(q:Int):DQ (clP a.edges n m) q↔clS a (DQ m) q:=
 ⟨(OL ok n m).2 q,EX (OL ok n m).1 (fun e c d _ f=>by
   have:=Ow a.edges (fun _ h=>h) ok _ e c d f;rwa [b]at this) q⟩
theorem QG:∀(es:List Z'),(∀e∈es,0≤e.fr∧0≤e.to)→∀o q,DQ (Vm es m b o) q↔DQ o q∨∃e∈es,e.sil=false∧e.set.getLsbD b=true∧DQ m e.fr∧q=e.to
 | [],_,o,q=>by simp[Vm]
 | e::es,hs,o,q=>by
   have k:=hs e (by simp);simp only[Vm,OY];rw[QG es (fun x j=>hs x (by simp[j])),Iv k.2];simp only[h_,Yap,Ybe];constructor
   ·rintro((h | ⟨⟨⟨c,a⟩,f⟩,rfl⟩) | ⟨d,c,a⟩)
    ·exact .inl h
    ·exact .inr ⟨e,.inl rfl,c,a,⟨k.1,f⟩,rfl⟩
    ·exact .inr ⟨d,.inr c,a⟩
   ·rintro(h | ⟨d,rfl | c,a,f,g,rfl⟩)
    ·exact .inl (.inl h)
    ·exact .inl (.inr ⟨⟨⟨a,f⟩,g.2⟩,rfl⟩)
    ·exact .inr ⟨d,c,a,f,g,rfl⟩
noncomputable def mL(m:Nat):List Int:=EE (DQ m)
def InP(a:O_)(m:Nat):Prop:=∀q,DQ m q→a.has q=true
theorem Ph(h:InP a m)(q:Int):q∈mL m↔DQ m q:=Fm (Ei h) q
theorem AfL(ok:RO a)(j:InP a m)(l:MZ a.edges (stE a.edges m b)=stE a.edges m b):Bj a (mL m) b=mL (stE a.edges m b):=by
 unfold Bj mL
 congr 1
 funext q;apply propext;refine Iff.trans ?_ (WH ok l q).symm;unfold goS;have:JA a (·∈EE (DQ m)) b=DQ (Vm a.edges m b 0):=by
  funext q;apply propext;rw[QG a.edges fun e k=>⟨(ok.e e k).1,(ok.e e k).2.1⟩];unfold JA;constructor
  ·rintro⟨e,c,d,f,g,-,n⟩;exact .inr ⟨e,c,d,f,(Ph j _).1 g,n⟩
  ·rintro(h | ⟨e,c,d,f,g,p⟩)
   ·simp[DQ]at h
   ·exact⟨e,c,d,f,(Ph j _).2 g,(ok.e e c).2.2,p⟩
 rw[this]
end
def AbD:List Nat:=[0,48,59,61,65,97]
def cix(b:Nat):Nat:=if 97≤b∧b≤122 then 5 else if 48≤b∧b≤57 then 1 else if 65≤b∧b≤90 then 4 else if b=59 then 2 else if b=61 then 3 else 0
theorem Z4(b:Nat):∃g,AbD[cix b]?=some g:=by
 unfold cix
 repeat' split
 all_goals exact⟨_,rfl⟩
def Yh(b:Nat):Nat:=AbD.getD (cix b) 0
def AdT(es:List Z'):Bool:=es.all fun e=>e.sil|| (AhW 256).all fun b=>e.set.getLsbD b==e.set.getLsbD (Yh b)
theorem AdU{a:O_}(h:AdT a.edges=true){b:Nat}(k:b<256)(l:List Int):Bj a l b=Bj a l (Yh b):=by
 have f:JA a (·∈l) b=JA a (·∈l) (Yh b):=by
  unfold AdT at h;simp only[Ycc,Yar,beq_iff_eq,Ych]at h;funext q;apply propext;unfold JA;constructor
  ·rintro⟨e,c,d,g,j⟩;rcases h e c with h | h
   ·rw[d]at h;cases h
   ·exact⟨e,c,d,by rw[←h b k];exact g,j⟩
  ·rintro⟨e,c,d,g,j⟩;rcases h e c with h | h
   ·rw[d]at h;cases h
   ·exact⟨e,c,d,by rw[h b k];exact g,j⟩
 unfold Bj goS;rw[f]
def Ym(es:List Z')(Y:List Nat)(x:Nat):List Nat→List Nat→Bool
 | [],[]=>true
 | g::gs,j::js=>(match Y[j]? with | none=>false | some y=>stE es x g==y)&&Ym es Y x gs js
 | _,_=>false
def AbX(es:List Z')(Y:List Nat):List Nat→List (List Nat)→Bool
 | [],[]=>true
 | x::X,t::T=>Ym es Y x AbD t&&AbX es Y X T
 | _,_=>false
theorem UA{es:List Z'}{Y:List Nat}{x:Nat}:∀{gs b:List Nat},Ym es Y x gs b=true→∀{c g:Nat},gs[c]?=some g→∃j,b[c]?=some j∧Y[j]?=some (stE es x g)
 | [],[],_,c,g,h=>by cases h
 | [],_::_,h,_,_,_=>by cases h
 | _::_,[],h,_,_,_=>by cases h
 | g::gs,j::b,h,c,g',hg=>by
   simp only[Ym,h_]at h;cases c with
   | zero=>
     cases hg;refine⟨j,rfl,?_⟩;have a:=h.1;cases d:Y[j]? with
     | none=>rw[d]at a;cases a
     | some y=>rw[d]at a;rw[eq_of_beq a]
   | succ c=>exact UA h.2 hg
theorem UR{es:List Z'}{Y:List Nat}:∀{X:List Nat} {T:List (List Nat)},AbX es Y X T=true→∀{i x:Nat},X[i]?=some x→∃t,T[i]?=some t∧Ym es Y x AbD t=true
 | [],[],_,i,x,h=>by cases h
 | [],_::_,h,_,_,_=>by cases h
 | _::_,[],h,_,_,_=>by cases h
 | x::X,t::T,h,i,x',hx=>by
   simp only[AbX,h_]at h;cases i with
   | zero=>cases hx;exact⟨t,rfl,h.1⟩
   | succ i=>exact UR h.2 hx
def stT(T:List (List Nat))(i c:Nat):Nat:=(T.getD i []).getD c 0
def AdF(a:O_):Nat:=clP a.edges 99 (orP true a.start 0)
def AfC(a:O_)(X:List Nat)(T:List (List Nat)):Bool:=Ae2 a&&AdT a.edges&&a.has a.start&&X.contains 0&&(X[0]?==some (AdF a))&&decide (X.length≤400)&&(X.all fun x=>decide (x<2^a.st.toNat)&&(MZ a.edges x==x))&&AbX a.edges X X T
structure Ad5(a:O_)(X:List Nat)(T:List (List Nat)):Prop where
 ok:RO a
 beg:X[0]?=some (AdF a)
 b0:Kh a=mL (AdF a)
 zero:0∈X
 n:X.length≤400
 inp:∀x∈X,InP a x
 st:∀i x,X[i]?=some x→∀b,b<256→∃y,X[stT T i (cix b)]?=some y∧Bj a (mL x) b=mL y
theorem AfD{a:O_}{X:List Nat}{T:List (List Nat)}(h:AfC a X T=true):Ad5 a X T:=by
 unfold AfC at h;simp only[h_,Zzj,Ycc,beq_iff_eq,Ydn]at h;obtain⟨⟨⟨⟨⟨⟨⟨u,w⟩,k⟩,y⟩,l⟩,z⟩,f⟩,A⟩:=h;have ok:=Ae3 u;have c:∀x∈X,InP a x:=fun x d q m=>by
  refine O_.has_iff.2 ⟨m.1,?_,ok.n⟩;apply Classical.byContradiction;intro F;have:=Nat.testBit_lt_two_pow (Ybq (f x d).1 (Ybw (n:=2) (by decide) (show a.st.toNat≤q.toNat by omega)));rw[m.2]at this;cases this
 refine⟨ok,l,?_,y,z,c,fun i x d b B=>?_⟩
 ·unfold Kh mL
  congr 1
  funext q;apply propext;refine Iff.trans ?_ (WH ok (f _ (d_ l)).2 q).symm;unfold Mc;have:(fun q=>q=a.start∧a.has a.start=true)=DQ (orP true a.start 0):=by
   funext q;apply propext;rw[Iv (O_.has_iff.1 k).1];simp[DQ,k]
  rw[this]
 ·have⟨t,C,D⟩:=UR A d;have⟨g,p⟩:=Z4 b;have⟨j,E,r⟩:=UA D p;have e:stT T i (cix b)=j:=by
   unfold stT;rw[Ya5,Ya5,C,YbH,E,YbH]
  have e2:Yh b=g:=by unfold Yh;rw[Ya5,p];rfl
  rw[e];refine⟨_,r,?_⟩;rw[AdU w B,e2,AfL ok (c x (d_ d)) (f _ (d_ r)).2]
theorem Dz(b:Int):∀(r:ReM),r.plain=true→∀n s,Cu b r n s=(s,.ok ⟨(AV r n).1,(AV r n).2.1,i_ r,(AV r n).2.2⟩)
 | .eps,_,n,s=>rfl
 | .cls t,_,n,s=>rfl
 | .cat x y,h,n,s=>by
   simp only[ReM.plain,h_]at h;simp only[Cu,Dz b x h.1,Dz b y h.2,BN,catR,AV,i_]
 | .alt x y,h,n,s=>by
   simp only[ReM.plain,h_]at h;simp only[Cu,Dz b x h.1,Dz b y h.2,BN,altR,AV,i_]
 | .star x,h,n,s=>by
   simp only[Cu,Dz b x h,BN,AcX,AV,i_]
 | .and_ _ _,h,_,_=>by cases h
 | .minus _ _,h,_,_=>by cases h
section
variable{r:ReM}{X:List Nat}{T:List (List Nat)}
noncomputable abbrev faR(r:ReM)(F:List (List Int)):PA:=paF (Bj (Be r)) (fun X=>decide ((Be r).fin∈X)) F
structure RM(r:ReM)(X:List Nat)(F:List (List Int)):Prop where
 need:CU r=F.length
 n:F.length≤X.length
 st:Cw 4096 r= .ok (faR r F,F.length)
 sh:NA (Bj (Be r)) F
 f0:F[0]?=some (Kh (Be r))
 aut:∃A,Hn r A
theorem VR(H:r.plain=true)(I:r.nodes≤2000)(h:Ad5 (Be r) X T):∃F,RM r X F:=by
 obtain⟨P,B⟩:∃P:List Int→Prop,P=fun y=>∃x∈X,y=mL x:=⟨_,rfl⟩;have E:P (Kh (Be r)):=by rw[B];exact⟨_,d_ h.beg,h.b0⟩
 have J:mL 0=[]:=by
  rw[Ydl];intro q u;have:=(Ph (h.inp 0 h.zero) q).1 u;simp[DQ]at this
 have hs:∀y b,P y→P (Bj (Be r) y b):=fun y b m=>by
  rw[B]at m ⊢;obtain⟨x,f,rfl⟩:=m;by_cases p:b<256
  ·have⟨i,K⟩:=List.getElem?_of_mem f;have⟨y,N,O⟩:=h.st i x K b p;exact⟨y,d_ N,O⟩
  ·exact⟨0,h.zero,by rw[Ww _ _ (by omega),J]⟩
 have d:∀L:List (List Int),L.Nodup→(∀y∈L,P y)→L.length≤X.length:=fun L Q m=>by
  have:=K0 (M:=X.map mL) Q fun y R=>by
   have:=m y R;rw[B]at this;obtain⟨x,f,rfl⟩:=this;exact List.mem_map_of_mem f
  rwa [Z_]at this
 have W:=h.n;obtain⟨F,z⟩:∃F,Mn (Be r) 4096=some F:=by
  cases hd:Mn (Be r) 4096 with
  | some F=>exact⟨F,rfl⟩
  | none=>
    unfold Mn EA at hd;rw[Option.map_eq_none_iff]at hd;have⟨L,S,Y,U⟩:=Hl (P:=P) (by decide) E hs _ _ hd;have:=d L S U;omega
 have A:=detA (Be r) (most:=4096) (by decide);rw[z,Ydt]at A;obtain⟨⟨F',rows⟩,A,e⟩:=A;obtain rfl:F'=F:=e;obtain⟨c,C,-⟩:=LF (most:=4096) (by decide) z;have w:F'.length≤X.length:=d F' c.nd fun y m=>by
  have g:=z;unfold Mn EA at g;rw[Ydt]at g;obtain⟨⟨G,j⟩,hd,e⟩:=g;obtain rfl:G=F':=e;exact(DL (P:=P) (by decide) E hs _ 4096 G j hd).2.2.2 y m
 have p:DX 4096 r 0=(F'.length,.ok (faR r F')):=by
  unfold DX N1;rw[Dz 4096 r H 0 0];have D:=h.ok.n;have:¬65536<i_ r:=by have:((i_ r:Nat):Int)≤65536:=D;omega
  have hd:Gk 4096 ⟨(i_ r:Int),((AV r 0).1:Int),((AV r 0).2.1:Int),(AV r 0).2.2⟩= .ok (faR r F'):=by
   show Gk 4096 (Be r)=_;unfold Gk;rw[show(4096:Int)=((4096:Nat):Int)from rfl,TO (by decide) (by decide),z]
  simp only[BN,G_ this,hd];rw[Nat.max_eq_right (l_ _)];rfl
 have f:Cw 4096 r= .ok (faR r F',F'.length):=by
  rw[Gy (by decide) (by decide) I,p]
 have⟨a1,a2,a3⟩:=Ac5 (most:=4096) (by decide) (by decide) A;refine⟨F',by unfold CU;rw[f],w,f,c,C,_,QS (by rw[Z_];exact a1),⟨_,_,_,(I_ (by rw[Z_];exact a1)).symm⟩,_,_,f,a3,fun q b u p=>?_,fun q u=>?_⟩
 ·have⟨x,a⟩:=Am (l:=F') (k:=q) u;have⟨t,e,V⟩:=a2.st q b x a p;rw[e,JH c.nd V (Pv c a p)]
 ·have⟨x,a⟩:=Am (l:=F') (k:=q) u;rw[a2.fi q x a,SP a]
def Sim(o:Option AM)(T:List (List Nat))(f:Nat):Prop:=∃R:Int→Nat→Prop,R 0 0∧∀q i,R q i→AG o q=f.testBit i∧∀b,b<256→R (Ar o q b) (stT T i (cix b))
theorem RM.sim{F:List (List Int)}{f:Nat}(k:RM r X F)(h:Ad5 (Be r) X T)(p:∀i x,X[i]?=some x→f.testBit i=x.testBit (AV r 0).2.1){A:AM}(t:Hn r A):Sim (some A) T f:=by
 have⟨d,m,j,l⟩:=t.ex;rw[k.st]at j;cases j;refine⟨fun q i=>∃x,X[i]?=some x∧∃n:Nat,q=(n:Int)∧F[n]?=some (mL x),⟨_,h.beg,0,rfl,by rw[k.f0,h.b0]⟩,?_⟩;rintro q i ⟨x,c,n,rfl,e⟩;have a:n<(faR r F).n:=(X_.1 e).1;constructor
 ·rw[l.fi n a,SP e,p i x c,YcI,Zzj,Ph (h.inp x (d_ c))];show 0≤(((AV r 0).2.1:Nat):Int)∧_↔_;exact⟨fun h=>h.2,fun h=>⟨Int.natCast_nonneg _,h⟩⟩
 ·intro b g;have⟨y,u,w⟩:=h.st i x c b g;exact⟨y,u,_,l.st n b a g,by rw[Pv k.sh e g,w]⟩
def cerB(r:ReM)(X:List Nat)(T:List (List Nat))(f:Nat):Bool:=r.plain&&decide (r.nodes≤2000)&&AfC (Be r) X T&&(AhW X.length).all fun i=>f.testBit i==(X.getD i 0).testBit (AV r 0).2.1
structure Cer(r:ReM)(T:List (List Nat))(f:Nat):Prop where
 need:CU r≤400
 aut:∃A,Hp r=some A∧Hn r A
 sim:∀{A},Hn r A→Sim (some A) T f
theorem DG{f:Nat}(h:cerB r X T f=true):Cer r T f:=by
 unfold cerB at h;simp only[h_,Zzj,Ycc,beq_iff_eq,Ych]at h;have k:=AfD h.1.2;have⟨F,b⟩:=VR h.1.1.1 h.1.1.2 k;refine⟨?_,?_,b.sim k fun i x a=>?_⟩
 ·have:=b.need;have:=b.n;have:=k.n;omega
 ·have a:=b.aut;unfold Hp;rw[dif_pos a];exact⟨_,rfl,a.choose_spec⟩
 ·rw[h.2 i (X_.1 a).1,Ya5,a];rfl
end
def F6(T:List (List Nat))(i:Nat)(w:List Nat):Nat:=w.foldl (fun i b=>stT T i (cix b)) i
theorem PH{o:Option AM}{T:List (List Nat)}{R:Int→Nat→Prop}(h:∀q i,R q i→∀b,b<256→R (Ar o q b) (stT T i (cix b))):∀{w:List Nat} {q:Int} {i:Nat},A9 w→R q i→R (Hu o w q) (F6 T i w)
 | [],q,i,_,hR=>hR
 | b::w,q,i,hw,hR=>by
   rw[C9];exact PH h (fun c a=>hw c (YbX _ a)) (h q i hR b (hw b (by simp)))
theorem Sim.acc{o:Option AM}{T:List (List Nat)}{f:Nat}(h:Sim o T f){w:List Nat}(a:A9 w):Bs o (bA w)=f.testBit (F6 T 0 w):=by
 have⟨R,c,b⟩:=h;rw[LW a];exact(b _ _ (PH (fun q i k=>(b q i k).2) a c)).1
theorem Cer.has{r:ReM}{T:List (List Nat)}{f:Nat}(h:Cer r T f){w:List Nat}(a:A9 w):Gm r (bA w)=f.testBit (F6 T 0 w):=by
 have⟨A,e,b⟩:=h.aut;unfold Gm;rw[e];exact(h.sim b).acc a
abbrev N3:=Nat×Nat×Nat
def Z5(nx:N3→Nat→List N3):Nat→List N3→List N3→List N3
 | 0,_,s=>s
 | _+1,[],s=>s
 | n+1,x::t,s=>
   let p:=((AhW 6).flatMap (nx x)).foldl (fun p y=>if p.2.contains y then p else(y::p.1,y::p.2)) (t,s)
   Z5 nx n p.1 p.2
def gB(nx:N3→Nat→List N3)(en:N3→Bool)(S:List N3):Bool:=S.contains (0,0,0)&&S.all fun n=> !en n&&(AhW 6).all fun c=>(nx n c).all fun y=>S.contains y
structure GO(nx:N3→Nat→List N3)(en:N3→Bool)(S:List N3):Prop where
 r:(0,0,0)∈S
 e:∀n∈S,en n=false
 s:∀n∈S,∀b,∀y∈nx n (cix b),y∈S
theorem Sf(b:Nat):cix b<6:=by
 unfold cix
 repeat' split
 all_goals decide
theorem g_ok{nx:N3→Nat→List N3}{c:N3→Bool}{S:List N3}(h:gB nx c S=true):GO nx c S:=by
 unfold gB at h;simp only[h_,Ycc,Ydn,Yap,Ych]at h;exact⟨h.1,fun n a=>(h.2 n a).1,fun n a b y d=>(h.2 n a).2 _ (Sf b) y d⟩
def nxC(Ta:List (List Nat))(fa:Nat)(Tb:List (List Nat)):N3→Nat→List N3
 | (0,x,_),c=>(0,stT Ta x c,0)::if fa.testBit x then [(1,stT Tb 0 c,stT Ta x c)]else []
 | (1,x,y),c=>(1,stT Tb x c,stT Ta y c)::if fa.testBit y then [(2,stT Tb x c,stT Tb 0 c)]else []
 | (_,x,y),c=>[(2,stT Tb x c,stT Tb y c)]
def enC(fa fb:Nat):N3→Bool
 | (0,_,_)=>false
 | (1,x,y)=>fb.testBit x&&fa.testBit y&&fb.testBit 0
 | (_,x,y)=>fb.testBit x&&fb.testBit y
def nxI(T:List (List Nat))(f:Nat):N3→Nat→List N3
 | (0,x,_),c=>(0,stT T x c,0)::if f.testBit x then [(1,stT T 0 c,stT T x c)]else []
 | (_,x,y),c=>(stT T x c::if f.testBit x then [stT T 0 c]else []).flatMap fun p=>(stT T y c::if f.testBit y then [stT T 0 c]else []).map fun q=>(1,p,q)
def enI(f:Nat):N3→Bool
 | (0,_,_)=>false
 | (_,x,y)=>f.testBit x&&f.testBit y
section
variable{a b:Option AM}{Ta Tb:List (List Nat)}{fa fb:Nat}{S:List N3}
theorem WA(G:Sim a Ta fa)(H:Sim b Tb fb)(h:gB (nxC Ta fa Tb) (enC fa fb) S=true):∀u,A9 u→¬CR (E9 a b) (·=AH) u:=by
 have⟨Ra,I,w⟩:=G;have⟨Rb,C,p⟩:=H;have g:=g_ok h;have D:∀(u:List Nat),A9 u→∀(s x y:Int) (i j:Nat),(s=0∧y=0∧Ra x i∧(0,i,0)∈S)∨(s=1∧Rb x i∧Ra y j∧(1,i,j)∈S)∨(s=2∧Rb x i∧Rb y j∧(2,i,j)∈S)→¬Dl (E9 a b) u ⟨s,x,y⟩:=fun u=>by
  induction u with
  | nil=>
    rintro-s x y i j E f;replace f:BH a b ⟨s,x,y⟩=true:=f;unfold BH at f;rcases E with⟨rfl,rfl,k,l⟩ | ⟨rfl,k,l,t⟩ | ⟨rfl,k,l,t⟩
    ·rw[G_ (show¬(0:Int)=1 by decide),G_ (show¬(0:Int)=2 by decide)]at f;cases f
    ·rw[I_ rfl,(p x i k).1,(w y j l).1,(p 0 0 C).1]at f;have:=g.e _ t;rw[show enC fa fb (1,i,j)=(fb.testBit i&&fa.testBit j&&fb.testBit 0)from rfl,f]at this;cases this
    ·rw[G_ (show¬(2:Int)=1 by decide),I_ rfl,(p x i k).1,(p y j l).1]at f;have:=g.e _ t;rw[show enC fa fb (2,i,j)=(fb.testBit i&&fb.testBit j)from rfl,f]at this;cases this
  | cons c u z=>
    rintro B s x y i j E ⟨⟨J,K,L⟩,F,f⟩;have q:=B c (by simp);have m:A9 u:=fun d hd=>B d (YbX _ hd);rcases E with⟨rfl,rfl,k,l⟩ | ⟨rfl,k,l,t⟩ | ⟨rfl,k,l,t⟩
    ·have gs:=g.s _ l c;rcases Gh.1 F with e | ⟨A,e⟩
     ·cases e;exact z m _ _ _ _ 0 (.inl ⟨rfl,rfl,(w x i k).2 c q,gs _ (by simp[nxC])⟩) f
     ·cases e;rw[(w x i k).1]at A;exact z m _ _ _ _ _ (.inr (.inl ⟨rfl,(p 0 0 C).2 c q,(w x i k).2 c q,gs _ (by simp[nxC,A])⟩)) f
    ·have gs:=g.s _ t c;rcases Gi.1 F with e | ⟨A,e⟩
     ·cases e;exact z m _ _ _ _ _ (.inr (.inl ⟨rfl,(p x i k).2 c q,(w y j l).2 c q,gs _ (by simp[nxC])⟩)) f
     ·cases e;rw[(w y j l).1]at A;exact z m _ _ _ _ _ (.inr (.inr ⟨rfl,(p x i k).2 c q,(p 0 0 C).2 c q,gs _ (by simp[nxC,A])⟩)) f
    ·have gs:=g.s _ t c;cases Ij.1 F;exact z m _ _ _ _ _ (.inr (.inr ⟨rfl,(p x i k).2 c q,(p y j l).2 c q,gs _ (by simp[nxC])⟩)) f
 rintro u B ⟨n,rfl,f⟩;exact D u B 0 0 0 0 0 (.inl ⟨rfl,rfl,I,g.r⟩) f
theorem Aa6(Q:Sim a Ta fa)(h:gB (nxI Ta fa) (enI fa) S=true):∀u,A9 u→¬CR (EH a) (·=AH) u:=by
 have⟨Ra,F,f⟩:=Q;have g:=g_ok h;have G:∀(u:List Nat),A9 u→∀(s x y:Int) (i j:Nat),(s=0∧y=0∧Ra x i∧(0,i,0)∈S)∨(s=1∧Ra x i∧Ra y j∧(1,i,j)∈S)→¬Dl (EH a) u ⟨s,x,y⟩:=fun u=>by
  induction u with
  | nil=>
    rintro-s x y i j H b;replace b:Et a ⟨s,x,y⟩=true:=b;unfold Et at b;rcases H with⟨rfl,rfl,w,A⟩ | ⟨rfl,w,A,I⟩
    ·cases b
    ·rw[(f x i w).1,(f y j A).1]at b;have:=g.e _ I;rw[show enI fa (1,i,j)=(fa.testBit i&&fa.testBit j)from rfl]at this;rw[Bool.and_assoc,this]at b;cases b
  | cons c u J=>
    rintro D s x y i j H ⟨⟨T,U,V⟩,O,b⟩;have B:=D c (by simp);have z:A9 u:=fun d hd=>D d (YbX _ hd);have P:∀{q:Int} {k:Nat} {t:Int},Ra q k→t∈CL a q c→∃l,l∈(stT Ta k (cix c)::if fa.testBit k then [stT Ta 0 (cix c)]else [])∧Ra t l:=fun{q k t} E h=>by
     rcases Oc.1 h with rfl | ⟨C,rfl⟩
     ·exact⟨_,by simp,(f q k E).2 c B⟩
     ·rw[(f q k E).1]at C;exact⟨stT Ta 0 (cix c),by simp[C],(f 0 0 F).2 c B⟩
    rcases H with⟨rfl,rfl,w,A⟩ | ⟨rfl,w,A,I⟩
    ·have gs:=g.s _ A c;rcases M2.1 O with e | ⟨C,e⟩
     ·cases e;exact J z _ _ _ _ 0 (.inl ⟨rfl,rfl,(f x i w).2 c B,gs _ (by simp[nxI])⟩) b
     ·cases e;rw[(f x i w).1]at C;exact J z _ _ _ _ _ (.inr ⟨rfl,(f 0 0 F).2 c B,(f x i w).2 c B,gs _ (by simp[nxI,C])⟩) b
    ·have gs:=g.s _ I c;have⟨p,R,q,E,e⟩:=M3.1 O;cases e;have⟨l,K,L⟩:=P w R;have⟨m,M,N⟩:=P A E;refine J z _ _ _ l m (.inr ⟨rfl,L,N,gs _ ?_⟩) b;show _∈List.flatMap _ _;exact List.mem_flatMap.2 ⟨l,K,Ycp.2 ⟨m,M,rfl⟩⟩
 rintro u D ⟨n,rfl,b⟩;exact G u D 0 0 0 0 0 (.inl ⟨rfl,rfl,F,g.r⟩) b
end
section
variable{x y:ReM}{Ta Tb:List (List Nat)}{fa fb:Nat}
theorem FA(a:Cer x Ta fa)(b:Cer y Tb fb)(h:gB (nxC Ta fa Tb) (enC fa fb) (Z5 (nxC Ta fa Tb) 500 [(0,0,0)] [(0,0,0)])=true):Lm x y=none:=by
 have⟨A,c,d⟩:=a.aut;have⟨C,e2,e⟩:=b.aut;unfold Lm;rw[c,e2];exact FD (fun _ _=>Iff.rfl) (WA (a.sim d) (b.sim e) h)
theorem JC(a:Cer x Ta fa)(c:fa.testBit 0=false)(h:gB (nxI Ta fa) (enI fa) (Z5 (nxI Ta fa) 500 [(0,0,0)] [(0,0,0)])=true):iterW x=none:=by
 have⟨A,d,b⟩:=a.aut;have hs:=a.sim b;unfold iterW;rw[d];have⟨R,e,f⟩:=hs;rw[(f 0 0 e).1,c];exact FD (fun _ _=>Iff.rfl) (Aa6 (a.sim b) h)
end
theorem Xj(o:Option AM)(s:ByteArray){i:Nat}(hi:i≤s.size):Bz o s i 0=Bs o (s.extract i s.size):=by
 have a:(s.extract i s.size).data.toList=s.data.toList.drop i:=by
  have:s.data.size=s.size:=rfl;rw[ByteArray.data_extract,Ydh];rw[Ydk,Ycy (by rw[Ydp,YbI];omega)]
 have b:(s.extract i s.size).size=s.size-i:=by simp
 unfold Bz Bs HP;rw[a,Ycy (by rw[Ydp,YbI,b];exact J_ _)]
theorem Q4{a b:Option AM}{s:ByteArray}{i:Nat}(hi:i≤s.size):(Bz b s i 0&&AG a (HP a s i))=Fb a b s i:=by
 unfold Fb;rw[Xj b s hi,Bool.and_comm]
 congr 1
 unfold Bs HP;have c:(s.extract 0 i).size=i:=by simp;omega
 rw[c,ByteArray.data_extract,Ydh,Ydk];simp;rw[List.take_take,Nat.min_self]
theorem WQ{a b:Option AM}{s:ByteArray}{x:Int}(h:x∈Jv a b s):∃i:Nat,x=i∧i≤s.size∧Fb a b s i=true:=by
 unfold Jv C0 at h;obtain⟨i,c,rfl⟩:=Ycp.1 h;have⟨d,e⟩:=YbV.1 c;have:=Ych.1 d;exact⟨i,rfl,by omega,by rw[←Q4 (by omega)];exact e⟩
theorem ZC{a b:Option AM}{s:ByteArray}(h:∀u,A9 u→¬CR (E9 a b) (·=AH) u){i j:Nat}(hi:Fb a b s i=true)(d:Fb a b s j=true)(k:i≤s.size)(l:j≤s.size):i=j:=by
 have g:(unB s).length=s.size:=by unfold unB;rw[Z_];rfl
 rw[←Wv s]at hi d;have e:=(ON (Ef s) i).1 hi;have f:=(ON (Ef s) j).1 d;rcases Nat.lt_trichotomy i j with c | c | c
 ·exact(h (unB s) (Ef s) ⟨AH,rfl,(Mg _ _ _).2 ⟨i,j,c,by omega,e,f⟩⟩).elim
 ·exact c
 ·exact(h (unB s) (Ef s) ⟨AH,rfl,(Mg _ _ _).2 ⟨j,i,c,by omega,f,e⟩⟩).elim
theorem ZA{a b:Option AM}{s t:ByteArray}(no:∀u,A9 u→¬CR (E9 a b) (·=AH) u)(hs:Bs a s=true)(e:Bs b t=true):Vd a b (s++t)=((s.size:Int),0):=by
 have c:(s++t).size=s.size+t.size:=ByteArray.size_append;have d:Fb a b (s++t) s.size=true:=by
  unfold Fb;have f:(s++t).extract 0 s.size=s:=by
   apply Ds;rw[ByteArray.data_extract,Ydh,Ydk];simp only[ByteArray.data_append,Ydi,List.drop_zero,Nat.sub_zero];rw[List.take_append_of_le_length (by simp),Ycy (by simp)]
  have e2:(s++t).extract s.size (s++t).size=t:=by
   apply Ds;rw[ByteArray.data_extract,Ydh,Ydk];simp only[ByteArray.data_append,Ydi];rw[List.drop_append_of_le_length (by simp),List.drop_of_length_le (by simp),Ybj,Ycy (by rw[c];simp)]
  rw[f,e2,hs,e];rfl
 have g:(s.size:Int)∈Jv a b (s++t):=by
  unfold Jv C0;refine Ycp.2 ⟨s.size,YbV.2 ⟨Ych.2 (by omega),?_⟩,rfl⟩;rw[Q4 (by omega)];exact d
 have h:∀x∈Jv a b (s++t),x=(s.size:Int):=fun x j=>by
  obtain⟨i,rfl,k,m⟩:=WQ j;rw[ZC no m d k (by omega)]
 unfold Vd;generalize Jv a b (s++t)=l at*;cases l with
 | nil=>cases g
 | cons x l=>rw[h x (by simp)]
def RN(x y:ReM)(s t:ByteArray):Prop:=∀{A C:AM},Hn x A→Hn y C→Vd (some A) (some C) (s++t)=((s.size:Int),0)
theorem Q3{x y:ReM}{Ta Tb:List (List Nat)}{fa fb:Nat}(a:Cer x Ta fa)(b:Cer y Tb fb)(h:gB (nxC Ta fa Tb) (enC fa fb) (Z5 (nxC Ta fa Tb) 500 [(0,0,0)] [(0,0,0)])=true){u v:List Nat}(e:A9 u)(f:A9 v)(g:fa.testBit (F6 Ta 0 u)=true)(j:fb.testBit (F6 Tb 0 v)=true):RN x y (bA u) (bA v):=fun c d=>
 ZA (WA (a.sim c) (b.sim d) h) (by rw[(a.sim c).acc e];exact g) (by rw[(b.sim d).acc f];exact j)
def I4(s:ByteArray)(n:Nat):Nat:=(s.data.toList.getD (s.size-(n+1)) 0).toNat
theorem W3{s:ByteArray}{n:Nat}{b:UInt8}(h:s.data[s.size-(n+1)]?=some b):I4 s n=b.toNat:=by
 unfold I4;rw[Ya5,Array.getElem?_toList,h];rfl
theorem YX(o:Option AM)(s:ByteArray)(n:Nat)(q:Int):(wy o s (n+1)).1 q=if AG o q then min 2 ((wy o s n).1 (Ar o q (I4 s n))+(wy o s (n+1)).2)else(wy o s n).1 (Ar o q (I4 s n)):=rfl
theorem Ag1(o:Option AM)(s:ByteArray)(n:Nat):(wy o s (n+1)).2=(wy o s n).1 (Ar o 0 (I4 s n)):=rfl
def CI(o:Option AM)(s:ByteArray):Nat→Int→List Int
 | 0,_=>[]
 | n+1,q=>if AG o (Ar o q (I4 s n))&&decide (0<(wy o s n).2)then((s.size-n:Nat):Int)::CI o s n 0 else CI o s n (Ar o q (I4 s n))
def FB(o:Option AM)(s:ByteArray):List Int×Int:=if(wy o s s.size).2=0 then([],3)else(CI o s s.size 0,0)
theorem HB(o:Option AM)(s:ByteArray):∀(n:Nat) (q:Int),(CI o s n q).length≤n
 | 0,_=>J_ _
 | n+1,q=>by
   rw[CI];have a:=HB o s n 0;have b:=HB o s n (Ar o q (I4 s n));split<;>simp<;>omega
theorem WF{S:Nat→Prop}{H:Aa}{v:v_}{o:Option AM}{s:ByteArray}(E:∀k,S k→k<H.size)(G:Bc S H v o)(hs:s.size≤1048576):
  Al prog 54 #[v,.string s] H fun v' H'=>A_ (D_ H) H H'∧∃w,v'= .tuple #[w,C_ (FB o s).2]∧M_ tI none_ H' H.size 3 w (FB o s).1:=by
 have⟨a7,a8⟩:=Ng G;refine Al.of_vc func54 rfl (call54 _) ?_;have d0:decide ((1048576:Int)<(s.size:Int))=false:=m_;(conv=>whnf);rw[d0];refine Aj.mk (AaD E G (by omega)) ?_;rintro v1 H1 ⟨e,a9,b,rfl,A⟩;obtain⟨_,_,n,r,-⟩:=A.view (S':=D_ H1) (fun j I=>(A.lt I).2) (fun _ f=>f.elim);injection n with n e2 e3
 subst n;subst e3;have Z:=GC o s s.size;have t:∀{H':Aa},A_ (D_ H1) H1 H'→Bc S H' v o:=fun k=>(G.frame (e.mono E)).frame (k.mono fun j I=>Ae e (E j I));have up:∀{H':Aa},A_ (D_ H1) H1 H'→∀k,S k→k<H'.size:=fun h k J=>Ae h (Ae e (E k J));have B:∀i,i≤s.size→(KK o s s.size)[i]?=some (((wy o s (s.size-i)).2:Nat):Int):=fun i hi=>by rw[Ic o s s.size (by omega),I_ (by omega)]
 have w0:=B 0 (by omega);rw[Nat.sub_zero]at w0;refine F4 (i:=0) AO r Z.symm w0 rfl ?_;rintro b2 o2 ab a0 g ⟨rfl,-⟩;refine lT g.one ?_;by_cases K:(wy o s s.size).2=0
 ·have M:((((wy o s s.size).2:Nat):Int)==0)=true:=by rw[K];rfl
  (conv=>whnf);rw[M];(conv=>whnf);unfold FB;rw[I_ K];exact⟨e,_,rfl,M_.nil⟩
 ·have M:((((wy o s s.size).2:Nat):Int)==0)=false:=by rw[beq_eq_false_iff_ne];omega
  have hM:FB o s=(CI o s s.size 0,0):=by unfold FB;rw[G_ K]
  (conv=>whnf);rw[M];(conv=>whnf);refine A8.mk [7,8,22] (fun x:Nat×Int×List Int×Option Addr×Nat=>match x with | (m,q,L,a,c)=>[.slice a L.length c,C_ q,C_ ((s.size-m:Nat):Int)])
   (fun x H2=>x.1≤s.size∧(0≤x.2.1∧x.2.1<e_ o)∧x.2.2.1++CI o s x.1 x.2.1=CI o s s.size 0∧x.2.2.1.length≤s.size∧St H1 H2 [pS tI 3 x.2.2.2.1 x.2.2.1.length x.2.2.2.2 x.2.2.1]) (fun x _=>x.1) ?_ ?_
  ·(conv=>whnf);exact⟨(s.size,0,[],none,0),by simp,J_ _,⟨Ydj _,by simp only;omega⟩,rfl,by simp,(St.nil H1).nils tI 3⟩
  ·rintro⟨m,q,L,a,c⟩ H2 a5 ⟨hm,⟨q0,q1⟩,d,u,y⟩;simp only at hm q0 q1 d u y;by_cases N:m=0
   ·subst N;have O:decide (((s.size-0:Nat):Int)<(s.size:Int))=false:=m_;(conv=>whnf);rw[O];(conv=>whnf);rw[CI,List.append_nil]at d;rw[hM,←d];exact⟨e.trans (y.old.mono fun k J=>Ae e J),_,rfl,(y.own 0 rfl).lower (by omega)⟩
   ·obtain⟨m,rfl⟩:∃k,m=k+1:=⟨m-1,by omega⟩;have O:decide (((s.size-(m+1):Nat):Int)<(s.size:Int))=true:=s_;have⟨F,hb⟩:=En (s:=s) (k:=s.size-(m+1)) (by omega);have P:=W3 hb;have ad:=congrArg Al4 d;have ae:=HB o s s.size 0;rw[CI,P]at d;obtain⟨qn,rfl⟩:=Yav q0;have C:=LG (t y.old) (q:=qn) (b:=F.toNat) (by omega) (UInt8.toNat_lt F);(conv=>whnf);rw[O];refine Af.run (Ci Hv rfl hb (Ak (Cx (up y.old) (t y.old) (UInt8.toNat_lt F)) fun H3 Q=>?_));have D:=y.call Q;generalize Ar o (qn:Int) F.toNat=R at*;refine Ak (BU (t D.old)) fun H4 T=>?_;have p:=D.call T;have n:((s.size-(m+1):Nat):Int)+1=((s.size-m:Nat):Int):=by omega
    cases hf:AG o R with
    | false=>
      rw[hf]at d;simp only[Yas,Yao,if_false]at d;(conv=>whnf);rw[w64 (x:=((s.size-(m+1):Nat):Int)+1) (by omega) (by omega),n];exact⟨rfl,(m,R,L,a,c),rfl,⟨by simp only;omega,C,d,u,p⟩,by simp only;omega⟩
    | true=>
      rw[hf,Yaq]at d;have wm:=B (s.size-m) (by omega);rw[show s.size-(s.size-m)=m by omega]at wm;(conv=>whnf);rw[w64 (x:=((s.size-(m+1):Nat):Int)+1) (by omega) (by omega),n];refine F4 (i:=s.size-m) AO (r.frame p.old) Z.symm wm rfl ?_;rintro b5 o5 ah a6 l ⟨rfl,-⟩;refine lT l.one ?_;by_cases A:0<(wy o s m).2
      ·have U:decide ((0:Int)<(((wy o s m).2:Nat):Int))=true:=s_;simp only[A,decide_true,if_true]at d;(conv=>whnf);rw[U];(conv=>whnf);rw[w64 (x:=((s.size-(m+1):Nat):Int)+1) (by omega) (by omega),n];refine Az AO [C_ ((s.size-m:Nat):Int)] rfl rfl (by decide) (by decide) ?_;intro q6 H6 V ai W X;refine GH (p.skip V X) 0 AO rfl W ⟨rfl,Co (by omega)⟩ rfl (by omega) (by decide) fun a' c' H7 Y _=>?_;(conv=>whnf);rw[w64 (x:=((s.size-(m+1):Nat):Int)+1) (by omega) (by omega),n];have z:(L++[((s.size-m:Nat):Int)]).length=L.length+1:=by simp
       refine⟨rfl,(m,0,L++[((s.size-m:Nat):Int)],a',c'),by simp only;rw[z],⟨by simp only;omega,⟨Ydj _,by simp only;omega⟩,by simp only;rw[←d];simp,?_,?_⟩,by simp only;omega⟩
       ·simp only;have h1:=congrArg Al4 d;rw[Q_,j_]at h1;rw[z];omega
       ·simp only;rw[z];exact Y
      ·have U:decide ((0:Int)<(((wy o s m).2:Nat):Int))=false:=m_;simp only[A,decide_false,Yao,if_false]at d;(conv=>whnf);rw[U];(conv=>whnf);rw[w64 (x:=((s.size-(m+1):Nat):Int)+1) (by omega) (by omega),n];exact⟨rfl,(m,R,L,a,c),rfl,⟨by simp only;omega,C,d,u,p⟩,by simp only;omega⟩
theorem LH(s:ByteArray):(unB s).length=s.size:=by unfold unB;rw[Z_];rfl
section
variable{o:Option AM}{s:ByteArray}
theorem Me{p r:List Nat}{b:Nat}(h:unB s=p++b::r):I4 s r.length=b:=by
 have g:=LH s;have a:=congrArg Al4 h;rw[Q_,j_]at a;have e:(unB s)[p.length]?=some b:=by rw[h];simp
 unfold unB at e;rw[List.getElem?_map,Ydt]at e;have⟨c,d,f⟩:=e;unfold I4;rw[show s.size-(r.length+1)=p.length by omega,Ya5,d];exact f
theorem YY:∀(u p t:List Nat) (q:Int),unB s=p++(u++t)→AG o (Hu o u q)=true→0<(wy o s t.length).2→0<(wy o s (u.length+t.length)).1 q
 | [],p,t,q,h,hf,hw=>by
   replace hf:AG o q=true:=hf;rw[J',P_];cases t with
   | nil=>show 0<if AG o q then 1 else 0;rw[hf];decide
   | cons b t=>rw[j_,YX,hf]at*;rw[I_ rfl];omega
 | b::u,p,t,q,h,hf,hw=>by
   have a:=Me (s:=s) (p:=p) (b:=b) (r:=u++t) h;rw[Q_]at a;rw[C9]at hf;have c:=YY u (p++[b]) t (Ar o q b) (by rw[h];simp) hf hw;rw[show(b::u).length+t.length=u.length+t.length+1 by simp only[j_];omega,YX,a];split<;>omega
structure Zf(o:Option AM)(x:List Nat):Prop where
 ne:x≠[]
 acc:AG o (Hu o x 0)=true
 pre:∀k,0<k→k<x.length→AG o (Hu o (x.take k) 0)=false
theorem Qe:∀(xs:List (List Nat)) (p:List Nat),unB s=p++xs.flatten→(∀x∈xs,Zf o x)→0<(wy o s xs.flatten.length).2
 | [],_,_,_=>Nat.one_pos
 | x::xs,p,h,hx=>by
   have k:=hx x (by simp);cases x with
   | nil=>exact absurd rfl k.ne
   | cons b u=>
     have a:unB s=p++b::(u++xs.flatten):=h;have e:=Qe xs (p++b::u) (by rw[a];simp) fun y f=>hx y (YbX _ f);have c:=Me a;rw[Q_]at c;have d:=k.acc;rw[C9]at d;have:=YY u (p++[b]) xs.flatten (Ar o 0 b) (by rw[a];simp) d e;rw[show(((b::u)::xs).flatten).length=u.length+xs.flatten.length+1 by simp[Ydo],Ag1,c];exact this
theorem NG:∀(u p t:List Nat) (q:Int),unB s=p++(u++t)→u≠[]→AG o (Hu o u q)=true→(∀k,0<k→k<u.length→AG o (Hu o (u.take k) q)=false)→0<(wy o s t.length).2→CI o s (u.length+t.length) q=((s.size-t.length:Nat):Int)::CI o s t.length 0
 | [],_,_,_,_,h,_,_,_=>absurd rfl h
 | b::u,p,t,q,h,_,hf,hp,hw=>by
   have d:=Me (s:=s) (p:=p) (b:=b) (r:=u++t) h;rw[Q_]at d;rw[C9]at hf;rw[show(b::u).length+t.length=u.length+t.length+1 by simp only[j_];omega,CI,d];cases u with
   | nil=>
     replace hf:AG o (Ar o q b)=true:=hf;rw[J',P_,hf,g_ hw];rfl
   | cons c u=>
     have a:=hp 1 (by decide) (by simp only[j_];omega);replace a:AG o (Ar o q b)=false:=a;rw[a];simp only[Yas,Yao,if_false];exact NG (c::u) (p++[b]) t _ (by rw[h];simp) nofun hf (fun k f e=>by
      have:=hp (k+1) (by omega) (by simp only[j_]at e ⊢;omega);rwa [List.take_succ_cons,C9]at this) hw
def Gl:Nat→List (List Nat)→List Int
 | _,[]=>[]
 | n,x::xs=>((n+x.length:Nat):Int)::Gl (n+x.length) xs
theorem KO:∀(xs:List (List Nat)) (p:List Nat),unB s=p++xs.flatten→(∀x∈xs,Zf o x)→CI o s xs.flatten.length 0=Gl p.length xs
 | [],_,_,_=>rfl
 | x::xs,p,h,hx=>by
   have k:=hx x (by simp);have a:∀y∈xs,Zf o y:=fun y f=>hx y (YbX _ f);have c:unB s=p++(x++xs.flatten):=h;have b:unB s=(p++x)++xs.flatten:=by rw[c];simp
   have d:=congrArg Al4 b;rw[LH,Q_]at d;have e:=NG x p xs.flatten 0 c k.ne k.acc k.pre (Qe xs _ b a);rw[show((x::xs).flatten).length=x.length+xs.flatten.length by simp[Ydo],e,KO xs _ b a];rw[Gl,Q_,show s.size-xs.flatten.length=p.length+x.length by rw[d,Q_];omega]
theorem OK{xs:List (List Nat)}(h:unB s=xs.flatten)(b:∀x∈xs,Zf o x):FB o s=(Gl 0 xs,0):=by
 have c:=Qe xs [] h b;have a:=congrArg Al4 h;rw[LH]at a;unfold FB;rw[←a]at c;rw[G_ (by omega),a,KO xs [] h b];rfl
end
def XY(T:List (List Nat))(f d:Nat):Bool:= !f.testBit d&&((AhW 6).all fun c=>stT T d c==d)&&(AhW T.length).all fun i=> !f.testBit i|| (AhW 6).all fun c=>stT T i c==d
theorem Ou{T:List (List Nat)}{f d:Nat}(h:XY T f d=true):∀w:List Nat,F6 T d w=d
 | []=>rfl
 | b::w=>by
   have a:=h;unfold XY at a;simp only[h_,Ycc,Ych,beq_iff_eq]at a;show F6 T (stT T d (cix b)) w=d;rw[a.1.2 _ (Sf b)];exact Ou h w
theorem AaJ{T:List (List Nat)}{f d:Nat}(h:XY T f d=true){x:List Nat}(c:∀k,F6 T 0 (x.take k)<T.length)(b:f.testBit (F6 T 0 x)=true){k:Nat}(l:k<x.length):f.testBit (F6 T 0 (x.take k))=false:=by
 cases g:f.testBit (F6 T 0 (x.take k))with
 | false=>rfl
 | true=>
   have a:=h;unfold XY at a;simp only[h_,Ycc,Ych,beq_iff_eq,Yar,Yap]at a;have j:=(a.2 _ (c k)).resolve_left (by rw[g];exact nofun);have e:x=x.take k++(x[k]::x.drop (k+1)):=by rw[List.getElem_cons_drop,Ybb]
   have:F6 T 0 x=d:=by
    rw[e];unfold F6;rw[List.foldl_append,List.foldl_cons];show F6 T (stT T (F6 T 0 (x.take k)) (cix x[k])) _=d;rw[j _ (Sf _)];exact Ou h _
   rw[this,a.1.1]at b;cases b
def Nw(r:ReM)(s:ByteArray)(xs:List (List Nat)):Prop:=∀{A:AM},Hn r A→FB (some A) s=(Gl 0 xs,0)
theorem Z1{r:ReM}{T:List (List Nat)}{f d:Nat}(k:Cer r T f)(h:XY T f d=true){xs:List (List Nat)}(l:∀x∈xs,A9 x∧x≠[]∧(∀k,F6 T 0 (x.take k)<T.length)∧f.testBit (F6 T 0 x)=true):Nw r (bA xs.flatten) xs:=fun{A} t=>by
 have a:A9 xs.flatten:=fun b c=>by
  have⟨x,e,g⟩:=List.mem_flatten.1 c;exact(l x e).1 b g
 refine OK (Ts a) fun x e=>?_;have⟨m,u,y,n⟩:=l x e;have⟨R,z,p⟩:=k.sim t;have run:∀w,A9 w→AG (some A) (Hu (some A) w 0)=f.testBit (F6 T 0 w):=fun w B=>(p _ _ (PH (fun q i k=>(p q i k).2) B z)).1;exact⟨u,by rw[run x m];exact n,fun j D C=>by rw[run _ (Mf m j)];exact AaJ h y n C⟩
end
section
variable{B B':Nat→Prop}{H0 H H':Aa}{ps qs:List Pc}{p:Pc}
theorem E_.thn(a:E_ B H0 H ps)(b:E_ B H H' qs):E_ B H0 H' qs:=⟨a.old.trans b.old,a.lt0,Nat.le_trans a.size b.size,b.oks,b.rng,b.dis⟩
theorem E_.rot(a:E_ B H0 H (ps++[p])):E_ B H0 H (p::ps):=
 ⟨a.old,a.lt0,a.size,fun q b=>a.oks q (by simp at b ⊢;exact b.symm),fun q b=>a.rng q (by simp at b ⊢;exact b.symm),Yct.2 ⟨fun q b k d c=>(Ycj.1 a.dis).2.2 q b p (V_.2 rfl) k c d,(Ycj.1 a.dis).1⟩⟩
theorem E_.tl(a:E_ B H0 H (p::ps)):E_ B H0 H ps:=
 ⟨a.old,a.lt0,a.size,fun q b=>a.oks q (YbX _ b),fun q b=>a.rng q (YbX _ b),(Yct.1 a.dis).2⟩
theorem E_.swp{q:Pc}(b:E_ B H0 H (p::q::ps)):E_ B H0 H (q::p::ps):=
 have e:∀{r},r∈q::p::ps→r∈p::q::ps:=fun h=>by simp only[Ybe]at h ⊢;rcases h with h | h | h<;>simp[h]
 have d:=Yct.1 b.dis;have f:=Yct.1 d.2
 ⟨b.old,b.lt0,b.size,fun r a=>b.oks r (e a),fun r a=>b.rng r (e a),Yct.2 ⟨fun r a k g c=>by
  rcases Ybe.1 a with rfl | a
  ·exact d.1 q (YbZ ..) k c g
  ·exact f.1 r a k g c,Yct.2 ⟨fun r a=>d.1 r (YbX _ a),f.2⟩⟩⟩
theorem E_.keep(a:E_ B H0 H (p::ps)):E_ (fun k=>B k∨p.foot k) H H ps:=
 ⟨A_.refl _ _,fun k b=>b.elim a.up fun h=>(a.rng p (YbZ ..) k h).2,J_ _,a.tl.oks,fun q c k b=>⟨fun h=>h.elim (a.tl.rng q c k b).1 fun d=>(Yct.1 a.dis).1 q c k d b,(a.tl.rng q c k b).2⟩,a.tl.dis⟩
theorem E_.give(a:E_ B H0 H ps)(e:∀k,B' k→B k)(p:Pc)(g:p.ok H0)(d:∀k,p.foot k→B k∧¬B' k):E_ B' H0 H (p::ps):=
 ⟨a.old.mono e,fun k b=>a.lt0 k (e k b),a.size,fun q c=>by
  rcases Ybe.1 c with rfl | c
  ·exact q.fr (a.old.mono fun k b=>(d k b).1) g
  ·exact a.oks q c,fun q c k b=>by
  rcases Ybe.1 c with rfl | c
  ·exact⟨(d k b).2,a.up (d k b).1⟩
  ·exact⟨fun h=>(a.rng q c k b).1 (e k h),(a.rng q c k b).2⟩,Yct.2 ⟨fun q c k b f=>(a.rng q c k f).1 (d k b).1,a.dis⟩⟩
end
open Go.Lib
theorem M7{c:Nat}{H:Aa}:AZ prog 95 #[.int .u8 (c:Int)] H (.bool (JD c)):=by
 refine Al.of_vc func95 rfl (call95 _) ?_;cases a:((c:Int)==95)<;>cases b:decide ((97:Int)≤c)<;>cases d:decide ((c:Int)≤122)<;>cases e:decide ((65:Int)≤c)<;>cases f:decide ((c:Int)≤90)
 all_goals
  repeat ((conv=>whnf);first | rw[a] | rw[b] | rw[d] | rw[e] | rw[f])
  refine⟨congrArg Value.bool ?_,A_.refl _ _⟩;simp at a b d e f;unfold JD
  first | (rw[eq_comm,Zzj];omega) | (rw[eq_comm,Zzi];omega)
theorem TR{c:Nat}{H:Aa}:AZ prog 96 #[.int .u8 (c:Int)] H (.bool (dgB c)):=by
 refine Al.of_vc func96 rfl (call96 _) ?_;cases a:decide ((48:Int)≤c)<;>cases b:decide ((c:Int)≤57)
 all_goals
  repeat ((conv=>whnf);first | rw[a] | rw[b])
  refine⟨congrArg Value.bool ?_,A_.refl _ _⟩;simp at a b;unfold dgB
  first | (rw[eq_comm,Zzj];omega) | (rw[eq_comm,Zzi];omega)
theorem FJ{c:Nat}{H:Aa}:AZ prog 134 #[.int .u8 (c:Int)] H (.bool (prB c)):=by
 refine Al.of_vc func134 rfl (call134 _) ?_;cases a:decide ((32:Int)≤c)<;>cases b:decide ((c:Int)≤126)
 all_goals
  repeat ((conv=>whnf);first | rw[a] | rw[b])
  refine⟨congrArg Value.bool ?_,A_.refl _ _⟩;simp at a b;unfold prB
  first | (rw[eq_comm,Zzj];omega) | (rw[eq_comm,Zzi];omega)
abbrev skL(t:ByteArray)(i:Nat)(v:v_)(c p:Int):List v_:=[.string t,C_ i,v,C_ c,C_ p,.string ⟨#[]⟩]
abbrev pSk(s:Nat)(t:ByteArray)(i:Nat)(v:v_)(c p:Int):Pc:=pB 131 s (skL t i v c p)
section
variable{B S:Nat→Prop}{H0 H:Aa}{qs:List Pc}{s i:Nat}{t:ByteArray}{v:v_}{c p:Int}
theorem skT{K:v_→Prop}(a:E_ B H0 H (pSk s t i v c p::qs))(k:K (.string t))(b:S s:=by exact trivial):A7 prog (Instr.loadAt 9 (H_ s)) S H K:=
 B_ ((a.blk 0 rfl).cellE rfl) b k
theorem skA{K:v_→Prop}(a:E_ B H0 H (pSk s t i v c p::qs))(k:K (.int .i64 (i:Int)))(b:S s:=by exact trivial):A7 prog (Instr.loadAt 3 (.pointer (some ⟨s,1,none⟩))) S H K:=
 B_ ((a.blk 0 rfl).cellE rfl) b k
theorem skS{K:Aa→Prop}(j:Nat)(b:E_ B H0 H (pSk s t i v c p::qs))(k:∀H',E_ B H0 H' (pSk s t j v c p::qs)→K H'):By prog (Instr.storeAt 3 (.pointer (some ⟨s,1,none⟩)) (.int .i64 (j:Int))) H K:=
 Bh b 0 rfl (by simp) rfl fun H' a=>k H' a
theorem skE(a:E_ B H0 H (pSk s t i v c p::qs)):AZ prog 61 #[H_ s] H (.bool (decide (t.size≤i))):=by
 refine Al.of_vc func61 rfl (call61 _) (Au.lex rfl (by kernel_rfl) ?_)
 repeat ((conv=>whnf);first | refine F_ ?_ | refine skT a ?_ | refine skA a ?_)
 refine⟨?_,A_.refl _ _⟩
 congr 1
 rw[decide_eq_decide];omega
theorem Yx{n:Nat}(h:bt t i=10∨t.size≤i):BD t n true i=BD t n false i:=by
 cases n with
 | zero=>rfl
 | succ n=>
   unfold BD;by_cases a:t.size≤i
   ·rw[I_ a,I_ a]
   ·rw[G_ a,G_ a,h.resolve_right a]<;>rfl
theorem Yy(S:t.size≤4096)(hi:i≤t.size)(E:E_ B H H (pSk s t i v c p::qs)):Al prog 60 #[H_ s] H fun r H'=>r= .tuple #[]∧E_ B H H' (pSk s t (BD t (t.size-i) false i) v c p::qs):=by
 refine Al.of_vc func60 rfl (call60 _) (A8.mk [] (fun _:Nat=>[]) (fun j G=>j≤t.size∧(∃n,t.size≤j+n∧BD t (t.size-i) false i=BD t n false j)∧E_ B H G (pSk s t j v c p::qs)) (fun j _=>t.size-j) ⟨i,rfl,hi,⟨_,by omega,rfl⟩,E⟩ ?_);rintro j G w ⟨N,⟨n,f,e⟩,d⟩;refine Ak (skE d) fun G1 a1=>?_;have q:=d.call a1;by_cases g:t.size≤j
 ·rw[g_ g];have:BD t n false j=j:=by cases n<;>unfold BD<;>first | rfl | exact I_ g
  (conv=>whnf);exact⟨rfl,by rw[e,this];exact q⟩
 rw[a_ g];have⟨b,F,I,O⟩:=CH (Ydr g);obtain⟨m,rfl⟩:∃m,n=m+1:=⟨n-1,by omega⟩;refine Au.lex rfl (by kernel_rfl) ?_
 repeat ((conv=>whnf);first | refine F_ ?_ | refine skT q ?_ | refine skA q ?_ | refine Ci DN rfl F ?_)
 rw[←I];by_cases y:bt t j=35
 ·have J:((bt t j:Int)==35)=true:=by rw[y];rfl
  (conv=>whnf);rw[J];refine A8.mk [] (fun _:Nat=>[]) (fun k G=>j≤k∧k≤t.size∧(∃n,t.size≤k+n∧BD t (t.size-i) false i=BD t n true k)∧E_ B H G (pSk s t k v c p::qs)) (fun k _=>t.size-k) ⟨j,rfl,J_ _,N,⟨m+1,f,?_⟩,q⟩ ?_
  ·rw[e];unfold BD;rw[G_ g,G_ g,y]<;>rfl
  rintro k G w ⟨P,Q,⟨n,f,e⟩,d⟩;refine Au.quiet (D_ G) rfl (by kernel_rfl) (EK (fun H' R=>skE (d.call R)) ?_);have fin:∀{G2:Aa},bt t k=10∨t.size≤k→A_ (D_ G) G G2→j<k∧k≤t.size∧(∃n,t.size≤k+n∧BD t (t.size-i) false i=BD t n false k)∧E_ B H G2 (pSk s t k v c p::qs):=fun h a=>by
   have:j≠k:=fun x=>by subst x;omega
   exact⟨by omega,Q,⟨n,f,by rw[e,Yx h]⟩,d.call a⟩
  by_cases z:t.size≤k
  ·rw[g_ z];(conv=>whnf);intro G2 a2;have:=fin (.inr z) a2;(conv=>whnf);exact⟨rfl,k,rfl,this.2,by omega⟩
  rw[a_ z];have⟨b,F,I,O⟩:=CH (Ydr z)
  repeat ((conv=>whnf);first | refine F_ ?_ | refine skT d ?_ (d.in_ 0 rfl rfl).2 | refine skA d ?_ (d.in_ 0 rfl rfl).2 | refine Ci DN rfl F ?_)
  rw[←I];by_cases K:bt t k=10
  ·have l:((bt t k:Int) != 10)=false:=by rw[K];rfl
   (conv=>whnf);rw[l];(conv=>whnf);intro G2 a2;have:=fin (.inl K) a2;(conv=>whnf);exact⟨rfl,k,rfl,this.2,by omega⟩
  have l:((bt t k:Int) != 10)=true:=bne_iff_ne.2 (by omega);(conv=>whnf);rw[l];(conv=>whnf);intro G2 a2;have M:=d.call a2
  repeat ((conv=>whnf);first | rw[R_ k (by omega)] | refine F_ ?_ | refine skA M ?_)
  refine skS (k+1) M fun G3 L=>?_;(conv=>whnf);refine⟨rfl,k+1,rfl,⟨by omega,by omega,⟨n-1,by omega,?_⟩,L⟩,by omega⟩;obtain⟨m,rfl⟩:∃m,n=m+1:=⟨n-1,by omega⟩;rw[e];show(if t.size≤k then k else BD t m (bt t k != 10) (k+1))=_;rw[G_ z,bne_iff_ne.2 K]<;>rfl
 have J:((bt t j:Int)==35)=false:=CV y;(conv=>whnf);rw[J];by_cases u:blB (bt t j)=true
 ·have:∀{G2:Aa},E_ B H G2 (pSk s t (j+1) v c p::qs)→(j+1≤t.size∧(∃n,t.size≤j+1+n∧BD t (t.size-i) false i=BD t n false (j+1))∧E_ B H G2 (pSk s t (j+1) v c p::qs))∧t.size-(j+1)<t.size-j:=fun E=>by
   refine⟨⟨by omega,⟨m,by omega,?_⟩,E⟩,by omega⟩;rw[e];show(if t.size≤j then j else if bt t j=35 then _ else if blB (bt t j)then BD t m false (j+1)else j)=_;rw[G_ g,G_ y,I_ u]
  cases l:((bt t j:Int)==32)<;>cases A:((bt t j:Int)==9)<;>cases C:((bt t j:Int)==10)<;>cases D:((bt t j:Int)==13)
  all_goals
   repeat ((conv=>whnf);first | refine Af.run ?_ | rw[l] | rw[A] | rw[C] | rw[D] | rw[R_ j (by omega)] | refine F_ ?_ | refine skA q ?_ | refine skS (j+1) q fun G3 L=>?_ | exact⟨rfl,j+1,rfl,this L⟩)
  simp at l A C D;unfold blB at u;simp at u;omega
 ·have f:bt t j≠32∧bt t j≠9∧bt t j≠10∧bt t j≠13:=by unfold blB at u;simp at u;omega
  have l:((bt t j:Int)==32)=false:=CV f.1;have A:((bt t j:Int)==9)=false:=CV f.2.1;have C:((bt t j:Int)==10)=false:=CV f.2.2.1;have D:((bt t j:Int)==13)=false:=CV f.2.2.2
  repeat ((conv=>whnf);first | refine Af.run ?_ | rw[l] | rw[A] | rw[C] | rw[D])
  have:BD t (m+1) false j=j:=by unfold BD;rw[G_ g,G_ y,G_ u]<;>rfl
  exact⟨rfl,by rw[e,this];exact q⟩
theorem JS{c2 p2:Int}(a:E_ B H H (pSk s t i v c p::qs)):Al prog 97 #[H_ s,C_ c2,C_ p2] H fun r H'=>r= .bool false∧E_ B H H' (pSk s t i v c2 p2::qs):=by
 refine Al.of_vc func97 rfl (call97 _) (Ah underlying27 rfl _ rfl [C_ c2,C_ p2,.string ⟨#[]⟩] rfl (F_ ?_));refine AD (cs:=[C_ c2,C_ p2,.string ⟨#[]⟩]) a 0 rfl rfl (by simp) rfl fun H1 b=>?_;(conv=>whnf);exact⟨rfl,b⟩
def tkL(k:Tk):List v_:=[C_ k.k,C_ k.p,.string k.s]
def tTk:Ty Tk where
 size:=3
 rep _ _ cs k:=cs=tkL k
 len h:=by rw[h];rfl
 frame h _:=h
 mono h _:=h
abbrev pTk(a:Option Addr)(n:Nat)(ts:List Tk):Pc:=pS tTk 135 a ts.length n ts
structure ScS(B:Nat→Prop)(H0 H:Aa)(s:Nat)(t:ByteArray)(i:Nat)(ts:List Tk)(c p:Int):Prop where
 ex:∃a n,E_ B H0 H [pSk s t i (.slice a ts.length n) c p,pTk a n ts]
theorem Ox{ts:List Tk}{k p2:Nat}{x:ByteArray}(z:ts.length≤1000000)(h:ScS B H H s t i ts c p):Al prog 63 #[H_ s,C_ k,C_ p2,.string x] H fun r H'=>r= .bool true∧ScS B H H' s t i (ts++[⟨k,p2,x⟩]) c p:=by
 have⟨a,n,e⟩:=h;refine Al.of_vc func63 rfl (call63 _) (F_ ?_);refine B_ ((e.blk 0 rfl).cellE rfl) trivial (Ah underlying135 rfl _ rfl (tkL ⟨k,p2,x⟩) rfl (Az Y0 (tkL ⟨k,p2,x⟩) rfl rfl (by decide) (by decide) ?_));intro y H1 f g b d;have l:=e.skip f d;refine Qn (ys:=[⟨k,p2,x⟩]) l 1 Y0 rfl (b.cells (o:=0) (cs:=tkL ⟨k,p2,x⟩) fun j v m=>by rw[P_];exact m) (Ty.reps_one (T:=tTk) (x:=⟨k,p2,x⟩) rfl) rfl (by simp[tkL,Value.oneCell']) (by simp only[j_,J'];omega) (by decide) fun a2 q H2 u _=>?_;refine F_ ?_;refine Bh u 0 rfl (by simp) rfl fun H3 w=>?_;(conv=>whnf);exact⟨rfl,a2,q,by unfold pTk;rw[Q_];exact w⟩
end
section
variable{B S:Nat→Prop}{H0 H:Aa}{qs:List Pc}{s i:Nat}{t:ByteArray}{v:v_}{c p:Int}
theorem Aa1:∀c,c<256→indexByte [48,49,50,51,52,53,54,55,56,57,97,98,99,100,101,102] (UInt8.ofNat c)=match Vl c with | none=>(-1:Int) | some d=>(d:Int):=by decide+kernel
theorem QU:∀c,c<256→(decide (0≤indexByte [61,59,40,41,123,125,44,124,38,45,46,126,42,43,63] (UInt8.ofNat c))=decide (c∈X5)):=by decide+kernel
theorem Xa(S:t.size≤4096)(hi:i<t.size)(I:E_ B H H (pSk s t i v c p::qs)):Al prog 135 #[H_ s] H fun r H'=>
  r= .tuple #[.int .u8 (((FW t i).1.getD 0:Nat):Int),.bool (FW t i).1.isSome]∧E_ B H H' (pSk s t (FW t i).2 v c p::qs):=by
 refine Al.of_vc func135 rfl (call135 _) ?_
 repeat ((conv=>whnf);first | rw[R_ i (by omega)] | refine F_ ?_ | refine skA I ?_)
 refine skS (i+1) I fun H1 J=>(Ak (skE J) fun H2 a2=>?_);have l:=J.call a2;unfold FW;by_cases q:t.size≤i+1
 ·rw[g_ q,I_ q];(conv=>whnf);exact⟨rfl,l⟩
 rw[a_ q,G_ q];have⟨b,A,u,K⟩:=CH (Ydr q);refine Au.lex rfl (by kernel_rfl) ?_
 repeat ((conv=>whnf);first | refine F_ ?_ | refine skT l ?_ | refine skA l ?_ | refine Ci DN rfl A ?_)
 rw[←u];by_cases a:bt t (i+1)=120
 ·have h:((bt t (i+1):Int)==110)=false:=by rw[a];rfl
  have k:((bt t (i+1):Int)==114)=false:=by rw[a];rfl
  have w:((bt t (i+1):Int)==116)=false:=by rw[a];rfl
  have y:((bt t (i+1):Int)==34)=false:=by rw[a];rfl
  have z:((bt t (i+1):Int)==92)=false:=by rw[a];rfl
  have C:((bt t (i+1):Int)==120)=true:=by rw[a];rfl
  rw[I_ a]
  repeat ((conv=>whnf);first | refine Af.run ?_ | rw[h] | rw[k] | rw[w] | rw[y] | rw[z] | rw[C])
  refine A8.mk [38,5] (fun x:Nat×Nat×Nat=>match x with | (n,x,_)=>[C_ n,C_ x]) (fun x G=>match x with | (n,x,j)=>n≤2∧x<16^n∧M0 t 2 0 (i+1)=M0 t (2-n) x j∧j<t.size∧E_ B H G (pSk s t j v c p::qs)) (fun x _=>match x with | (n,_,_)=>2-n) ⟨(0,0,i+1),rfl,by decide,by decide,rfl,by omega,l⟩ ?_;rintro⟨n,x,j⟩ G L ⟨T,D,e,U,E⟩;by_cases N:n=2
  ·subst N;have D:x<256:=D;(conv=>whnf);rw[e,w8 (by omega) (by omega)];exact⟨rfl,E⟩
  have h:decide ((n:Int)<2)=true:=s_;obtain⟨m,O⟩:∃m,2-n=m+1:=⟨1-n,by omega⟩;rw[O,show M0 t (m+1) x j=(if t.size≤j+1 then(none,j+1)else match Vl (bt t (j+1))with | none=>(none,j+1) | some d=>M0 t m (16*x+d) (j+1))from rfl]at e;(conv=>whnf);rw[h]
  repeat ((conv=>whnf);first | rw[R_ j (by omega)] | refine F_ ?_ | refine skA E ?_)
  refine skS (j+1) E fun H3 M=>(Ak (skE M) fun H4 a4=>?_);have g:=M.call a4;by_cases g1:t.size≤j+1
  ·rw[g_ g1];rw[I_ g1]at e;(conv=>whnf);exact⟨by rw[e];rfl,by rw[e];exact g⟩
  rw[a_ g1];rw[G_ g1]at e;have⟨b,A,u,K⟩:=CH (Ydr g1);refine Au.quiet (D_ H4) rfl (by kernel_rfl) ?_
  repeat ((conv=>whnf);first | refine F_ ?_ | refine skT g ?_ (g.in_ 0 rfl rfl).2 | refine skA g ?_ (g.in_ 0 rfl rfl).2 | refine Ci DN rfl A ?_)
  rw[←u];refine EK (fun H' V=>JB _ _ H') ?_;have W:UInt8.ofNat (bt t (j+1))=b:=by rw[u];simp
  have f:=Aa1 _ K;cases hd:Vl (bt t (j+1))with
  | none=>
    rw[hd]at f e;rw[show indexByte _ (UInt8.ofNat (bt t (j+1)))= -1 from f];(conv=>whnf);intro H5 F;(conv=>whnf);exact⟨by rw[e];rfl,by rw[e];exact g.call F⟩
  | some d=>
    rw[hd]at f e;have P:=Ud hd;rw[show indexByte _ (UInt8.ofNat (bt t (j+1)))=(d:Int)from f];have Q:x<16:=Ybq D (Ybw (by decide) (show n≤1 by omega));(conv=>whnf);intro H5 F;have R:=g.call F;have k:decide ((d:Int)<0)=false:=m_
    repeat ((conv=>whnf);first | rw[k] | rw[n_ (x:=(16:Int)*x) (by omega)] | rw[n_ (x:=(16:Int)*x+d) (by omega)] | rw[R_ n (by omega)])
    refine⟨rfl,(n+1,16*x+d,j+1),?_,⟨by omega,?_,?_,by omega,R⟩,by show 2-(n+1)<2-n;omega⟩
    ·simp
    ·rw[Nat.pow_succ];omega
    ·rw[e,show 2-(n+1)=m by omega]
 ·have C:((bt t (i+1):Int)==120)=false:=CV a;rw[G_ a];cases h:((bt t (i+1):Int)==110)<;>cases k:((bt t (i+1):Int)==114)<;>cases w:((bt t (i+1):Int)==116)<;>cases y:((bt t (i+1):Int)==34)<;>cases z:((bt t (i+1):Int)==92)
  all_goals
   repeat ((conv=>whnf);first | refine Af.run ?_ | rw[h] | rw[k] | rw[w] | rw[y] | rw[z] | rw[C])
   simp at h k w y z
   first
    | (exfalso;omega)
    | (refine⟨?_,l⟩
       unfold Ae7
       repeat' split
       all_goals first | rfl | (exfalso;omega))
end
section
variable{B S:Nat→Prop}{H0 H:Aa}{qs:List Pc}{s i:Nat}{t:ByteArray}{v:v_}{c p:Int}{ts:List Tk}
def ScR(B:Nat→Prop)(H0 H:Aa)(s:Nat)(t:ByteArray)(ts:List Tk)(c p:Int)(r:v_):FT ⊕ (Tk×Nat)→Prop
 | .inl e=>r= .bool false∧∃j,ScS B H0 H s t j ts e.1 e.2
 | .inr x=>r= .bool true∧ScS B H0 H s t x.2 (ts++[x.1]) c p
theorem ScS.thn{H':Aa}{ps:List Pc}(b:E_ B H0 H ps)(h:ScS B H H' s t i ts c p):ScS B H0 H' s t i ts c p:=by
 have⟨a,n,d⟩:=h;exact⟨a,n,b.thn d⟩
theorem ScS.of{a:Option Addr}{n:Nat}(b:E_ B H0 H (pSk s t i (.slice a ts.length n) c p::pTk a n ts::qs)):ScS B H0 H s t i ts c p:=⟨a,n,E_.lft (ps:=[_,_]) b⟩
theorem ScS.off{a:Option Addr}{n:Nat}(b:E_ B H0 H (pSk s t i (.slice a ts.length n) c p::pTk a n ts::qs)):ScS B H H s t i ts c p:=.of b.rebase
theorem Ye(V:t.size≤4096)(W:ts.length≤1000000)(hi:i<t.size)(h:ScS B H H s t i ts c p):Al prog 98 #[H_ s] H fun r H'=>
  ScR B H H' s t ts c p r ((Gv t i (t.size-(i+1)) (i+1) []).map id fun x=>(⟨2,i,bA x.1⟩,x.2)):=by
 have⟨a,n,R⟩:=h;refine Al.of_vc func98 rfl (call98 _) ?_
 repeat ((conv=>whnf);first | rw[R_ i (by omega)] | refine F_ ?_ | refine skA R ?_)
 refine skS (i+1) R fun H1 J=>?_;have J:=J.nils (DB .u8) 5;refine A8.mk [4] (fun x:Nat×List Nat×Option Addr×Nat=>match x with | (_,l,b,m)=>[.slice b l.length m]) (fun x G=>match x with | (j,l,b,m)=>i<j∧j≤t.size∧l.length≤j∧(∃n,t.size≤j+n∧Gv t i (t.size-(i+1)) (i+1) []=Gv t i n j l)∧E_ B H G [pSk s t j (.slice a ts.length n) c p,pTk a n ts,pS (DB .u8) 5 b l.length m (l.map fun(x:Nat)=>(x:Int))]) (fun x _=>match x with | (j,_,_,_)=>t.size-j) ⟨(i+1,[],none,0),rfl,by omega,by omega,l_ _,⟨_,by omega,rfl⟩,J⟩ ?_;rintro⟨j,l,b,m⟩ G S ⟨X,hj,Y,⟨E,hn,e⟩,T⟩;refine Ak (skE T) fun G1 a1=>?_;have u:=T.call a1;by_cases A:t.size≤j
 ·rw[g_ A];have e2:Gv t i E j l= .inl (51,i):=by cases E<;>unfold Gv<;>first | rfl | exact I_ A
  rw[e2]at e;refine Aj.mk (JS (c2:=51) (p2:=i) u.rebase) ?_;rintro _ G2 ⟨rfl,d⟩;(conv=>whnf);rw[e];exact⟨rfl,j,.of (u.thn d)⟩
 rw[a_ A];have⟨b1,Z,h2,h3⟩:=CH (Ydr A);obtain⟨m2,rfl⟩:∃m,E=m+1:=⟨E-1,by omega⟩;rw[show Gv t i (m2+1) j l=(if t.size≤j then .inl (51,i)else if bt t j=34 then .inr (l,j+1)else if prB (bt t j)=false then .inl (50,j)else if bt t j≠92 then Gv t i m2 (j+1) (l++[bt t j])else
  if t.size≤(FW t j).2 then .inl (51,i)else match(FW t j).1 with
   | none=>.inl (50,(FW t j).2)
   | some b=>Gv t i m2 ((FW t j).2+1) (l++[b]))from rfl,G_ A]at e
 repeat (refine Af.run ?_)
 refine Au.lex rfl (by kernel_rfl) ?_
 repeat ((conv=>whnf);first | refine F_ ?_ | refine skT u ?_ | refine skA u ?_ | refine Ci DN rfl Z ?_)
 rw[←h2];by_cases F:bt t j=34
 ·have K:((bt t j:Int)==34)=true:=by rw[F];rfl
  rw[I_ F]at e
  repeat ((conv=>whnf);first | rw[K] | rw[R_ j (by omega)] | refine F_ ?_ | refine skA u ?_)
  refine skS (j+1) u fun G2 d=>(PW l d 2 rfl rfl rfl rfl (Aj.mk (Ox W (.off d)) ?_));rintro _ G4 ⟨rfl,g⟩;(conv=>whnf);rw[e];exact⟨rfl,g.thn d⟩
 have K:((bt t j:Int)==34)=false:=CV F;rw[G_ F]at e
 repeat ((conv=>whnf);first | refine Af.run ?_ | rw[K])
 refine Ak (FJ) fun G2 a2=>?_;have d:=u.call a2;cases U:prB (bt t j)with
 | false=>
   rw[U,I_ rfl]at e
   repeat ((conv=>whnf);first | refine F_ ?_ | refine skA d ?_)
   refine Aj.mk (JS (c2:=50) (p2:=j) d.rebase) ?_;rintro _ G4 ⟨rfl,g⟩;(conv=>whnf);rw[e];exact⟨rfl,j,.of (d.thn g)⟩
 | true=>
   rw[U,G_ nofun]at e;(conv=>whnf);by_cases L:bt t j=92
   ·have M:((bt t j:Int) != 92)=false:=by rw[L];rfl
    rw[G_ (by simp[L])]at e;(conv=>whnf);rw[M];refine Aj.mk (Xa V (Ydr A) d.rebase) ?_;rintro _ G4 ⟨rfl,g⟩;have g:=d.thn g;have N:=L3 t j;have C:=fun b=>Ae6 (t:=t) (i:=j) (b:=b);generalize FW t j=x at*;have⟨y,k⟩:=x;simp only at e g N C;refine Ak (skE g) fun G5 D=>?_;have q:=g.call D;by_cases I:t.size≤k
    ·rw[g_ I];rw[I_ I]at e;refine Aj.mk (JS (c2:=51) (p2:=i) q.rebase) ?_;rintro _ G6 ⟨rfl,f⟩;(conv=>whnf);rw[e];exact⟨rfl,k,.of (q.thn f)⟩
    rw[a_ I];rw[G_ I]at e;cases y with
    | none=>
      repeat ((conv=>whnf);first | refine F_ ?_ | refine skA q ?_)
      refine Aj.mk (JS (c2:=50) (p2:=k) q.rebase) ?_;rintro _ G6 ⟨rfl,f⟩;(conv=>whnf);rw[e];exact⟨rfl,k,.of (q.thn f)⟩
    | some b=>
      have hb:=C b rfl;refine Az Jd [.int .u8 (b:Int)] rfl rfl (by decide) (by decide) ?_;intro y H1 O P w z;refine GH (q.skip O z) 2 Jd rfl w ⟨rfl,Lo hb⟩ rfl (by rw[Z_];omega) (by decide) fun D Q G5 f _=>?_
      repeat ((conv=>whnf);first | rw[R_ k (by omega)] | refine F_ ?_ | refine skA f ?_)
      refine skS (k+1) f fun G6 f=>?_;(conv=>whnf);refine⟨rfl,(k+1,l++[b],D,Q),by simp,⟨by omega,by omega,by simp;omega,⟨m2,by omega,e⟩,?_⟩,by show t.size-(k+1)<t.size-j;omega⟩;simpa using f
   ·have M:((bt t j:Int) != 92)=true:=bne_iff_ne.2 (by omega);rw[I_ L]at e;(conv=>whnf);rw[M];refine Az Jd [.int .u8 (bt t j:Int)] rfl rfl (by decide) (by decide) ?_;intro y H1 O P w z;refine GH (d.skip O z) 2 Jd rfl w ⟨rfl,Lo h3⟩ rfl (by rw[Z_];omega) (by decide) fun D Q G5 q _=>?_
    repeat ((conv=>whnf);first | rw[R_ j (by omega)] | refine F_ ?_ | refine skA q ?_)
    refine skS (j+1) q fun G6 f=>?_;(conv=>whnf);refine⟨rfl,(j+1,l++[bt t j],D,Q),by simp,⟨by omega,by omega,by simp;omega,⟨m2,by omega,e⟩,?_⟩,by show t.size-(j+1)<t.size-j;omega⟩;simpa using f
theorem AbC(Q:t.size≤4096)(J:ts.length≤1000000)(hi:i<t.size)(h:ScS B H H s t i ts c p):Al prog 99 #[H_ s] H fun r H'=>
  ScR B H H' s t ts c p r ((Hs t i (t.size-(i+1)) (i+1)).map id fun j=>(⟨3,i,t.extract (i+1) (j-1)⟩,j)):=by
 have⟨a,n,D⟩:=h;refine Al.of_vc func99 rfl (call99 _) ?_
 repeat ((conv=>whnf);first | rw[R_ i (by omega)] | refine F_ ?_ | refine skA D ?_)
 refine skS (i+1) D fun H1 K=>(A8.mk [] (fun _:Nat=>[]) (fun j G=>i<j∧j≤t.size∧(∃n,t.size≤j+n∧Hs t i (t.size-(i+1)) (i+1)=Hs t i n j)∧E_ B H G [pSk s t j (.slice a ts.length n) c p,pTk a n ts]) (fun j _=>t.size-j) ⟨i+1,rfl,by omega,by omega,⟨_,by omega,rfl⟩,K⟩ ?_);rintro j G E ⟨L,R,⟨u,S,e⟩,F⟩;refine Ak (skE F) fun G1 a1=>?_;have g:=F.call a1;by_cases q:t.size≤j
 ·rw[g_ q];have e2:Hs t i u j= .inl (52,i):=by cases u<;>unfold Hs<;>first | rfl | exact I_ q
  rw[e2]at e;refine Aj.mk (JS (c2:=52) (p2:=i) g.rebase) ?_;rintro _ G2 ⟨rfl,b⟩;(conv=>whnf);rw[e];exact⟨rfl,j,.of (g.thn b)⟩
 rw[a_ q];have⟨T,M,N,U⟩:=CH (Ydr q);obtain⟨m2,rfl⟩:∃m,u=m+1:=⟨u-1,by omega⟩;rw[show Hs t i (m2+1) j=(if t.size≤j then .inl (52,i)else if bt t j=92∧j+1<t.size then(if prB (bt t (j+1))then Hs t i m2 (j+2)else .inl (50,j+1))else
  if prB (bt t j)=false then .inl (50,j)else if bt t j=47 then .inr (j+1)else Hs t i m2 (j+1))from rfl,G_ q]at e
 repeat (refine Af.run ?_)
 refine Au.lex rfl (by kernel_rfl) ?_
 repeat ((conv=>whnf);first | refine F_ ?_ | refine skT g ?_ | refine skA g ?_ | refine Ci DN rfl M ?_)
 rw[←N];refine Af.run (Au.lex rfl (by kernel_rfl) ?_);by_cases w:bt t j=92∧j+1<t.size
 ·have y:((bt t j:Int)==92)=true:=by rw[w.1];rfl
  have z:decide ((j:Int)+1<(t.size:Int))=true:=s_;rw[I_ w]at e
  repeat ((conv=>whnf);first | rw[y] | rw[z] | rw[R_ j (by omega)] | refine F_ ?_ | refine skT g ?_ | refine skA g ?_)
  refine skS (j+1) g fun G3 b=>?_;have⟨V,A,k,W⟩:=CH w.2;refine Au.quiet (D_ G3) rfl (by kernel_rfl) ?_
  repeat ((conv=>whnf);first | refine F_ ?_ | refine skT b ?_ (b.in_ 0 rfl rfl).2 | refine skA b ?_ (b.in_ 0 rfl rfl).2 | refine Ci DN rfl A ?_)
  rw[←k];refine EK (fun H' X=>FJ) ?_;cases I:prB (bt t (j+1))with
  | false=>
    rw[I,G_ nofun]at e;(conv=>whnf);intro G4 a4;have d:=b.call a4
    repeat ((conv=>whnf);first | refine F_ ?_ | refine skA d ?_)
    refine Aj.mk (JS (c2:=50) (p2:=(j+1:Nat)) d.rebase) ?_;rintro _ G5 ⟨rfl,l⟩;(conv=>whnf);rw[e];exact⟨rfl,j+1,.of (d.thn l)⟩
  | true=>
    rw[I,I_ rfl]at e;(conv=>whnf);intro G4 a4;have d:=b.call a4;refine Ak (FJ (c:=32)) fun G5 O=>?_;have l:=d.call O
    repeat ((conv=>whnf);first | rw[n_ (x:=((j+1:Nat):Int)+1) (by omega)] | refine F_ ?_ | refine skA l ?_)
    refine skS (j+2) l fun G6 P=>?_;(conv=>whnf);exact⟨rfl,j+2,rfl,⟨by omega,by omega,⟨m2,by omega,e⟩,P⟩,by omega⟩
 rw[G_ w]at e;cases y:((bt t j:Int)==92)
 all_goals
  have z:((bt t j:Int)==92)=true→decide ((j:Int)+1<(t.size:Int))=false:=fun h=>a_ (by simp at h;omega);rw[y]at z
  repeat ((conv=>whnf);first | rw[y] | rw[z rfl] | rw[R_ j (by omega)] | refine F_ ?_ | refine skT g ?_ | refine skA g ?_)
  refine Ak (FJ) fun G3 a3=>?_;have b:=g.call a3;cases A:prB (bt t j)with
  | false=>
    rw[A,I_ rfl]at e
    repeat ((conv=>whnf);first | refine F_ ?_ | refine skA b ?_)
    refine Aj.mk (JS (c2:=50) (p2:=j) b.rebase) ?_;rintro _ G4 ⟨rfl,d⟩;(conv=>whnf);rw[e];exact⟨rfl,j,.of (b.thn d)⟩
  | true=>
    rw[A,G_ nofun]at e;by_cases k:bt t j=47
    ·have C:((bt t j:Int)==47)=true:=by rw[k];rfl
     rw[I_ k]at e
     repeat ((conv=>whnf);first | rw[C] | rw[R_ j (by omega)] | refine F_ ?_ | refine skA b ?_)
     refine skS (j+1) b fun G4 d=>(Au.heldZ (D_ G4) [14,15] (sq [0,1,2,3,4,5,6,7,8,9,10,11,12,13] (.f 14 (.f 15 .e))) rfl (by kernel_rfl) ?_)
     repeat ((conv=>whnf);first | rw[R_ i (by omega)] | rw[n_ (x:=((j+1:Nat):Int)-1) (by omega)] | refine F_ ?_ | refine skT d ?_ (d.in_ 0 rfl rfl).2 | refine skA d ?_ (d.in_ 0 rfl rfl).2 | refine RI DN (by omega) (by omega) (by omega) ?_)
     rw[show((i:Int)+1).toNat=i+1 by omega,show(((j+1:Nat):Int)-1).toNat=j+1-1 by omega];refine Aj.mk (Ox J (.off d)) ?_;rintro _ G5 ⟨rfl,l⟩;(conv=>whnf);rw[e];exact⟨rfl,l.thn d⟩
    ·have C:((bt t j:Int)==47)=false:=CV k;rw[G_ k]at e
     repeat ((conv=>whnf);first | rw[C] | rw[R_ j (by omega)] | refine F_ ?_ | refine skA b ?_)
     refine skS (j+1) b fun G4 d=>?_;(conv=>whnf);exact⟨rfl,j+1,rfl,⟨by omega,by omega,⟨m2,by omega,e⟩,d⟩,by omega⟩
end
theorem Ka{u v:ByteArray}:(u.toList==v.toList)=true↔u=v:=by
 constructor
 ·intro h;have h:=eq_of_beq h;rw[ByteArray.toList_eq,ByteArray.toList_eq]at h;exact ByteArray.ext (Array.toList_inj.1 h)
 ·rintro rfl;exact beq_self_eq_true _
theorem Kb{u v:ByteArray}(h:u≠v):(u.toList==v.toList)=false:=by
 cases a:(u.toList==v.toList)with
 | false=>rfl
 | true=>exact absurd (Ka.1 a) h
theorem CN{u v:ByteArray}:(u.toList==v.toList)=decide (u=v):=by
 by_cases h:u=v
 ·rw[g_ h];exact Ka.2 h
 ·rw[a_ h];exact Kb h
section
variable{B S:Nat→Prop}{H0 H:Aa}{qs:List Pc}{s i:Nat}{t:ByteArray}{v:v_}{c p:Int}{ts:List Tk}
theorem AeE{H:Aa}{x y:ByteArray}(b:x.size≤1048576)(c:y.size≤1048576):AZ prog 101 #[.string x,.string y] H (.bool (decide (y.size≤x.size)&&((x.extract 0 y.size).toList==y.toList))):=by
 refine Al.of_vc func101 rfl (call101 _) (Ak (v:=.bool (decide (y.size≤x.size)&&((x.extract 0 y.size).toList==y.toList))) ?_ fun H1 a1=>?_)
 ·refine Al.of_vc func137 rfl (call137 _) ?_;by_cases h:y.size≤x.size
  ·have a:decide ((y.size:Int)≤x.size)=true:=s_
   repeat ((conv=>whnf);first | rw[a] | refine PT DN (by omega) (by omega) ?_)
   exact⟨by rw[g_ h];rfl,A_.refl _ _⟩
  ·have a:decide ((y.size:Int)≤x.size)=false:=m_
   repeat ((conv=>whnf);first | rw[a])
   exact⟨by rw[a_ h];rfl,A_.refl _ _⟩
 ·(conv=>whnf);exact⟨rfl,a1⟩
theorem ZQ{i:Nat}{a b:UInt8}(d:t.data[i]?=some a)(c:t.data[i+1]?=some b):t.extract i (i+2)=⟨#[a,b]⟩:=by
 have f:=(Yaa.1 c).1;apply ByteArray.ext;apply Array.ext_getElem?;intro k;have e:(t.extract i (i+2)).data=t.data.extract i (i+2):=by simp
 rw[e,Array.getElem?_extract]
 match k with
 | 0=>rw[I_ (by omega)];simpa using d
 | 1=>rw[I_ (by omega)];simpa using c
 | k+2=>rw[G_ (by omega)];simp
theorem Ah0(hi:i<t.size):(decide (DZ.size≤(t.extract i t.size).size)&&(((t.extract i t.size).extract 0 DZ.size).toList==DZ.toList))=decide (bt t i=62∧bt t (i+1)=62):=by
 have hs:(t.extract i t.size).size=t.size-i:=by simp
 rw[CN,hs];by_cases h:i+1<t.size
 ·obtain⟨a,f,g,-⟩:=CH hi;obtain⟨b,j,k,-⟩:=CH h;have e:(t.extract i t.size).extract 0 DZ.size=⟨#[a,b]⟩:=by
   rw[ByteArray.extract_extract,←ZQ f j]
   congr 1
   show min (i+2) t.size=i+2;omega
  rw[e,g_ (show DZ.size≤t.size-i from by show 2≤t.size-i;omega),Yaq,decide_eq_decide,g,k];constructor
  ·intro h;injection h with h;injection h with h;injection h with c h;injection h with d;exact⟨by rw[c];rfl,by rw[d];rfl⟩
  ·rintro⟨c,d⟩;rw[show a=62 from UInt8.toNat_inj.1 c,show b=62 from UInt8.toNat_inj.1 d];rfl
 ·rw[a_ (show¬DZ.size≤t.size-i from by show¬2≤t.size-i;omega),Yas,eq_comm,Zzi,FV h];omega
theorem RJ{q:Nat→Bool}(a:q 256=false):∀n i,i≤t.size→FN q t n i≤t.size
 | 0,i,h=>h
 | n+1,i,h=>by
   unfold FN;split
   ·by_cases b:i<t.size
    ·exact RJ a n _ b
    ·rw[FV b,a]at*;rename_i c;cases c
   ·exact h
theorem ScR.thn{H':Aa}{ps:List Pc}{r:v_}(a:E_ B H0 H ps):∀{x:FT ⊕ (Tk×Nat)},ScR B H H' s t ts c p r x→ScR B H0 H' s t ts c p r x
 | .inl _,⟨h,j,h2⟩=>⟨h,j,h2.thn a⟩
 | .inr _,⟨h,h2⟩=>⟨h,h2.thn a⟩
def wdB(c:Nat):Bool:=JD c|| dgB c
theorem AeT(Q:t.size≤4096)(A:ts.length≤1000000)(hi:i<t.size)(h:ScS B H H s t i ts c p):Al prog 62 #[H_ s] H fun r H'=>
  ScR B H H' s t ts c p r (onM t i):=by
 have⟨a,n,M⟩:=h;refine Al.of_vc func62 rfl (call62 _) ?_;have⟨Y,U,C,R⟩:=CH hi
 repeat ((conv=>whnf);first | refine F_ ?_ | refine skT M ?_ | refine skA M ?_ | refine Ci DN rfl U ?_)
 rw[←C]
 repeat (refine Af.run ?_)
 refine Ak M7 fun H1 a1=>?_;have w:=M.call a1;unfold onM;cases Z:JD (bt t i)with
 | true=>
   rw[I_ rfl];(conv=>whnf);rw[show(fun c=>JD c|| dgB c)=wdB from rfl];have sp:=Nc (p:=wdB) (t:=t) (t.size-i) i;refine A8.mk [] (fun _:Nat=>[]) (fun j G=>i≤j∧j≤t.size∧(∃n,t.size≤j+n∧FN wdB t (t.size-i) i=FN wdB t n j)∧E_ B H G [pSk s t j (.slice a ts.length n) c p,pTk a n ts]) (fun j _=>t.size-j) ⟨i,rfl,J_ _,by omega,⟨_,by omega,rfl⟩,w⟩ ?_;rintro j G S ⟨V,hj,⟨D,hn,e⟩,g⟩;refine Au.quiet (D_ G) rfl (by kernel_rfl) (EK (fun H' E=>skE (g.call E)) ?_);by_cases z:j<t.size∧wdB (bt t j)=true
   ·rw[a_ (Nat.not_le_of_lt z.1)];have⟨W,l,q,X⟩:=CH z.1;obtain⟨m2,rfl⟩:∃m,D=m+1:=⟨D-1,by omega⟩;have hd:JD (bt t j)=false→dgB (bt t j)=true:=fun h=>by have:=z.2;unfold wdB at this;rw[h]at this;exact this
    cases T:JD (bt t j)
    all_goals
     repeat ((conv=>whnf);first | rw[T] | rw[hd T] | refine F_ ?_ | refine skT g ?_ (g.in_ 0 rfl rfl).2 | refine skA g ?_ (g.in_ 0 rfl rfl).2 | (refine Ci DN rfl l ?_;rw[←q]) | refine EK (fun H' E=>M7) ?_ | refine EK (fun H' E=>TR) ?_)
     intro G2 a2;have b:=g.call a2
     repeat ((conv=>whnf);first | rw[R_ j (by omega)] | refine F_ ?_ | refine skA b ?_)
     refine skS (j+1) b fun G3 d=>?_;(conv=>whnf);exact⟨rfl,j+1,rfl,⟨by omega,by omega,⟨m2,by omega,by rw[e];exact I_ z.2⟩,d⟩,by omega⟩
   ·have e2:FN wdB t D j=j:=by
     cases D with
     | zero=>rfl
     | succ D=>exact G_ fun h=>z ⟨DR fun C=>by rw[C]at h;exact absurd h (by decide),h⟩
    rw[e2]at e;by_cases I:t.size≤j;rw[g_ I]
    rotate_left
    rw[a_ I];have⟨W,l,q,X⟩:=CH (Ydr I);have hd:JD (bt t j)=false∧dgB (bt t j)=false:=by
     have:=fun h=>z ⟨Ydr I,h⟩;unfold wdB at this;cases h:JD (bt t j)<;>cases C:dgB (bt t j)<;>simp[h,C]at this ⊢
    repeat ((conv=>whnf);first | rw[hd.1] | rw[hd.2] | refine F_ ?_ | refine skT g ?_ (g.in_ 0 rfl rfl).2 | refine skA g ?_ (g.in_ 0 rfl rfl).2 | (refine Ci DN rfl l ?_;rw[←q]) | refine EK (fun H' E=>M7) ?_ | refine EK (fun H' E=>TR) ?_)
    all_goals
     (conv=>whnf);intro G2 a2;have b:=g.call a2;rw[e];by_cases g1:32<j-i
     ·have u:decide ((32:Int)<(j:Int)-i)=true:=s_;rw[I_ g1]
      repeat ((conv=>whnf);first | rw[u] | rw[n_ (x:=(j:Int)-i) (by omega)] | refine F_ ?_ | refine skA b ?_)
      refine Aj.mk (JS (c2:=1) (p2:=i) b.rebase) ?_;rintro _ G3 ⟨rfl,d⟩;(conv=>whnf);exact⟨rfl,j,.of (b.thn d)⟩
     ·have u:decide ((32:Int)<(j:Int)-i)=false:=m_;rw[G_ g1]
      repeat ((conv=>whnf);first | rw[u] | rw[n_ (x:=(j:Int)-i) (by omega)] | refine F_ ?_ | refine skA b ?_)
      refine Au.heldZ (D_ G2) [12,13] (sq [0,1,2,3,4,5,6,7,8,9,10,11] (.f 12 (.f 13 .e))) rfl (by kernel_rfl) ?_
      repeat ((conv=>whnf);first | refine F_ ?_ | refine skT b ?_ (b.in_ 0 rfl rfl).2 | refine skA b ?_ (b.in_ 0 rfl rfl).2 | refine RI DN (by omega) (by omega) (by omega) ?_)
      refine Aj.mk (Ox A (.off b)) ?_;rintro _ G5 ⟨rfl,F⟩;(conv=>whnf);exact⟨rfl,F.thn b⟩
 | false=>
   rw[G_ nofun];by_cases J:bt t i=34
   ·have u:((bt t i:Int)==34)=true:=by rw[J];rfl
    rw[I_ J];(conv=>whnf);rw[u];refine Aj.mk (Ye Q A hi (.off w)) ?_;intro r H2 N;(conv=>whnf);exact N.thn w
   have u:((bt t i:Int)==34)=false:=CV J;rw[G_ J];by_cases K:bt t i=47
   ·have O:((bt t i:Int)==47)=true:=by rw[K];rfl
    rw[I_ K]
    repeat ((conv=>whnf);first | rw[u] | rw[O])
    refine Aj.mk (AbC Q A hi (.off w)) ?_;intro r H2 N;(conv=>whnf);exact N.thn w
   have O:((bt t i:Int)==47)=false:=CV K;rw[G_ K]
   repeat ((conv=>whnf);first | rw[u] | rw[O])
   refine Ak (JB _ _ _) fun H2 a2=>?_;have b:=w.call a2;by_cases l:bt t i∈X5
   ·have P:decide (0≤indexByte [61,59,40,41,123,125,44,124,38,45,46,126,42,43,63] (UInt8.ofNat (bt t i)))=true:=(QU _ R).trans (g_ l);rw[I_ l]
    repeat ((conv=>whnf);first | rw[P] | rw[R_ i (by omega)] | refine F_ ?_ | refine skA b ?_)
    refine skS (i+1) b fun G3 d=>(Au.heldZ (D_ G3) [12,13] (sq [0,1,2,3,4,5,6,7,8,9,10,11] (.f 12 (.f 13 .e))) rfl (by kernel_rfl) ?_)
    repeat ((conv=>whnf);first | refine F_ ?_ | refine skT d ?_ (d.in_ 0 rfl rfl).2 | refine skA d ?_ (d.in_ 0 rfl rfl).2 | refine RI DN (by omega) (by omega) (by omega) ?_)
    refine Aj.mk (Ox A (.off d)) ?_;rintro _ G5 ⟨rfl,F⟩;(conv=>whnf);exact⟨rfl,F.thn d⟩
   have P:decide (0≤indexByte [61,59,40,41,123,125,44,124,38,45,46,126,42,43,63] (UInt8.ofNat (bt t i)))=false:=(QU _ R).trans (a_ l);rw[G_ l]
   repeat ((conv=>whnf);first | rw[P] | refine F_ ?_ | refine skT b ?_ | refine PU DN (by omega) (by omega) ?_)
   rw[show(i:Int).toNat=i from rfl];refine Ak (AeE (y:=DZ) (by simp;omega) (by decide)) fun G3 a3=>?_;have d:=b.call a3;rw[Ah0 hi];by_cases q:bt t i=62∧bt t (i+1)=62
   ·rw[I_ q,g_ q]
    repeat ((conv=>whnf);first | rw[n_ (x:=(i:Int)+2) (by omega)] | refine F_ ?_ | refine skA d ?_)
    refine skS (i+2) d fun G4 L=>(Aj.mk (Ox (k:=4) (x:=DZ) A (.off L)) ?_);rintro _ G5 ⟨rfl,F⟩;(conv=>whnf);exact⟨rfl,F.thn L⟩
   ·rw[G_ q,a_ q];refine Aj.mk (JS (c2:=50) (p2:=i) d.rebase) ?_;rintro _ G4 ⟨rfl,L⟩;(conv=>whnf);exact⟨rfl,i,.of (d.thn L)⟩
theorem XL(hi:i<t.size){x:Tk×Nat}(h:onM t i= .inr x):i<x.2∧x.2≤t.size:=by
 unfold onM at h;rw[show(fun c=>JD c|| dgB c)=wdB from rfl]at h;split at h
 ·rename_i b;split at h
  ·cases h
  ·cases h;obtain⟨m,d⟩:∃m,t.size-i=m+1:=⟨t.size-i-1,by omega⟩;refine⟨?_,RJ (by decide) _ _ (by omega)⟩;rw[d];show i<FN wdB t (m+1) i;unfold FN;rw[I_ (show wdB (bt t i)=true by unfold wdB;rw[b]<;>rfl)];exact Ybq (Ydf i) (Nc m (i+1)).1
 ·split at h
  ·cases a:Gv t i (t.size-(i+1)) (i+1) []with
   | inl e=>rw[a]at h;cases h
   | inr r=>rw[a]at h;cases h;have:=LD _ _ _ _ a;simp only;omega
  ·split at h
   ·cases a:Hs t i (t.size-(i+1)) (i+1)with
    | inl e=>rw[a]at h;cases h
    | inr r=>rw[a]at h;cases h;have:=P4 _ _ _ a;simp only;omega
   ·split at h
    ·cases h;simp only;omega
    ·split at h
     ·rename_i f;cases h;have:i+1<t.size:=DR (by omega);simp only;omega
     ·cases h
end
structure RowI(B:Nat→Prop)(H:Aa)(s q2 q3 i:Nat)(t:ByteArray)(os:List Int)(ps:List Pc)(f:AF)(fs:List AF)(j:Nat)(any:Bool)(G:Aa):Prop where
 ex:∃(f':AF) (r:ReM) (B':Nat→Prop) (fn:v_) (a:Option Addr) (n cap:Nat),i≤j∧j≤t.size∧BQ t ⟨i,f,fs⟩=BQ t ⟨j,f',fs⟩∧(AC f').row=(if any then some r else none)∧
  (any=false→r= .eps∧f'.factor=none)∧(any=true→Hj (bt t j)=false)∧f'.alt=f.alt∧f'.meet=f.meet∧f'.sign=f.sign∧f'.place=f.place∧
  (∀k,B k→B' k)∧A_ B H G∧E_ B' G G (sP s t j a n cap os ps++[pB 204 q2 Aq,pB 204 q3 (Ac r fn)])∧BW B' G fn r
theorem FC{B:Nat→Prop}{H H':Aa}(a:E5 H)(b:B 2)(c:A_ B H H'):E5 H':=by
 refine⟨a.1.eq (c _ b),?_⟩;have h:=c _ b;rw[Array.getElem?_eq_getElem a.2]at h;exact(Yaa.1 h).1
theorem Rz{f:AF}(h:f.factor=none):AC f=f:=by unfold AC;rw[h]
theorem FM(f:AF):(AC f).alt=f.alt∧(AC f).meet=f.meet∧(AC f).sign=f.sign∧(AC f).place=f.place:=by
 unfold AC;split<;>exact⟨rfl,rfl,rfl,rfl⟩
theorem Yn{B:Nat→Prop}{H:Aa}{s i:Nat}{t:ByteArray}{os:List Int}{ps:List Pc}{f:AF}{fs:List AF}(hE:E5 H)(am:B 2)(ht:t.size≤1048576)(hi:i≤t.size)(be:os.length=fs.length)(bf:fs.length≤1000)
  (ao:f.row=none) (ad:f.factor=none) (IH:∀i',i<i'→Jj t i') (sc:Sc B H s t i os ps):
  Ay prog 162 #[H_ s] H
   (fun v H'=>∃j q r,i≤j∧j≤t.size∧(j=t.size∨bt t j=124∨bt t j=38∨bt t j=45∨bt t j=41)∧BQ t ⟨i,f,fs⟩=BQ t ⟨j,q,fs⟩∧(AC q).row.getD .eps=r∧
    q.alt=f.alt∧q.meet=f.meet∧q.sign=f.sign∧q.place=f.place∧SR B H s t j os ps r v H')
   (fun x H'=>SE B H t ⟨i,f,fs⟩ x H'):=by
 have⟨a,n,cap,st⟩:=sc;refine Ay.of_vc func162 rfl (call162 _) (Aw (.agg Aq.toArray) Aq CE rfl ?_);intro Z H1 bh bj ap aq;have st1:=st.box bh bj ap aq;refine Ah underlying167 rfl _ rfl [] rfl (Ab.of (Aj.mk (Pf (r:=.eps) st1 rfl) ?_));rintro _ H2 ⟨B1,f1,rfl,s1,a2,au,gs⟩;obtain⟨g1,c1,rfl⟩:=gs.fn;refine Aw (.agg Aq.toArray) Aq CE rfl ?_;intro q3 H3 bn bo aw ay;have Q:=au.box bn bo aw ay;rw[YaC]at Q;replace Q:E_ B1 H2 H3 (sP s t i a n cap os ps++[pB 204 Z Aq,pB 204 q3 Aq]):=Q;refine AX (cs:=Ac .eps (.func (.func g1) #[] c1)) Q _ rfl (U_ _ _ 1) (by simp[Ac,Aq]) rfl fun H4 K cb cd=>?_;rw[I',Cm rfl]at K;replace K:E_ B1 H2 H4 (sP s t i a n cap os ps++[pB 204 Z Aq,pB 204 q3 (Ac .eps (.func (.func g1) #[] c1))]):=K;(conv=>whnf);refine CA.mk [4] (fun x:Nat×Bool=>match x with | (_,b)=>[.bool b]) (fun x G=>match x with | (j,b)=>RowI B H s Z q3 i t os ps f fs j b G) (fun x _=>match x with | (j,_)=>t.size-j) ?_ ?_
 ·(conv=>whnf);refine⟨(i,false),rfl,⟨f,.eps,B1,.func (.func g1) #[] c1,a,n,cap,J_ _,hi,rfl,by rw[Rz ad];exact ao,fun _=>⟨rfl,ad⟩,fun h=>AlB h,rfl,rfl,rfl,rfl,s1,?_,K.rebase,gs.frame K.old fun k l=>l⟩⟩;exact(st1.old.trans (a2.mono fun k l=>st1.up l)).trans fun k l=>K.old k (s1 k l)
 ·rintro⟨j,N⟩ G c9 ⟨q,r,B2,f2,a2,n2,F,R,hj,D,hr,I,a0,e1,e2,e3,e4,y,ag,az,gv⟩;obtain⟨z,A,rfl⟩:=gv.fn;clear st st1 au Q K gs ap aw aq ay;have S:(AC q).row.getD .eps=r:=by
   rw[hr];cases N with
   | false=>exact(I rfl).1.symm
   | true=>rfl
  refine Ab.of (Ak (Eh (az.blk 0 rfl)) fun G1 bp=>?_);have a6:=az.call bp;by_cases h0:j<t.size
  ·rw[a_ (show¬t.size≤j by omega)];refine Ab.of (Ak (CX (a6.blk 0 rfl) h0) fun G2 bq=>?_);have m:=a6.call bq;refine Ao.run ?_;(conv=>whnf);by_cases M:bt t j=124
   ·have d:(((bt t j:Nat):Int)==124)=true:=by rw[M];rfl
    (conv=>whnf);rw[d];clear d;refine L_ (cs:=Ac r (.func (.func z) #[] A)) (Ax (m.blk _ (U_ _ _ 1))) trivial (AX (cs:=Ac r (.func (.func z) #[] A)) m _ rfl (U_ _ _ 0) (by simp[Ac,Aq]) rfl fun G9 g ja js=>?_);rw[I',Cm rfl]at g;refine lN (cs:=Ac r (.func (.func z) #[] A)) (Ax (g.blk _ (U_ _ _ 0))) ?_;exact⟨j,q,r,R,hj,.inr (.inl M),D,S,e1,e2,e3,e4,B2,_,rfl,y,ag.trans fun k l=>g.old k (y k l),⟨a2,n2,F,g.lft.rebase⟩,gv.frame g.old fun k l=>l⟩
   ·have d:(((bt t j:Nat):Int)==124)=false:=CV M;(conv=>whnf);rw[d];clear d;by_cases a8:bt t j=38
    ·have d:(((bt t j:Nat):Int)==38)=true:=by rw[a8];rfl
     (conv=>whnf);rw[d];clear d;refine L_ (cs:=Ac r (.func (.func z) #[] A)) (Ax (m.blk _ (U_ _ _ 1))) trivial (AX (cs:=Ac r (.func (.func z) #[] A)) m _ rfl (U_ _ _ 0) (by simp[Ac,Aq]) rfl fun G9 g ja js=>?_);rw[I',Cm rfl]at g;refine lN (cs:=Ac r (.func (.func z) #[] A)) (Ax (g.blk _ (U_ _ _ 0))) ?_;exact⟨j,q,r,R,hj,.inr (.inr (.inl a8)),D,S,e1,e2,e3,e4,B2,_,rfl,y,ag.trans fun k l=>g.old k (y k l),⟨a2,n2,F,g.lft.rebase⟩,gv.frame g.old fun k l=>l⟩
    ·have d:(((bt t j:Nat):Int)==38)=false:=CV a8;(conv=>whnf);rw[d];clear d;by_cases a9:bt t j=45
     ·have d:(((bt t j:Nat):Int)==45)=true:=by rw[a9];rfl
      (conv=>whnf);rw[d];clear d;refine L_ (cs:=Ac r (.func (.func z) #[] A)) (Ax (m.blk _ (U_ _ _ 1))) trivial (AX (cs:=Ac r (.func (.func z) #[] A)) m _ rfl (U_ _ _ 0) (by simp[Ac,Aq]) rfl fun G9 g ja js=>?_);rw[I',Cm rfl]at g;refine lN (cs:=Ac r (.func (.func z) #[] A)) (Ax (g.blk _ (U_ _ _ 0))) ?_;exact⟨j,q,r,R,hj,.inr (.inr (.inr (.inl a9))),D,S,e1,e2,e3,e4,B2,_,rfl,y,ag.trans fun k l=>g.old k (y k l),⟨a2,n2,F,g.lft.rebase⟩,gv.frame g.old fun k l=>l⟩
     ·have d:(((bt t j:Nat):Int)==45)=false:=CV a9;(conv=>whnf);rw[d];clear d;by_cases ab:bt t j=41
      ·have d:(((bt t j:Nat):Int)==41)=true:=by rw[ab];rfl
       (conv=>whnf);rw[d];clear d;refine L_ (cs:=Ac r (.func (.func z) #[] A)) (Ax (m.blk _ (U_ _ _ 1))) trivial (AX (cs:=Ac r (.func (.func z) #[] A)) m _ rfl (U_ _ _ 0) (by simp[Ac,Aq]) rfl fun G9 g ja js=>?_);rw[I',Cm rfl]at g;refine lN (cs:=Ac r (.func (.func z) #[] A)) (Ax (g.blk _ (U_ _ _ 0))) ?_;exact⟨j,q,r,R,hj,.inr (.inr (.inr (.inr ab))),D,S,e1,e2,e3,e4,B2,_,rfl,y,ag.trans fun k l=>g.old k (y k l),⟨a2,n2,F,g.lft.rebase⟩,gv.frame g.old fun k l=>l⟩
      ·have d:(((bt t j:Nat):Int)==41)=false:=CV ab;(conv=>whnf);rw[d];clear d;(conv=>whnf);try (refine Ao.run ?_)
       by_cases T:bt t j=42
       ·have d:(((bt t j:Nat):Int)==42)=true:=by rw[T];rfl
        (conv=>whnf);rw[d];clear d;refine F_ ?_;refine B_ ((m.blk 0 rfl).cellE rfl) trivial (Ab.mk (Cr (c:=20) (e:=j)) (fun _ _ h=>h.elim) ?_);rintro _ _ ⟨rfl,rfl⟩;have L:q.factor=none:=by
         cases N with
         | false=>exact(I rfl).2
         | true=>have:=a0 rfl;rw[T]at this;exact absurd this (by decide)
        exact⟨20,j,D.trans (E1 (s:=⟨j,q,fs⟩) h0 (FK (by rw[T];rfl) L)),rfl,ag.trans fun k l=>m.old k (y k l)⟩
       ·have d:(((bt t j:Nat):Int)==42)=false:=CV T;(conv=>whnf);rw[d];clear d;by_cases U:bt t j=43
        ·have d:(((bt t j:Nat):Int)==43)=true:=by rw[U];rfl
         (conv=>whnf);rw[d];clear d;refine F_ ?_;refine B_ ((m.blk 0 rfl).cellE rfl) trivial (Ab.mk (Cr (c:=20) (e:=j)) (fun _ _ h=>h.elim) ?_);rintro _ _ ⟨rfl,rfl⟩;have L:q.factor=none:=by
          cases N with
          | false=>exact(I rfl).2
          | true=>have:=a0 rfl;rw[U]at this;exact absurd this (by decide)
         exact⟨20,j,D.trans (E1 (s:=⟨j,q,fs⟩) h0 (FK (by rw[U];rfl) L)),rfl,ag.trans fun k l=>m.old k (y k l)⟩
        ·have d:(((bt t j:Nat):Int)==43)=false:=CV U;(conv=>whnf);rw[d];clear d;by_cases V:bt t j=63
         ·have d:(((bt t j:Nat):Int)==63)=true:=by rw[V];rfl
          (conv=>whnf);rw[d];clear d;refine F_ ?_;refine B_ ((m.blk 0 rfl).cellE rfl) trivial (Ab.mk (Cr (c:=20) (e:=j)) (fun _ _ h=>h.elim) ?_);rintro _ _ ⟨rfl,rfl⟩;have L:q.factor=none:=by
           cases N with
           | false=>exact(I rfl).2
           | true=>have:=a0 rfl;rw[V]at this;exact absurd this (by decide)
          exact⟨20,j,D.trans (E1 (s:=⟨j,q,fs⟩) h0 (FK (by rw[V];rfl) L)),rfl,ag.trans fun k l=>m.old k (y k l)⟩
         ·have d:(((bt t j:Nat):Int)==63)=false:=CV V;(conv=>whnf);rw[d];clear d;by_cases J:bt t j=123
          ·have d:(((bt t j:Nat):Int)==123)=true:=by rw[J];rfl
           (conv=>whnf);rw[d];clear d;refine F_ ?_;refine B_ ((m.blk 0 rfl).cellE rfl) trivial (Ab.mk (Cr (c:=20) (e:=j)) (fun _ _ h=>h.elim) ?_);rintro _ _ ⟨rfl,rfl⟩;have L:q.factor=none:=by
            cases N with
            | false=>exact(I rfl).2
            | true=>have:=a0 rfl;rw[J]at this;exact absurd this (by decide)
           exact⟨20,j,D.trans (E1 (s:=⟨j,q,fs⟩) h0 (FK (by rw[J];rfl) L)),rfl,ag.trans fun k l=>m.old k (y k l)⟩
          ·have d:(((bt t j:Nat):Int)==123)=false:=CV J;(conv=>whnf);rw[d];clear d;(conv=>whnf);try (refine Ao.run ?_)
           have br:OW (bt t j):=⟨M,a8,a9,ab,Rh T U V J⟩;refine Ab.mk (AdB (f:=q) (fs:=fs) (FC hE am (ag.trans fun k l=>m.old k (y k l))) (y _ am) ht h0 be bf br (fun i' ce=>IH i' (by omega)) (B:=B2) (ps:=ps++[pB 204 Z Aq,pB 204 q3 (Ac r (.func (.func z) #[] A))]) ⟨a2,n2,F,m.rebase⟩) ?_ ?_
           rotate_left
           ·intro x G3 h;exact h.from D (ag.trans fun k l=>m.old k (y k l)) y
           rintro _ G3 ⟨j1,r1,cg,b4,b5,⟨B3,f3,rfl,s3,a3,⟨a4,n4,C,aj⟩,bu⟩⟩;have bv:A_ B H G2:=ag.trans fun k l=>m.old k (y k l);have b6:A_ B H G3:=bv.trans fun k l=>a3 k (y k l);have bw:BW B3 G3 (.func (.func z) #[] A) r:=gv.frame (m.old.trans a3) s3;replace aj:E_ B3 G3 G3 (sP s t j1 a4 n4 C os ps++[pB 204 Z Aq,pB 204 q3 (Ac r (.func (.func z) #[] A))]):=aj;refine Ab.mk (VN (k:=0) (f:={AC q with factor:=some r1}) (fs:=fs) (by omega) b4 rfl aj rfl bu) ?_ ?_
           rotate_left
           ·rintro x G4 ⟨c,p,h1,h2,h3⟩;exact⟨c,p,(D.trans b5).trans h1,h2,b6.trans fun k l=>h3 k (s3 k (y k l))⟩
           rintro _ G4 ⟨j2,u,ch,ae,ah,bx,⟨B4,f4,rfl,s4,a5,ak,b7⟩⟩;have bz:A_ B H G4:=b6.trans fun k l=>a5 k (s3 k (y k l));have c2:BW B4 G4 (.func (.func z) #[] A) r:=bw.frame a5 s4;obtain⟨O,P,rfl⟩:=b7.fn;replace ak:E_ B4 G4 G4 (sP s t j2 a4 n4 C os ps++[pB 204 Z Aq,pB 204 q3 (Ac r (.func (.func z) #[] A))]):=ak;refine BV ak (.agg Aq.toArray) Aq CE rfl fun q5 G5 b8=>?_;rw[YaC]at b8;refine AX (cs:=Ac u (.func (.func O) #[] P)) b8 _ rfl (U_ _ _ 2) (by simp[Ac,Aq]) rfl fun G6 w ci cj=>?_;rw[I',Cm rfl]at w;replace w:E_ B4 G4 G6 (sP s t j2 a4 n4 C os ps++[pB 204 Z Aq,pB 204 q3 (Ac r (.func (.func z) #[] A)),pB 204 q5 (Ac u (.func (.func O) #[] P))]):=w;have b9:A_ B H G6:=bz.trans fun k l=>w.old k (s4 k (s3 k (y k l)));have c3:=c2.frame w.old fun k l=>l;have ai:=b7.frame w.old fun k l=>l;have bd:BQ t ⟨i,f,fs⟩=BQ t ⟨j2,{AC q with factor:=some u},fs⟩:=D.trans (b5.trans bx);have⟨z1,z2,z3,z4⟩:=FM q;(conv=>whnf);cases N with
           | false=>
             replace hr:(AC q).row=none:=hr;(conv=>whnf);try (refine Ao.run ?_)
             refine L_ (cs:=Ac (u) (.func (.func O) #[] P)) (Ax (w.blk _ (U_ _ _ 2))) trivial (AX (cs:=Ac (u) (.func (.func O) #[] P)) w _ rfl (U_ _ _ 1) (by simp[Ac]) rfl fun G9 g W c5=>?_);rw[I']at g;have e9:As (Ac r (.func (.func z) #[] A)) 0 (Ac (u) (.func (.func O) #[] P))=Ac (u) (.func (.func O) #[] P):=Cm rfl;replace g:E_ B4 _ G9 (sP s t j2 a4 n4 C os ps++[pB 204 Z Aq,pB 204 q3 (As (Ac r (.func (.func z) #[] A)) 0 (Ac (u) (.func (.func O) #[] P))),pB 204 q5 (Ac (u) (.func (.func O) #[] P))]):=g;rw[e9]at g;(conv=>whnf);refine⟨rfl,(j2,true),rfl,⟨{AC q with factor:=some u},u,B4,.func (.func O) #[] P,a4,n4,C,by omega,ae,bd,?_,fun h=>AlB h,fun _=>ah,z1.trans e1,z2.trans e2,z3.trans e3,z4.trans e4,(fun k l=>s4 k (s3 k (y k l))),?_,(g.subl ((YcZ _).2 (List.Sublist.cons_cons _ (List.Sublist.cons_cons _ (Ydc _))))).rebase,?_⟩,?_⟩
             ·show some (W8 (AC q).row u)=some (u);rw[hr];rfl
             ·exact b9.trans (W.mono fun k l=>fun e=>(w.rng _ (Ybc _ (YbX _ YbZ)) k e).1 ((fun k l=>s4 k (s3 k (y k l))) k l))
             ·exact ai.frame (W.mono fun k l=>fun e=>(w.rng _ (Ybc _ (YbX _ YbZ)) k e).1 l) fun k l=>l
             ·show t.size-j2<t.size-j;omega
           | true=>
             replace hr:(AC q).row=some r:=hr;(conv=>whnf);try (refine Ao.run ?_)
             refine L_ (cs:=Ac r (.func (.func z) #[] A)) (Ax (w.blk _ (U_ _ _ 1))) trivial (L_ (cs:=Ac u (.func (.func O) #[] P)) (Ax (w.blk _ (U_ _ _ 2))) trivial (Ab.of (Aj.mk (GT .cat w c3 ai) ?_)));rintro _ G7 ⟨B7,f7,rfl,s7,a7,c6,gj⟩;obtain⟨X,Y,rfl⟩:=gj.fn;refine AX (cs:=Ac (.cat r u) (.func (.func X) #[] Y)) c6 _ rfl (U_ _ _ 2) (by simp[Ac]) rfl fun G8 E cm co=>?_;rw[I']at E;have e8:As (Ac u (.func (.func O) #[] P)) 0 (Ac (.cat r u) (.func (.func X) #[] Y))=Ac (.cat r u) (.func (.func X) #[] Y):=Cm rfl;replace E:E_ B7 G7 G8 (sP s t j2 a4 n4 C os ps++[pB 204 Z Aq,pB 204 q3 (Ac r (.func (.func z) #[] A)),pB 204 q5 (As (Ac u (.func (.func O) #[] P)) 0 (Ac (.cat r u) (.func (.func X) #[] Y)))]):=E;rw[e8]at E;have s8:∀k,B k→B7 k:=fun k l=>s7 k (s4 k (s3 k (y k l)));have ag8:A_ B H G8:=(b9.trans (a7.mono fun k l=>w.up (s4 k (s3 k (y k l))))).trans fun k l=>E.old k (s8 k l);have c8:=gj.frame E.old fun k l=>l;refine L_ (cs:=Ac (.cat r u) (.func (.func X) #[] Y)) (Ax (E.blk _ (U_ _ _ 2))) trivial (AX (cs:=Ac (.cat r u) (.func (.func X) #[] Y)) E _ rfl (U_ _ _ 1) (by simp[Ac]) rfl fun G9 g W c5=>?_);rw[I']at g;have e9:As (Ac r (.func (.func z) #[] A)) 0 (Ac (.cat r u) (.func (.func X) #[] Y))=Ac (.cat r u) (.func (.func X) #[] Y):=Cm rfl;replace g:E_ B7 _ G9 (sP s t j2 a4 n4 C os ps++[pB 204 Z Aq,pB 204 q3 (As (Ac r (.func (.func z) #[] A)) 0 (Ac (.cat r u) (.func (.func X) #[] Y))),pB 204 q5 (Ac (.cat r u) (.func (.func X) #[] Y))]):=g;rw[e9]at g;(conv=>whnf);refine⟨rfl,(j2,true),rfl,⟨{AC q with factor:=some u},.cat r u,B7,.func (.func X) #[] Y,a4,n4,C,by omega,ae,bd,?_,fun h=>AlB h,fun _=>ah,z1.trans e1,z2.trans e2,z3.trans e3,z4.trans e4,s8,?_,(g.subl ((YcZ _).2 (List.Sublist.cons_cons _ (List.Sublist.cons_cons _ (Ydc _))))).rebase,?_⟩,?_⟩
             ·show some (W8 (AC q).row u)=some (.cat r u);rw[hr];rfl
             ·exact ag8.trans (W.mono fun k l=>fun e=>(E.rng _ (Ybc _ (YbX _ YbZ)) k e).1 (s8 k l))
             ·exact c8.frame (W.mono fun k l=>fun e=>(E.rng _ (Ybc _ (YbX _ YbZ)) k e).1 l) fun k l=>l
             ·show t.size-j2<t.size-j;omega
  ·rw[g_ (show t.size≤j by omega)];refine L_ (cs:=Ac r (.func (.func z) #[] A)) (Ax (a6.blk _ (U_ _ _ 1))) trivial (AX (cs:=Ac r (.func (.func z) #[] A)) a6 _ rfl (U_ _ _ 0) (by simp[Ac,Aq]) rfl fun G9 g ja js=>?_);rw[I',Cm rfl]at g;refine lN (cs:=Ac r (.func (.func z) #[] A)) (Ax (g.blk _ (U_ _ _ 0))) ?_;exact⟨j,q,r,R,hj,.inl (by omega),D,S,e1,e2,e3,e4,B2,_,rfl,y,ag.trans fun k l=>g.old k (y k l),⟨a2,n2,F,g.lft.rebase⟩,gv.frame g.old fun k l=>l⟩
theorem N7(f:AF):(AC f).factor=none:=by
 unfold AC;split
 ·rename_i h;exact h
 ·rfl
theorem Da(f:AF):(CJ f).alt=f.alt∧(CJ f).place=f.place∧(CJ f).row=none∧(CJ f).factor=none:=by
 have⟨a,c,d,b⟩:=FM f;exact⟨a,b,rfl,N7 f⟩
theorem Kq(f:AF):(CJ f).meet=some (match f.meet with | none=>(AC f).row.getD .eps | some q=>if f.sign=38 then .and_ q ((AC f).row.getD .eps)else .minus q ((AC f).row.getD .eps)):=by
 have⟨c,a,b,d⟩:=FM f;show some (match(AC f).meet with | none=>(AC f).row.getD .eps | some q=>if(AC f).sign=38 then .and_ q ((AC f).row.getD .eps)else .minus q ((AC f).row.getD .eps))=_;rw[a,b]
theorem NH(f:AF):(CC f).alt=some (match f.alt with | none=>(CJ f).meet.getD .eps | some q=>.alt q ((CJ f).meet.getD .eps)):=by
 have⟨a,b,c,d⟩:=Da f;show some (match(CJ f).alt with | none=>(CJ f).meet.getD .eps | some q=>.alt q ((CJ f).meet.getD .eps))=_;rw[a]
theorem Fe(f:AF):(CC f).meet=none∧(CC f).place=f.place∧(CC f).row=none∧(CC f).factor=none:=by
 have⟨d,a,b,c⟩:=Da f;exact⟨rfl,a,b,c⟩
structure Ag5(B:Nat→Prop)(H:Aa)(s q2 q3 i:Nat)(t:ByteArray)(os:List Int)(ps:List Pc)(f:AF)(fs:List AF)(j:Nat)(G:Aa):Prop where
 ex:∃(f':AF) (r:ReM) (B':Nat→Prop) (fn:v_) (a:Option Addr) (n cap:Nat),i≤j∧j≤t.size∧(j=t.size∨bt t j=124∨bt t j=38∨bt t j=45∨bt t j=41)∧BQ t ⟨i,f,fs⟩=BQ t ⟨j,f',fs⟩∧(CJ f').meet=some r∧f'.alt=f.alt∧f'.place=f.place∧
  (∀k,B k→B' k)∧A_ B H G∧E_ B' G G (sP s t j a n cap os ps++[pB 204 q2 Aq,pB 204 q3 (Ac r fn)])∧BW B' G fn r
theorem Rg{B:Nat→Prop}{H:Aa}{s i:Nat}{t:ByteArray}{os:List Int}{ps:List Pc}{f:AF}{fs:List AF}(hE:E5 H)(F:B 2)(ht:t.size≤1048576)(hi:i≤t.size)(a7:os.length=fs.length)(a8:fs.length≤1000)
  (a9:f.meet=none) (ah:f.row=none) (ai:f.factor=none) (IH:∀i',i<i'→Jj t i') (sc:Sc B H s t i os ps):
  Ay prog 140 #[H_ s] H
   (fun v H'=>∃j m r,i≤j∧j≤t.size∧(j=t.size∨bt t j=124∨bt t j=41)∧BQ t ⟨i,f,fs⟩=BQ t ⟨j,m,fs⟩∧(CJ m).meet=some r∧m.alt=f.alt∧m.place=f.place∧SR B H s t j os ps r v H')
   (fun x H'=>SE B H t ⟨i,f,fs⟩ x H'):=by
 have⟨a,n,cap,st⟩:=sc;refine Ay.of_vc func140 rfl (call140 _) (Aw (.agg Aq.toArray) Aq CE rfl ?_);intro I H1 aw ay aj ak;have st1:=st.box aw ay aj ak;refine Ab.mk (Yn (f:=f) (fs:=fs) (FC hE F st1.old) F ht hi a7 a8 ah ai IH (B:=B) (ps:=ps++[pB 204 I Aq]) ⟨a,n,cap,st1.rebase⟩) ?_ ?_
 rotate_left
 ·intro x H7 h;exact h.from rfl st1.old fun k b=>b
 rintro _ H2 ⟨K,f1,r1,L,M,N,O,P,e1,e2,e3,e5,⟨B1,f3,rfl,s1,a1,⟨a2,Q,c,W⟩,gs⟩⟩;obtain⟨g1,c1,rfl⟩:=gs.fn;replace W:E_ B1 H2 H2 (sP s t K a2 Q c os ps++[pB 204 I Aq]):=W;refine Aw (.agg Aq.toArray) Aq CE rfl ?_;intro A H3 az b4 am ao;have R:=W.box az b4 am ao;rw[YaC]at R;replace R:E_ B1 H2 H3 (sP s t K a2 Q c os ps++[pB 204 I Aq,pB 204 A Aq]):=R;refine AX (cs:=Ac r1 (.func (.func g1) #[] c1)) R _ rfl (U_ _ _ 1) (by simp[Ac,Aq]) rfl fun H4 D be bf=>?_;rw[I',Cm rfl]at D;replace D:E_ B1 H2 H4 (sP s t K a2 Q c os ps++[pB 204 I Aq,pB 204 A (Ac r1 (.func (.func g1) #[] c1))]):=D;have ap:A_ B H H4:=(st1.old.trans a1).trans fun k b=>D.old k (s1 k b);(conv=>whnf);refine CA.mk [] (fun _:Nat=>[]) (fun j G=>Ag5 B H s I A i t os ps f fs j G) (fun j _=>t.size-j) ?_ ?_
 ·(conv=>whnf);exact⟨K,rfl,⟨f1,r1,B1,.func (.func g1) #[] c1,a2,Q,c,L,M,N,O,by rw[Kq,e2,a9,P],e1,e5,s1,ap,D.rebase,gs.frame D.old fun k b=>b⟩⟩
 ·rintro j G bd ⟨m,r,B2,f2,a2,Q,c,aq,hj,a6,X,hm,ha,e4,C,ag,au,gv⟩;obtain⟨y,z,rfl⟩:=gv.fn;clear st st1 W R D gs aj am ak ao a1 ap s1;refine Ab.of (Ak (Eh (au.blk 0 rfl)) fun G1 b5=>?_);have Y:=au.call b5;by_cases h0:j<t.size
  ·rw[a_ (show¬t.size≤j by omega)];have a6:bt t j=124∨bt t j=38∨bt t j=45∨bt t j=41:=a6.resolve_left (by omega);refine Ab.of (Ak (CX (Y.blk 0 rfl) h0) fun G2 b6=>?_);have J:=Y.call b6;(conv=>whnf);try (refine Ao.run ?_)
   (conv=>whnf);by_cases Z:bt t j=38
   ·have d:(((bt t j:Nat):Int)==38)=true:=by rw[Z];rfl
    (conv=>whnf);rw[d];refine F_ ?_;refine lT ((J.blk 0 rfl).cellE rfl) ?_;(conv=>whnf);rw[n_ (x:=(j:Int)+1) (by omega)];refine F_ ?_;refine Bh J 0 rfl (by simp) rfl fun G3 g=>?_;replace g:E_ B2 G G3 (sP s t (j+1) a2 Q c os ps++[pB 204 I Aq,pB 204 A (Ac r (.func (.func y) #[] z))]):=g;have E:A_ B H G3:=ag.trans fun k b=>g.old k (C k b);have ab:=gv.frame g.old fun k b=>b;have p:BQ t ⟨i,f,fs⟩=BQ t ⟨j+1,{CJ m with sign:=38},fs⟩:=X.trans (Ed (s:=⟨j,m,fs⟩) h0 (by have:=MH (t:=t) (i:=j) (f:=m) (fs:=fs) (.inl Z);rw[Z]at this;exact this));refine AE.held (fun k=>k=A) [4] (sq [0,1] (.f 2 (.f 3 (.f 4 .e)))) (AQ _ _) rfl (by kernel_rfl) (L_ (cs:=Ac r (.func (.func y) #[] z)) (Ax (g.blk _ (U_ _ _ 1))) rfl (Ab.mk (Yn (f:={CJ m with sign:=38}) (fs:=fs) (FC hE F E) (C _ F) ht (by omega) a7 a8 rfl (Da m).2.2.2 (fun i' b7=>IH i' (by omega)) (B:=B2) (ps:=ps++[pB 204 I Aq,pB 204 A (Ac r (.func (.func y) #[] z))]) ⟨a2,Q,c,g.rebase⟩) ?_ ?_))
    rotate_left
    ·intro x H7 h;exact h.from p E C
    rintro _ G4 ⟨K,f1,S,L,M,N,O,P,e1,e2,e3,e5,⟨B3,f3,rfl,s3,a3,⟨a4,n4,q,u⟩,gs⟩⟩;replace u:E_ B3 G4 G4 (sP s t K a4 n4 q os ps++[pB 204 I Aq,pB 204 A (Ac r (.func (.func y) #[] z))]):=u;refine⟨fun k b=>by rw[show k=A from b];exact(u.blk _ (U_ _ _ 1)).trans (g.blk _ (U_ _ _ 1)).symm,?_⟩;have ad:A_ B H G4:=E.trans fun k b=>a3 k (C k b);refine Ab.of (Aj.mk (GT .and_ u (ab.frame a3 s3) gs) ?_);rintro _ G5 ⟨B5,f5,rfl,s5,a5,T,gj⟩;refine⟨fun k b=>by rw[show k=A from b];exact(T.blk _ (U_ _ _ 1)).trans (g.blk _ (U_ _ _ 1)).symm,?_⟩;obtain⟨U,V,rfl⟩:=gj.fn;refine AX (cs:=Ac (opR .and_ r S) (.func (.func U) #[] V)) T _ rfl (U_ _ _ 1) (by simp[Ac]) rfl fun G6 l b8 b9=>?_;rw[I']at l;have e6:As (Ac r (.func (.func y) #[] z)) 0 (Ac (opR .and_ r S) (.func (.func U) #[] V))=Ac (opR .and_ r S) (.func (.func U) #[] V):=Cm rfl;replace l:E_ B5 G5 G6 (sP s t K a4 n4 q os ps++[pB 204 I Aq,pB 204 A (As (Ac r (.func (.func y) #[] z)) 0 (Ac (opR .and_ r S) (.func (.func U) #[] V)))]):=l;rw[e6]at l;have s6:∀k,B k→B5 k:=fun k b=>s5 k (s3 k (C k b));have ae:A_ B H G6:=(ad.trans (a5.mono fun k b=>u.up (s3 k (C k b)))).trans fun k b=>l.old k (s6 k b);(conv=>whnf);refine⟨rfl,K,rfl,⟨f1,opR .and_ r S,B5,.func (.func U) #[] V,a4,n4,q,by omega,M,N,p.trans O,by rw[Kq,e2,e3,show({CJ m with sign:=38}:AF).meet=(CJ m).meet from rfl,hm];show some (if 38=38 then _ else _)=_;rw[I_ rfl,P]<;>rfl,e1.trans ((Da m).1.trans ha),e5.trans ((Da m).2.1.trans e4),s6,ae,l.rebase,gj.frame l.old fun k b=>b⟩,by omega⟩
   ·have d:(((bt t j:Nat):Int)==38)=false:=CV Z;(conv=>whnf);rw[d];clear d;by_cases a0:bt t j=45
    ·have d:(((bt t j:Nat):Int)==45)=true:=by rw[a0];rfl
     (conv=>whnf);rw[d];refine F_ ?_;refine lT ((J.blk 0 rfl).cellE rfl) ?_;(conv=>whnf);rw[n_ (x:=(j:Int)+1) (by omega)];refine F_ ?_;refine Bh J 0 rfl (by simp) rfl fun G3 g=>?_;replace g:E_ B2 G G3 (sP s t (j+1) a2 Q c os ps++[pB 204 I Aq,pB 204 A (Ac r (.func (.func y) #[] z))]):=g;have E:A_ B H G3:=ag.trans fun k b=>g.old k (C k b);have ab:=gv.frame g.old fun k b=>b;have p:BQ t ⟨i,f,fs⟩=BQ t ⟨j+1,{CJ m with sign:=45},fs⟩:=X.trans (Ed (s:=⟨j,m,fs⟩) h0 (by have:=MH (t:=t) (i:=j) (f:=m) (fs:=fs) (.inr a0);rw[a0]at this;exact this));refine AE.held (fun k=>k=A) [4] (sq [0,1] (.f 2 (.f 3 (.f 4 .e)))) (AQ _ _) rfl (by kernel_rfl) (L_ (cs:=Ac r (.func (.func y) #[] z)) (Ax (g.blk _ (U_ _ _ 1))) rfl (Ab.mk (Yn (f:={CJ m with sign:=45}) (fs:=fs) (FC hE F E) (C _ F) ht (by omega) a7 a8 rfl (Da m).2.2.2 (fun i' b7=>IH i' (by omega)) (B:=B2) (ps:=ps++[pB 204 I Aq,pB 204 A (Ac r (.func (.func y) #[] z))]) ⟨a2,Q,c,g.rebase⟩) ?_ ?_))
     rotate_left
     ·intro x H7 h;exact h.from p E C
     rintro _ G4 ⟨K,f1,S,L,M,N,O,P,e1,e2,e3,e5,⟨B3,f3,rfl,s3,a3,⟨a4,n4,q,u⟩,gs⟩⟩;replace u:E_ B3 G4 G4 (sP s t K a4 n4 q os ps++[pB 204 I Aq,pB 204 A (Ac r (.func (.func y) #[] z))]):=u;refine⟨fun k b=>by rw[show k=A from b];exact(u.blk _ (U_ _ _ 1)).trans (g.blk _ (U_ _ _ 1)).symm,?_⟩;have ad:A_ B H G4:=E.trans fun k b=>a3 k (C k b);refine Ab.of (Aj.mk (GT .minus u (ab.frame a3 s3) gs) ?_);rintro _ G5 ⟨B5,f5,rfl,s5,a5,T,gj⟩;refine⟨fun k b=>by rw[show k=A from b];exact(T.blk _ (U_ _ _ 1)).trans (g.blk _ (U_ _ _ 1)).symm,?_⟩;obtain⟨U,V,rfl⟩:=gj.fn;refine AX (cs:=Ac (opR .minus r S) (.func (.func U) #[] V)) T _ rfl (U_ _ _ 1) (by simp[Ac]) rfl fun G6 l b8 b9=>?_;rw[I']at l;have e6:As (Ac r (.func (.func y) #[] z)) 0 (Ac (opR .minus r S) (.func (.func U) #[] V))=Ac (opR .minus r S) (.func (.func U) #[] V):=Cm rfl;replace l:E_ B5 G5 G6 (sP s t K a4 n4 q os ps++[pB 204 I Aq,pB 204 A (As (Ac r (.func (.func y) #[] z)) 0 (Ac (opR .minus r S) (.func (.func U) #[] V)))]):=l;rw[e6]at l;have s6:∀k,B k→B5 k:=fun k b=>s5 k (s3 k (C k b));have ae:A_ B H G6:=(ad.trans (a5.mono fun k b=>u.up (s3 k (C k b)))).trans fun k b=>l.old k (s6 k b);(conv=>whnf);refine⟨rfl,K,rfl,⟨f1,opR .minus r S,B5,.func (.func U) #[] V,a4,n4,q,by omega,M,N,p.trans O,by rw[Kq,e2,e3,show({CJ m with sign:=45}:AF).meet=(CJ m).meet from rfl,hm];show some (if 45=38 then _ else _)=_;rw[G_ (by decide),P]<;>rfl,e1.trans ((Da m).1.trans ha),e5.trans ((Da m).2.1.trans e4),s6,ae,l.rebase,gj.frame l.old fun k b=>b⟩,by omega⟩
    ·have d:(((bt t j:Nat):Int)==45)=false:=CV a0;(conv=>whnf);rw[d];refine L_ (cs:=Ac r (.func (.func y) #[] z)) (Ax (J.blk _ (U_ _ _ 1))) trivial (AX (cs:=Ac r (.func (.func y) #[] z)) J _ rfl (U_ _ _ 0) (by simp[Ac,Aq]) rfl fun G9 w ja js=>?_);rw[I',Cm rfl]at w;refine lN (cs:=Ac r (.func (.func y) #[] z)) (Ax (w.blk _ (U_ _ _ 0))) ?_;exact⟨j,m,r,aq,hj,by omega,X,hm,ha,e4,B2,_,rfl,C,ag.trans fun k b=>w.old k (C k b),⟨a2,Q,c,w.lft.rebase⟩,gv.frame w.old fun k b=>b⟩
  ·rw[g_ (show t.size≤j by omega)];refine L_ (cs:=Ac r (.func (.func y) #[] z)) (Ax (Y.blk _ (U_ _ _ 1))) trivial (AX (cs:=Ac r (.func (.func y) #[] z)) Y _ rfl (U_ _ _ 0) (by simp[Ac,Aq]) rfl fun G9 w ja js=>?_);rw[I',Cm rfl]at w;refine lN (cs:=Ac r (.func (.func y) #[] z)) (Ax (w.blk _ (U_ _ _ 0))) ?_;exact⟨j,m,r,aq,hj,by omega,X,hm,ha,e4,B2,_,rfl,C,ag.trans fun k b=>w.old k (C k b),⟨a2,Q,c,w.lft.rebase⟩,gv.frame w.old fun k b=>b⟩
structure AltI(B:Nat→Prop)(H:Aa)(s q2 q3 i:Nat)(t:ByteArray)(os:List Int)(ps:List Pc)(f:AF)(fs:List AF)(j:Nat)(G:Aa):Prop where
 ex:∃(f':AF) (r:ReM) (B':Nat→Prop) (fn:v_) (a:Option Addr) (n cap:Nat),i≤j∧j≤t.size∧(j=t.size∨bt t j=124∨bt t j=41)∧BQ t ⟨i,f,fs⟩=BQ t ⟨j,f',fs⟩∧(CC f').alt=some r∧f'.place=f.place∧
  (∀k,B k→B' k)∧A_ B H G∧E_ B' G G (sP s t j a n cap os ps++[pB 204 q2 Aq,pB 204 q3 (Ac r fn)])∧BW B' G fn r
theorem Wp{B:Nat→Prop}{H:Aa}{s i:Nat}{t:ByteArray}{os:List Int}{ps:List Pc}{f:AF}{fs:List AF}(hE:E5 H)(I:B 2)(ht:t.size≤1048576)(hi:i≤t.size)(Y:os.length=fs.length)(Z:fs.length≤1000)
  (a0:f.alt=none) (R:f.meet=none) (a6:f.row=none) (a7:f.factor=none) (IH:∀i',i<i'→Jj t i') (sc:Sc B H s t i os ps):
  Ay prog 106 #[H_ s] H
   (fun v H'=>∃j q r,i≤j∧j≤t.size∧(j=t.size∨bt t j=41)∧BQ t ⟨i,f,fs⟩=BQ t ⟨j,q,fs⟩∧(CC q).alt=some r∧q.place=f.place∧SR B H s t j os ps r v H')
   (fun x H'=>SE B H t ⟨i,f,fs⟩ x H'):=by
 have⟨a,n,cap,st⟩:=sc;refine Ay.of_vc func106 rfl (call106 _) (Aw (.agg Aq.toArray) Aq CE rfl ?_);intro J H1 ak am a8 a9;have st1:=st.box ak am a8 a9;refine Ab.mk (Rg (f:=f) (fs:=fs) (FC hE I st1.old) I ht hi Y Z R a6 a7 IH (B:=B) (ps:=ps++[pB 204 J Aq]) ⟨a,n,cap,st1.rebase⟩) ?_ ?_
 rotate_left
 ·intro x H7 h;exact h.from rfl st1.old fun k b=>b
 rintro _ H2 ⟨O,f1,r1,P,S,T,U,V,e1,e5,⟨B1,f3,rfl,s1,a1,⟨a2,K,c,L⟩,gs⟩⟩;obtain⟨g1,c1,rfl⟩:=gs.fn;replace L:E_ B1 H2 H2 (sP s t O a2 K c os ps++[pB 204 J Aq]):=L;refine Aw (.agg Aq.toArray) Aq CE rfl ?_;intro E H3 ao ap ab ad;have y:=L.box ao ap ab ad;rw[YaC]at y;replace y:E_ B1 H2 H3 (sP s t O a2 K c os ps++[pB 204 J Aq,pB 204 E Aq]):=y;refine AX (cs:=Ac r1 (.func (.func g1) #[] c1)) y _ rfl (U_ _ _ 1) (by simp[Ac,Aq]) rfl fun H4 m b5 b6=>?_;rw[I',Cm rfl]at m;replace m:E_ B1 H2 H4 (sP s t O a2 K c os ps++[pB 204 J Aq,pB 204 E (Ac r1 (.func (.func g1) #[] c1))]):=m;have ae:A_ B H H4:=(st1.old.trans a1).trans fun k b=>m.old k (s1 k b);(conv=>whnf);refine CA.mk [] (fun _:Nat=>[]) (fun j G=>AltI B H s J E i t os ps f fs j G) (fun j _=>t.size-j) ?_ ?_
 ·(conv=>whnf);exact⟨O,rfl,⟨f1,r1,B1,.func (.func g1) #[] c1,a2,K,c,P,S,T,U,by rw[NH,e1,a0,V];rfl,e5,s1,ae,m.rebase,gs.frame m.old fun k b=>b⟩⟩
 ·rintro j G b4 ⟨q,r,B2,f2,a2,K,c,ah,hj,Q,W,hm,e4,F,ag,ai,gv⟩;obtain⟨u,w,rfl⟩:=gv.fn;clear st st1 L y m gs a8 ab a9 ad a1 ae s1;refine Ab.of (Ak (Eh (ai.blk 0 rfl)) fun G1 aq=>?_);have M:=ai.call aq;by_cases h0:j<t.size
  ·rw[a_ (show¬t.size≤j by omega)];have Q:bt t j=124∨bt t j=41:=Q.resolve_left (by omega);refine Ab.of (Ak (CX (M.blk 0 rfl) h0) fun G2 au=>?_);have N:=M.call au;(conv=>whnf);try (refine Ao.run ?_)
   (conv=>whnf);by_cases z:bt t j=124
   ·have d:(((bt t j:Nat):Int)==124)=true:=by rw[z];rfl
    (conv=>whnf);rw[d];refine F_ ?_;refine lT ((N.blk 0 rfl).cellE rfl) ?_;(conv=>whnf);rw[n_ (x:=(j:Int)+1) (by omega)];refine F_ ?_;refine Bh N 0 rfl (by simp) rfl fun G3 l=>?_;replace l:E_ B2 G G3 (sP s t (j+1) a2 K c os ps++[pB 204 J Aq,pB 204 E (Ac r (.func (.func u) #[] w))]):=l;have X:A_ B H G3:=ag.trans fun k b=>l.old k (F k b);have aw:=gv.frame l.old fun k b=>b;have A:BQ t ⟨i,f,fs⟩=BQ t ⟨j+1,CC q,fs⟩:=W.trans (Ed (s:=⟨j,q,fs⟩) h0 (VH z));refine AE.held (fun k=>k=E) [4] (sq [0,1] (.f 2 (.f 3 (.f 4 .e)))) (AQ _ _) rfl (by kernel_rfl) (L_ (cs:=Ac r (.func (.func u) #[] w)) (Ax (l.blk _ (U_ _ _ 1))) rfl (Ab.mk (Rg (f:=CC q) (fs:=fs) (FC hE I X) (F _ I) ht (by omega) Y Z (Fe q).1 (Fe q).2.2.1 (Fe q).2.2.2 (fun i' b7=>IH i' (by omega)) (B:=B2) (ps:=ps++[pB 204 J Aq,pB 204 E (Ac r (.func (.func u) #[] w))]) ⟨a2,K,c,l.rebase⟩) ?_ ?_))
    rotate_left
    ·intro x H7 h;exact h.from A X F
    rintro _ G4 ⟨O,f1,r2,P,S,T,U,V,e1,e5,⟨B3,f3,rfl,s3,a3,⟨a4,n4,C,D⟩,gs⟩⟩;replace D:E_ B3 G4 G4 (sP s t O a4 n4 C os ps++[pB 204 J Aq,pB 204 E (Ac r (.func (.func u) #[] w))]):=D;refine⟨fun k b=>by rw[show k=E from b];exact(D.blk _ (U_ _ _ 1)).trans (l.blk _ (U_ _ _ 1)).symm,?_⟩;have ay:A_ B H G4:=X.trans fun k b=>a3 k (F k b);refine Ab.of (Aj.mk (GT .alt D (aw.frame a3 s3) gs) ?_);rintro _ G5 ⟨B5,f5,rfl,s5,a5,aj,gj⟩;refine⟨fun k b=>by rw[show k=E from b];exact(aj.blk _ (U_ _ _ 1)).trans (l.blk _ (U_ _ _ 1)).symm,?_⟩;obtain⟨g5,c5,rfl⟩:=gj.fn;refine AX (cs:=Ac (opR .alt r r2) (.func (.func g5) #[] c5)) aj _ rfl (U_ _ _ 1) (by simp[Ac]) rfl fun G6 p b8 b9=>?_;rw[I']at p;have e6:As (Ac r (.func (.func u) #[] w)) 0 (Ac (opR .alt r r2) (.func (.func g5) #[] c5))=Ac (opR .alt r r2) (.func (.func g5) #[] c5):=Cm rfl;replace p:E_ B5 G5 G6 (sP s t O a4 n4 C os ps++[pB 204 J Aq,pB 204 E (As (Ac r (.func (.func u) #[] w)) 0 (Ac (opR .alt r r2) (.func (.func g5) #[] c5)))]):=p;rw[e6]at p;have s6:∀k,B k→B5 k:=fun k b=>s5 k (s3 k (F k b));have az:A_ B H G6:=(ay.trans (a5.mono fun k b=>D.up (s3 k (F k b)))).trans fun k b=>p.old k (s6 k b);(conv=>whnf);refine⟨rfl,O,rfl,⟨f1,opR .alt r r2,B5,.func (.func g5) #[] c5,a4,n4,C,by omega,S,T,A.trans U,by rw[NH,e1,hm,V];rfl,e5.trans ((Fe q).2.1.trans e4),s6,az,p.rebase,gj.frame p.old fun k b=>b⟩,by omega⟩
   ·have d:(((bt t j:Nat):Int)==124)=false:=CV z;(conv=>whnf);rw[d];refine L_ (cs:=Ac r (.func (.func u) #[] w)) (Ax (N.blk _ (U_ _ _ 1))) trivial (AX (cs:=Ac r (.func (.func u) #[] w)) N _ rfl (U_ _ _ 0) (by simp[Ac,Aq]) rfl fun G9 g ja js=>?_);rw[I',Cm rfl]at g;refine lN (cs:=Ac r (.func (.func u) #[] w)) (Ax (g.blk _ (U_ _ _ 0))) ?_;exact⟨j,q,r,ah,hj,by omega,W,hm,e4,B2,_,rfl,F,ag.trans fun k b=>g.old k (F k b),⟨a2,K,c,g.lft.rebase⟩,gv.frame g.old fun k b=>b⟩
  ·rw[g_ (show t.size≤j by omega)];refine L_ (cs:=Ac r (.func (.func u) #[] w)) (Ax (M.blk _ (U_ _ _ 1))) trivial (AX (cs:=Ac r (.func (.func u) #[] w)) M _ rfl (U_ _ _ 0) (by simp[Ac,Aq]) rfl fun G9 g ja js=>?_);rw[I',Cm rfl]at g;refine lN (cs:=Ac r (.func (.func u) #[] w)) (Ax (g.blk _ (U_ _ _ 0))) ?_;exact⟨j,q,r,ah,hj,by omega,W,hm,e4,B2,_,rfl,F,ag.trans fun k b=>g.old k (F k b),⟨a2,K,c,g.lft.rebase⟩,gv.frame g.old fun k b=>b⟩
theorem T8{t:ByteArray}(g:t.size≤1048576):∀(n i:Nat),t.size-i≤n→i≤t.size→Jj t i
 | 0,i,hn,e=>fun B H s h ps f fs j a e b c k l m p sc=>Wp j a g e b c k l m p (fun q r=>fun B H s h ps f fs _ _ d=>absurd d (by omega)) sc
 | n+1,i,hn,e=>fun B H s h ps f fs j a e b c k l m p sc=>Wp j a g e b c k l m p (fun q r=>by
    by_cases u:q≤t.size
    ·exact T8 g n q (by omega) u
    ·exact fun B H s h ps f fs _ _ d=>absurd d (by omega)) sc
def Og(q2 q3:Nat)(v:v_)(c e:Nat):List Pc:=[pB 66 q2 [v],pB 27 q3 (Ad c e)]
theorem U5{H:Aa}{a b:Nat}{K:Aa→Prop}(k:K H):BX prog 105 #[H_ a,H_ b] .returning .returning H K:=by
 refine BX.mk (R:=fun H'=>H'=H) (Cj (R:=fun H'=>H'=H) func105 rfl ⟨⟨_,rfl⟩,rfl,rfl,rfl,rfl,rfl⟩ .ret rfl ?_) (fun H' h=>by rw[h];exact k);(conv=>whnf);refine⟨rfl,?_⟩;refine Kt underlying20 ?_;(conv=>whnf)
theorem U0{B:Nat→Prop}{H0 H:Aa}{a b c e c0 e0:Nat}{v:v_}{ps:List Pc}{K:Aa→Prop}(j:E_ B H0 H (Og a b v c0 e0++ps))(k:∀H',E_ B H0 H' (Og a b .nilIface c e++ps)→K H'):
  BX prog 105 #[H_ a,H_ b] (.panicking (pe (Bg c e))) (.panicking [{v:=Bg c e,recovered:=true}]) H K:=by
 refine BX.mk (R:=fun H'=>E_ B H0 H' (Og a b .nilIface c e++ps)) (Cj (R:=fun H'=>E_ B H0 H' (Og a b .nilIface c e++ps)) func105 rfl ⟨⟨_,rfl⟩,rfl,rfl,rfl,rfl,rfl⟩ (.pan _) rfl ?_) k;(conv=>whnf);refine⟨rfl,?_⟩;refine NV underlying20 (Au.held (fun _=>False) 4 (sq [0,1] (.f 2 (.f 3 .e))) rfl (by kernel_rfl) (Kc underlying27 (fun l h=>by cases h) (Bh j 0 rfl (by simp) rfl fun H1 st1=>(⟨fun k g=>g.elim,?_⟩))));refine AD (cs:=Ad c e) st1 1 rfl rfl (J_ _) rfl fun H3 d=>(⟨fun k g=>g.elim,?_⟩);(conv=>whnf);have e2:As (Ad c0 e0) 0 (Ad c e)=Ad c e:=Bq rfl;rw[e2]at d;exact d
def LT(t:ByteArray)(v:v_):Prop:=match GW t with
 | .inl (c,p)=>v= .tuple #[.nilIface,.agg #[C_ c,C_ p,.string ⟨#[]⟩]]
 | .inr r=>v= .tuple #[Av r,.agg #[C_ 0,C_ 0,.string ⟨#[]⟩]]
theorem Bn:(prog.info? 27).bind (·.zero)=some (AI 0 0):=by kernel_rfl
theorem AW{H:Aa}{b c e:Nat}(h:K_ H b 27 (Ad c e)):AL H b 0 (Ad c e):=h.cells (fun j v a=>by rw[P_];exact a)
theorem Ab1{H:Aa}{t:ByteArray}(hE:E5 H):Al prog 70 #[.string t] H fun v H'=>A_ (D_ H) H H'∧LT t v:=by
 refine Al.of_rest func70 rfl (call70 _) (Bu.seq (BV (St.nil H) .nilIface [.nilIface] rfl rfl fun R H1 st1=>(BV st1 (AI 0 0) (Ad 0 0) Bn rfl fun S H2 b=>?_)));replace b:E_ (D_ H) H H2 (Og R S .nilIface 0 0):=b;refine Bu.seq ?_;by_cases q:1048576<t.size
 ·have T:decide (1048576<(t.size:Int))=true:=s_;(conv=>whnf);rw[T];refine Ah underlying27 rfl _ rfl (Ad 1 0) rfl (Bh b 0 rfl (by simp) rfl fun H3 U=>(AD (cs:=Ad 1 0) U 1 rfl rfl (J_ _) rfl fun H4 l=>?_));have e2:As (Ad 0 0) 0 (Ad 1 0)=Ad 1 0:=Bq rfl;rw[e2]at l;refine B_ ((l.blk 0 rfl).cellE rfl) trivial (L_ (cs:=Ad 1 0) (AW (l.blk 1 rfl)) trivial (⟨l.old,?_⟩));unfold LT GW;rw[I_ q]<;>rfl
 ·have T:decide (1048576<(t.size:Int))=false:=m_;have I:GW t=BQ t ⟨0,IB (-1),[]⟩:=by unfold GW;rw[G_ q]
  have y:∀{c p:Nat},BQ t ⟨0,IB (-1),[]⟩= .inl (c,(p:Int))→LT t (.tuple #[.nilIface,AI c p]):=fun h=>by
   unfold LT;rw[I,h];rfl
  (conv=>whnf);rw[T];refine Bu.defer_ ⟨rfl,rfl,rfl,⟨_,rfl⟩,rfl,rfl⟩ (fun vs w=>call105 _ w) ?_;(conv=>whnf);refine⟨rfl,?_⟩;refine Ah underlying201 rfl _ rfl (scL t 0 (.slice none 0 0)) rfl (BC (scL t 0 (.slice none 0 0)) rfl ?_);intro s H3 V W X Y;have J:=((St.nil H2).box V W X Y).nils tPl 3;have z:A_ (D_ H2) H2 H3:=J.old;have A:E5 H2:=FC hE (B:=D_ H) hE.2 b.old;have Z:E5 H3:=FC A (B:=D_ H2) A.2 z;have C:∀{H4:Aa} {x:v_} (fr:Fr) (K:Aa→Prop),SE (D_ H2) H3 t ⟨0,IB (-1),[]⟩ x H4→(∀(c p:Nat) (H5:Aa),LT t (.tuple #[.nilIface,AI c p])→E_ (D_ H) H H5 (Og R S .nilIface c p)→K H5)→
    BX prog 105 #[H_ R,H_ S] (.panicking (pe x)) (.panicking [{v:=x,recovered:=true}]) H4 K:=fun fr K ⟨c,p,h1,h2,h3⟩ k=>by
   subst h2;exact U0 (ps:=[]) (b.call (z.trans h3)) fun H5 d=>k c p H5 (y h1) d
  refine Ab.mk (T8 (by omega) t.size 0 (by omega) (by omega) (D_ H2) H3 s [] [] (IB (-1)) [] Z A.2 (by omega) rfl (by decide) rfl rfl rfl rfl ⟨none,0,0,J.rebase⟩) ?_ ?_
  ·rintro _ H4 ⟨j,Q,r,a9,hj,L,M,a0,ab,⟨B1,f1,rfl,s1,a4,⟨a2,n2,u,l⟩,gv⟩⟩;obtain⟨g1,c1,rfl⟩:=gv.fn;have a5:A_ (D_ H2) H2 H4:=z.trans a4;refine BV l (.agg Aq.toArray) Aq CE rfl fun q5 H5 d=>(AX (cs:=Ac r (.func (.func g1) #[] c1)) d 2 rfl rfl (by simp[Ac,Aq]) rfl fun H6 m ad ae=>?_);replace m:E_ B1 H4 H6 [pSc s t j (.slice a2 n2 u),pS tPl 3 a2 n2 u [],pB 204 q5 (As Aq 0 (Ac r (.func (.func g1) #[] c1)))]:=m;rw[Cm rfl]at m;have N:A_ (D_ H2) H2 H6:=a5.trans fun k D=>m.old k (s1 k D);refine Ao.run (Ab.of (Ak (Eh (m.blk 0 rfl)) fun H7 O=>?_));have n:=m.call O;have E:A_ (D_ H2) H2 H7:=N.trans (O.mono fun k D=>Ae N D);by_cases h0:j<t.size
   ·have a6:bt t j=41:=by rcases L with h | h;omega;exact h
    rw[a_ (show¬t.size≤j by omega)];refine F_ ?_;refine B_ ((n.blk 0 rfl).cellE rfl) trivial (Ab.mk (Cr (c:=20) (e:=j)) (fun _ _ h=>h.elim) ?_);rintro _ _ ⟨rfl,rfl⟩;(conv=>whnf);refine U0 (ps:=[]) (b.call E) fun H8 f=>(B_ ((f.blk 0 rfl).cellE rfl) trivial (L_ (cs:=Ad 20 j) (AW (f.blk 1 rfl)) trivial ?_));exact⟨f.old,y (M.trans (E1 (s:=⟨j,Q,[]⟩) h0 (Pz a6)))⟩
   ·rw[g_ (show t.size≤j by omega)];have g:BQ t ⟨0,IB (-1),[]⟩=(if 2000<r.nodes then .inl (24,0)else .inr r):=by
     rw[M,Rl (s:=⟨j,Q,[]⟩) h0];show(if 2000<((CC Q).alt.getD .eps).nodes then Sum.inl (24,0)else Sum.inr ((CC Q).alt.getD .eps))=_;rw[a0];rfl
    have k5:K_ H7 q5 204 (Ac r (.func (.func g1) #[] c1)):=n.blk 2 rfl;refine F_ ?_;refine lT (k5.cellE rfl) ?_;by_cases hn:2000<r.nodes
    ·have d2:decide (2000<((szR r:Nat):Int))=true:=g_ (by unfold szR;omega);rw[I_ hn]at g;have f:=b.call E;(conv=>whnf);rw[d2];refine Ah underlying27 rfl _ rfl (Ad 24 0) rfl (Bh f 0 rfl (by simp) rfl fun H9 F=>(AD (cs:=Ad 24 0) F 1 rfl rfl (J_ _) rfl fun H10 a=>?_));have e2:As (Ad 0 0) 0 (Ad 24 0)=Ad 24 0:=Bq rfl;rw[e2]at a;(conv=>whnf);refine U5 (B_ ((a.blk 0 rfl).cellE rfl) trivial (L_ (cs:=Ad 24 0) (AW (a.blk 1 rfl)) trivial ?_));exact⟨a.old,y (c:=24) (p:=0) g⟩
    ·have d2:decide (2000<((szR r:Nat):Int))=false:=a_ (by unfold szR;omega);rw[G_ hn]at g;(conv=>whnf);rw[d2];refine F_ ?_;refine lT (k5.cellE rfl) ?_;have⟨g2,c2,a7,G⟩:=AeD (gv.frame n.old fun k D=>D) (fun k D=>n.up D);injection a7 with hg1 hg2 hg3
     injection hg1 with hg1
     subst hg1 hg3;(conv=>whnf);rw[Lw];refine Ab.of (Ak (G H7 (A_.refl _ _)) fun H8 a8=>?_);have f:=(b.call E).call a8;have⟨T1,v1,e1⟩:=BP r;refine Ah underlying27 rfl _ rfl (Ad 0 0) rfl (Bh f 0 rfl (by simp) (Ec r) fun H9 F=>(AD (cs:=Ad 0 0) F 1 rfl rfl (J_ _) rfl fun H10 a=>?_));have e2:As (Ad 0 0) 0 (Ad 0 0)=Ad 0 0:=Bq rfl;rw[e2]at a;(conv=>whnf);refine U5 (B_ ((a.blk 0 rfl).cellE rfl) trivial (L_ (cs:=Ad 0 0) (AW (a.blk 1 rfl)) trivial (⟨a.old,?_⟩)));unfold LT;rw[I,g];rfl
  ·intro x H4 h;(conv=>whnf);refine C [] _ h fun c p H5 P d=>(B_ ((d.blk 0 rfl).cellE rfl) trivial (L_ (cs:=Ad c p) (AW (d.blk 1 rfl)) trivial ?_));exact⟨d.old,P⟩
def Ag6(t:ByteArray)(H0 H':Aa)(v:v_):FT ⊕ List Tk→Prop
 | .inl e=>v= .tuple #[.slice none 0 0,AI e.1 e.2]
 | .inr ts=>∃a n,v= .tuple #[.slice a ts.length n,AI 0 0]∧S_ tTk (fun k=>H0.size≤k∧k<H'.size) H' a n ts
section
variable{B S:Nat→Prop}{H0 H:Aa}{qs:List Pc}{s i:Nat}{t:ByteArray}{v:v_}{c p:Int}{ts:List Tk}
theorem AfB:Al prog 37 #[.string t] H fun v H'=>A_ (D_ H) H H'∧Ag6 t H H' v (MW t):=by
 refine Al.of_vc func37 rfl (call37 _) (Aw (AI 0 0) (Ad 0 0) Bn rfl ?_);intro q H1 U F A B;unfold MW;by_cases O:4096<t.size
 ·have I:decide ((4096:Int)<(t.size:Int))=true:=s_;rw[I_ O];(conv=>whnf);rw[I];refine Ah underlying27 rfl _ rfl (Ad 1 0) rfl (AD (cs:=Ad 1 0) ((St.nil H).box U F A B) 0 rfl rfl (J_ _) rfl fun H2 C=>(L_ (cs:=Ad 1 0) (AW (C.blk 0 rfl)) trivial ?_));exact⟨C.old,rfl⟩
 have I:decide ((4096:Int)<(t.size:Int))=false:=m_;rw[G_ O];(conv=>whnf);rw[I];refine Ah underlying131 rfl _ rfl (skL t 0 (.slice none 0 0) 0 0) (by kernel_rfl) (BC (skL t 0 (.slice none 0 0) 0 0) rfl ?_);intro s H2 J K L M;have C:=((St.nil H1).box J K L M).nils tTk 135;refine Aj.mk (Yy (by omega) (l_ _) C.rebase) ?_;rintro _ H3 ⟨rfl,V⟩;have P:∀{G ps},E_ (D_ H1) H1 G ps→E_ (D_ H) H1 G (pB 27 q (Ad 0 0)::ps):=fun W=>W.give (fun k w=>by unfold D_ at*;omega) _ A fun k w=>by obtain rfl:k=q:=w;unfold D_;omega
 have fin:∀{G:Aa},A_ (D_ H) H1 G→A_ (D_ H) H G:=fun h=>A_.trans (fun k w=>B k (by unfold D_ at w;omega)) h;have fc:∀{G:Aa} {i v} {c p:Nat},K_ G s 131 (skL t i v c p)→AL G s 3 (Ad c p):=fun h=>h.cells fun j v Q=>by rcases j with _ | _ | _ | j<;>first | exact Q | simp[Ad]at Q
 refine A8.mk [] (fun _:Nat×List Tk=>[]) (fun x G=>match x with | (j,l)=>j≤t.size∧l.length≤j∧(∃n,t.size≤j+n∧HQ t t.size (BD t t.size false 0) []=HQ t n j l)∧ScS (D_ H1) H1 G s t j l 0 0) (fun x _=>match x with | (j,_)=>t.size-j) ⟨(BD t t.size false 0,[]),rfl,(Fu _ _ _).2 (l_ _),l_ _,⟨_,by omega,rfl⟩,none,0,C.thn V⟩ ?_;rintro⟨j,l⟩ G R ⟨X,Y,⟨n,Z,e⟩,a,m,S⟩;refine Ak (skE S) fun G1 a1=>?_;have D:=S.call a1;by_cases y:t.size≤j
 ·have e2:HQ t n j l= .inr (l++[⟨0,t.size,⟨#[]⟩⟩]):=by cases n<;>unfold HQ<;>first | rfl | exact I_ y
  rw[g_ y,e,e2];refine Aj.mk (Ox (k:=0) (p2:=t.size) (x:=⟨#[]⟩) (by omega) (.off D)) ?_;rintro _ G2 ⟨rfl,a2,m2,b⟩;have b:=P (D.thn b);refine F_ ?_;refine B_ ((b.blk 1 rfl).cellE rfl) trivial (Ah underlying27 rfl _ rfl (Ad 0 0) rfl (AD (cs:=Ad 0 0) b 0 rfl rfl (J_ _) rfl fun H6 d=>(L_ (cs:=Ad 0 0) (AW (d.blk 0 rfl)) trivial (⟨fin d.old,a2,m2,rfl,?_⟩))));exact St.viewF ⟨fin d.old,fun k w=>w,Ap (fin d.old),d.oks,d.rng,d.dis⟩ 2 rfl
 rw[a_ y];obtain⟨n,rfl⟩:∃m,n=m+1:=⟨n-1,by omega⟩;refine Aj.mk (AeT (by omega) (by omega) (Ydr y) (.off D)) ?_;intro r G2 E;rw[show HQ t (n+1) j l=(if t.size≤j then .inr (l++[⟨0,t.size,⟨#[]⟩⟩])else match onM t j with
  | .inl e=>.inl e
  | .inr (k,j)=>HQ t n (BD t (t.size-j) false j) (l++[k]))from rfl,G_ y]at e
 cases N:onM t j with
 | inl z=>
   rw[N]at e E;obtain⟨rfl,u,a2,m2,b⟩:=E;have b:=P (D.thn b);rw[e];refine Au.heldZ (D_ G2) [5] (sq [0,1,2,3,4] (.f 5 .e)) rfl (by kernel_rfl) (F_ ?_);refine L_ (cs:=Ad z.1 z.2) (fc (b.blk 1 rfl)) (b.in_ 1 rfl rfl).2 (AD (cs:=Ad z.1 z.2) b 0 rfl rfl (J_ _) rfl fun H6 d=>(L_ (cs:=Ad z.1 z.2) (AW (d.blk 0 rfl)) trivial ?_));exact⟨fin d.old,rfl⟩
 | inr x=>
   rw[N]at e E;obtain⟨rfl,a2,m2,b⟩:=E;have⟨k,u⟩:=x;have g:=XL (Ydr y) N;simp only at g b e;have b:=D.thn b;refine Aj.mk (Yy (by omega) g.2 b.rebase) ?_;rintro _ G3 ⟨rfl,d⟩;have T:=Fu (t:=t) (t.size-u) false u;(conv=>whnf);refine⟨rfl,(BD t (t.size-u) false u,l++[k]),rfl,⟨T.2 g.2,by simp;omega,⟨n,by omega,e⟩,a2,m2,b.thn d⟩,?_⟩;show t.size-BD t (t.size-u) false u<t.size-j;have:=T.2 g.2;omega
end
structure O'(B:Nat→Prop)(H0 H:Aa)(p:Nat)(ts:List Tk)(o:Nat)(qs:List Pc):Prop where
 ex:∃a n,E_ B H0 H (pB 87 p [.slice a ts.length n,C_ o]::qs)∧S_ tTk B H a n ts
section
variable{B S:Nat→Prop}{H0 H H':Aa}{p o:Nat}{ts:List Tk}{qs:List Pc}
theorem O'.call(h:O' B H0 H p ts o qs)(b:A_ (D_ H) H H'):O' B H0 H' p ts o qs:=by
 have⟨a,n,c,d⟩:=h;exact⟨a,n,c.call b,d.frame (b.mono fun k e=>c.up e)⟩
theorem O'.rb(h:O' B H0 H p ts o qs):O' B H H p ts o qs:=by
 have⟨a,n,b,c⟩:=h;exact⟨a,n,b.rebase,c⟩
theorem O'.thn{d:List Tk}{u:Nat}(h:O' B H0 H p ts o qs)(e:O' B H H' p d u qs):O' B H0 H' p d u qs:=by
 have⟨a,n,f,j⟩:=h;have⟨a2,g,b,c⟩:=e;exact⟨a2,g,f.thn b,c⟩
theorem O'.old(h:O' B H0 H p ts o qs):A_ B H0 H:=by
 have⟨a,n,b,c⟩:=h;exact b.old
theorem Li:(prog.info? 135).bind (·.zero)=some (.agg (tkL ⟨0,0,⟨#[]⟩⟩).toArray):=by kernel_rfl
theorem S6{b:Nat}{k:Tk}(h:K_ H b 135 (tkL k)):AL H b 0 (tkL k):=h.cells (fun j v a=>by rw[P_];exact a)
theorem Fx(h:O' B H0 H p ts o qs)(t:DC ts):AZ prog 64 #[H_ p] H (.agg (tkL (hd ts)).toArray):=by
 have⟨a,n,l,e⟩:=h;refine Al.of_vc func64 rfl (call64 _) (Aw (.agg (tkL ⟨0,0,⟨#[]⟩⟩).toArray) (tkL ⟨0,0,⟨#[]⟩⟩) Li rfl ?_);intro q H1 m f g d;have u:=(St.nil H).box m f g d;have w:=l.skip m d;have e:=e.frame (d.mono fun k x=>by have:=l.up x;omega);have⟨A,j⟩:=t.pos;refine F_ ?_;refine lT ((w.blk 0 rfl).cellE rfl) ?_;refine u_ Y0 e (i:=0) (show ts[0]?=some (hd ts) by rw[j];rfl) rfl (fun b o c C y z=>?_);obtain rfl:=z;refine L_ (cs:=tkL (hd ts)) y trivial (AD (cs:=tkL (hd ts)) u 0 rfl rfl (J_ _) rfl fun H2 r=>(L_ (cs:=tkL (hd ts)) (S6 (r.blk 0 rfl)) trivial ?_));exact⟨rfl,r.old⟩
theorem Hc(h:O' B H0 H p ts o qs)(G:DC ts):Al prog 65 #[H_ p] H fun v H'=>v= .agg (tkL (hd ts)).toArray∧O' B H0 H' p ts.tail o qs:=by
 have⟨a,n,j,D⟩:=h;refine Al.of_vc func65 rfl (call65 _) (Aw (.agg (tkL ⟨0,0,⟨#[]⟩⟩).toArray) (tkL ⟨0,0,⟨#[]⟩⟩) Li rfl ?_);intro q H1 I m r d;have E:=(j.box I m r d).rot;have t:=D.frame (d.mono fun k e=>by have:=j.up e;omega);have⟨M,f⟩:=G.pos;refine F_ ?_;refine lT ((E.blk 1 rfl).cellE rfl) ?_;refine u_ Y0 t (i:=0) (show ts[0]?=some (hd ts) by rw[f];rfl) rfl (fun b o c N J K=>?_);obtain rfl:=K;refine L_ (cs:=tkL (hd ts)) J trivial (Aw (.agg (tkL ⟨0,0,⟨#[]⟩⟩).toArray) (tkL ⟨0,0,⟨#[]⟩⟩) Li rfl ?_);intro O H2 u w x y;have L:=(E.box u w x y).rot;refine AD (cs:=tkL (hd ts)) L 0 rfl rfl (J_ _) rfl fun H3 g=>(F_ ?_);refine lT ((g.blk 2 rfl).cellE rfl) ?_;have z:=D.frame (A_.trans (fun k e=>(j.old k e).symm) g.old);refine Ad1 (l:=1) Y0 z rfl (by rw[f];simp) fun a2 A=>?_;refine F_ ?_;refine Bh g 2 rfl (by simp) rfl fun H4 F=>(L_ (cs:=tkL (hd ts)) (S6 (F.blk 0 rfl)) trivial (AD (cs:=tkL (hd ts)) F 1 rfl rfl (J_ _) rfl fun H5 C=>(L_ (cs:=tkL (hd ts)) (S6 (C.blk 1 rfl)) trivial (⟨rfl,a2,n-1,?_,?_⟩))))
 ·rw[←Ydq];exact C.tl.tl
 ·rw[←Ydq];exact A.frame (A_.trans (fun k e=>(g.old k e).symm) C.old)
theorem Y7{x:ByteArray}(h:O' B H0 H p ts o qs)(c:DC ts):AZ prog 102 #[H_ p,.string x] H (.bool (isM ts x)):=by
 refine Al.of_vc func102 rfl (call102 _) (Ak (Fx h c) fun H1 a1=>(OX rfl ?_));unfold isM;by_cases a:(hd ts).k=4
 ·have b:(((hd ts).k:Int)==4)=true:=by rw[a];rfl
  (conv=>whnf);rw[b];refine Ak (Fx (h.call a1) c) fun H2 a2=>(OX rfl ?_);(conv=>whnf);rw[CN];exact⟨by congr 1;rw[decide_eq_decide];exact⟨fun h=>⟨a,h⟩,fun h=>h.2⟩,a1.trans (a2.mono fun k a=>Ae a1 a)⟩
 ·have b:(((hd ts).k:Int)==4)=false:=CV a;(conv=>whnf);rw[b];(conv=>whnf);exact⟨by rw[a_ fun h=>a h.1],a1⟩
theorem KC{c:Nat}(h:O' B H0 H p ts o qs)(a:DC ts):Ay prog 67 #[H_ p,C_ c] H (fun _ _=>False) (fun x H'=>x=Bg c (hd ts).p∧A_ (D_ H) H H'):=by
 refine Ay.of_vc func67 rfl (call67 _) (Ab.of (Ak (Fx h a) fun H1 a1=>(OX rfl (Ah underlying27 rfl _ rfl (Ad c (hd ts).p) rfl ?_))));(conv=>whnf);exact⟨rfl,a1⟩
theorem KE{x:ByteArray}(h:O' B H H p ts o qs)(a:DC ts):Ay prog 68 #[H_ p,.string x] H (fun v H'=>v= .tuple #[]∧isM ts x=true∧O' B H H' p ts.tail o qs) (fun y H'=>isM ts x=false∧y=Bg 60 (hd ts).p∧A_ B H H'):=by
 refine Ay.of_vc func68 rfl (call68 _) (Ao.run (Ab.of (Ak (Y7 h a) fun H1 a1=>?_)));have b:=h.call a1;cases e:isM ts x
 ·refine Ab.mk (KC (c:=60) b a) (fun _ _ h=>h.elim) ?_;rintro _ H2 ⟨rfl,a2⟩;exact⟨rfl,rfl,(b.call a2).old⟩
 ·refine Ab.of (Aj.mk (Hc b a) ?_);rintro _ H2 ⟨rfl,d⟩;(conv=>whnf);exact⟨rfl,rfl,d⟩
theorem Y8{o2:Nat}{K:Aa→Prop}(h:O' B H0 H p ts o qs)(k:∀H',O' B H0 H' p ts o2 qs→K H'):By prog (Instr.storeAt 3 (.pointer (some ⟨p,1,none⟩)) (.int .i64 (o2:Int))) H K:=by
 have⟨a,n,c,d⟩:=h;exact Bh c 0 rfl (by simp) rfl fun H' b=>k H' ⟨a,n,b,d.frame (A_.trans (fun k e=>(c.old k e).symm) b.old)⟩
theorem UG{K:v_→Prop}(h:O' B H0 H p ts o qs)(k:K (.int .i64 (o:Int))):A7 prog (Instr.loadAt 3 (.pointer (some ⟨p,1,none⟩))) (fun _=>True) H K:=by
 have⟨a,n,b,c⟩:=h;exact B_ ((b.blk 0 rfl).cellE rfl) trivial k
theorem PL{x:ByteArray}(k:o≤64)(h:O' B H H p ts o qs)(d:DC ts):Ay prog 159 #[H_ p,.string x] H (fun v H'=>v= .tuple #[]∧isM ts x=true∧o<64∧O' B H H' p ts.tail (o+1) qs) (fun y H'=>y=Bg (if isM ts x then 23 else 60) (hd ts).p∧(isM ts x=true→64≤o)∧A_ B H H'):=by
 refine Ay.of_vc func159 rfl (call159 _) (Ao.run (Ab.of (Ak (Y7 h d) fun H1 a1=>?_)));have b:=h.call a1;cases f:isM ts x
 ·refine Ab.mk (KE b.rb d) (fun _ _ h=>absurd (f.symm.trans h.2.1) nofun) fun y H2 a=>?_;exact⟨a.2.1,nofun,b.old.trans a.2.2⟩
 ·by_cases g:64≤o
  ·have e:decide ((64:Int)≤(o:Int))=true:=s_
   repeat ((conv=>whnf);first | rw[e] | refine F_ ?_ | refine UG b ?_)
   refine Ab.mk (KC (c:=23) b d) (fun _ _ h=>h.elim) ?_;rintro _ H2 ⟨rfl,a2⟩;exact⟨rfl,fun _=>g,(b.call a2).old⟩
  ·have e:decide ((64:Int)≤(o:Int))=false:=m_
   repeat ((conv=>whnf);first | rw[e] | refine F_ ?_ | refine UG b ?_)
   refine Ab.mk (KE b.rb d) ?_ (fun y H2 a=>absurd (f.symm.trans a.1) nofun);rintro _ H2 ⟨rfl,-,a⟩;have a:=b.thn a
   repeat ((conv=>whnf);first | rw[R_ o (by omega)] | refine F_ ?_ | refine UG a ?_)
   refine Y8 (o2:=o+1) a fun H3 j=>?_;(conv=>whnf);exact⟨rfl,rfl,by omega,j⟩
end
section
variable{B S:Nat→Prop}{H0 H H':Aa}{p o:Nat}{ts:List Tk}{s:ByteArray}
theorem Jo:AZ prog 66 #[.string s] H (.int .i64 (arM s)):=by
 refine Al.of_vc func66 rfl (call66 _) ?_
 repeat' ((conv=>whnf);first | refine Af.run ?_ | split)
 all_goals
  (conv=>whnf);refine⟨?_,A_.refl _ _⟩;simp only[CN,Zzj,Zzi]at*
  first | (subst s;rfl) | (unfold arM;simp[*])
theorem Xq(s:ByteArray)(c:Nat)(H:Aa):AZ prog 136 #[.string s,.int .u8 (c:Int)] H (.int .i64 (indexByte s.data.toList (UInt8.ofNat c))):=by
 intro w a;refine⟨call136 _ w,?_⟩;refine(Go.Proofs.Any.stringslite_IndexByte {Ul with} s (c:Int) w).mono ?_;rintro _ _ ⟨rfl,rfl⟩;exact⟨_,rfl,Y_.refl _,rfl,by subst a;exact A_.refl _ _⟩
def inB(r s:ByteArray):Bool:=decide (s=r∨s.size=1∧0≤indexByte r.data.toList (UInt8.ofNat (bt s 0)))
theorem Sg{r:ByteArray}(k:r.size≤2)(hs:s.size≠0):AZ prog 139 #[.string r,.string s] H (.bool (inB r s)):=by
 refine Al.of_vc func139 rfl (call139 _) (Aj.mk (R:=fun v H'=>∃n:Int,v= .int .i64 n∧(0≤n↔inB r s=true)∧A_ (D_ H) H H') ?_ ?_)
 rotate_left
 ·rintro _ H1 ⟨n,rfl,d,a1⟩;(conv=>whnf);exact⟨by congr 1;rw[YcI,←d,Zzj],a1⟩
 refine Al.of_vc func161 rfl (call161 _) (Aj.mk (R:=fun v H'=>∃n:Int,v= .int .i64 n∧(0≤n↔inB r s=true)∧A_ (D_ H) H H') ?_ ?_)
 rotate_left
 ·rintro _ H1 ⟨n,rfl,d,a1⟩;(conv=>whnf);exact⟨n,rfl,d,a1⟩
 refine Al.of_vc func176 rfl (call176 _) ?_;have e:((s.size:Int)==0)=false:=CV hs;unfold inB;by_cases a:s=r
 ·repeat ((conv=>whnf);first | rw[e] | rw[Ka.2 a])
  exact⟨0,rfl,by simp[a],A_.refl _ _⟩
 by_cases c:s.size=1
 ·have f:((s.size:Int)==1)=true:=by rw[c];rfl
  have⟨b,g,h,l⟩:=CH (t:=s) (i:=0) (by omega)
  repeat ((conv=>whnf);first | rw[e] | rw[f] | rw[Kb a] | (refine Ci DN rfl g ?_;rw[←h]))
  refine Ak (Xq _ _ _) fun H1 a1=>?_;(conv=>whnf);exact⟨_,rfl,by simp[a,c],a1⟩
 have f:((s.size:Int)==1)=false:=CV c;have j:decide ((r.size:Int)≤(s.size:Int))=true:=s_
 repeat ((conv=>whnf);first | rw[e] | rw[f] | rw[j] | rw[Kb a])
 exact⟨-1,rfl,by simp[a,c],A_.refl _ _⟩
def rkS:List ByteArray:=[W_ 124,⟨#[38,45]⟩,DZ,W_ 126,W_ 46]
def Ol:List v_:=rkS.map Value.string
def KM(H:Aa):Prop:=AL H 0 0 Ol∧0<H.size
theorem KM.agr{H H':Aa}(h:KM H)(a:A_ (D_ H) H H'):KM H':=
 ⟨h.1.eq (a 0 h.2),Ae a (show D_ H 0 from h.2)⟩
def Ln(s r:ByteArray):Bool:=s.size != 0&&(inB r s&&(s.size==2|| !(r.toList==DZ.toList)))
theorem XM{s:ByteArray}(h:s.size=1):∃n,n<256∧s=W_ (UInt8.ofNat n)∧bt s 0=n:=by
 obtain⟨⟨l⟩⟩:=s
 match l,h with
 | [b],_=>exact⟨b.toNat,UInt8.toNat_lt b,by simp[W_],rfl⟩
theorem Af8:∀n,n<256→rkM (W_ (UInt8.ofNat n))=match rkS.findIdx? fun r=>decide (0≤indexByte r.data.toList (UInt8.ofNat n))&& !(decide (r=DZ))with
  | some i=>(i:Int)
  | none=> -1:=by decide+kernel
theorem U9{s:ByteArray}:rkM s=match rkS.findIdx? (Ln s)with
  | some i=>(i:Int)
  | none=> -1:=by
 have k:∀r,Ln s r=(s.size != 0&&(inB r s&&(s.size==2|| !(decide (r=DZ))))):=fun r=>by unfold Ln;rw[CN]
 have sz:∀{l:ByteArray},s.size≠l.size→s≠l:=fun h e=>h (by rw[e]);by_cases d:s.size=1
 ·obtain⟨n,a,rfl,m⟩:=XM d;rw[Af8 n a]
  congr 2
  funext r;rw[k];unfold inB;have f:(W_ (UInt8.ofNat n)).size=1:=rfl;rw[m];by_cases c:W_ (UInt8.ofNat n)=r
  ·subst c;have:indexByte (W_ (UInt8.ofNat n)).data.toList (UInt8.ofNat n)=0:=by simp[W_,indexByte]
   have p:W_ (UInt8.ofNat n)≠DZ:=fun e=>by have:=congrArg ByteArray.size e;rw[f]at this;cases this
   simp[this,f,p]
  ·simp[c,f]
 ·by_cases g:s=⟨#[38,45]⟩
  ·subst g;decide+kernel
  by_cases j:s=DZ
  ·subst j;decide+kernel
  have a:∀b,s≠W_ b:=fun b=>sz d;have:rkS.findIdx? (Ln s)=none:=Ydm.2 fun r c=>by
   rw[k];unfold inB;have:s≠r:=fun e=>by
    subst e;simp only[rkS,Ybe,List.not_mem_nil,or_false]at c;rcases c with e | e | e | e | e
    ·exact a _ e
    ·exact g e
    ·exact j e
    ·exact a _ e
    ·exact a _ e
   simp[this,d]
  rw[this];unfold rkM;simp[a,g,j]
theorem TX{α:Type}{q:α→Bool}{r:α}:∀{l:List α} {i:Nat},l[i]?=some r→q r=true→(∀x∈l.take i,q x=false)→l.findIdx? q=some i
 | [],_,h,_,_=>by cases h
 | x::l,0,h,h2,_=>by cases h;simp[YcJ,h2]
 | x::l,i+1,h,h2,h3=>by
   rw[YcJ,h3 x (by simp),TX (l:=l) (i:=i) h h2 fun y a=>h3 y (by simp[a])];rfl
theorem Af5(u:KM H):AZ prog 104 #[.string s] H (.int .i64 (rkM s)):=by
 refine Al.of_vc func104 rfl (call104 _) (L_ (cs:=Ol) u.1 trivial (A8.mk [6] (fun i:Nat=>[C_ i]) (fun i G=>i≤5∧(∀r∈rkS.take i,Ln s r=false)∧A_ (D_ H) H G) (fun i _=>5-i) ⟨0,rfl,by decide,fun r b=>by simp at b,A_.refl _ _⟩ ?_));rintro i G n ⟨E,a,ag⟩;by_cases w:i=5
 ·subst w;(conv=>whnf);refine⟨?_,ag⟩;rw[U9,Ydm.2 (show∀r∈rkS,_ from a)]
 have y:i<5:=by omega
 obtain⟨r,b⟩:∃r,rkS[i]?=some r:=⟨_,List.getElem?_eq_getElem y⟩;have j:r.size≤2:=by
  have:∀r∈rkS,r.size≤2:=by decide
  exact this r (d_ b)
 have z:decide ((i:Int)<5)=true:=s_;have nx:∀{G2},A_ (D_ H) H G2→Ln s r=false→i+1≤5∧(∀r∈rkS.take (i+1),Ln s r=false)∧A_ (D_ H) H G2:=fun h A=>⟨by omega,fun q c=>by
  rw[List.take_add_one,b]at c;rcases q_.1 c with c | c
  ·exact a q c
  ·rw[V_.1 c];exact A,h⟩
 have l:Ln s r=true→rkM s=i:=fun h=>by rw[U9,TX b h a]
 (conv=>whnf);rw[z];refine ixv1 (v:=.string r) T9 (by omega) (by omega) (by rw[Yau,Nat.mul_one];simp[Ol,b]) ?_;by_cases d:s.size=0
 ·have m:(s.toList==(⟨#[]⟩:ByteArray).toList)=true:=Ka.2 (ByteArray.ext (Array.eq_empty_of_size_eq_zero d));have f:Ln s r=false:=by unfold Ln;rw[d];rfl
  repeat ((conv=>whnf);first | rw[m] | rw[R_ i (by omega)])
  exact⟨rfl,i+1,rfl,nx ag f,by omega⟩
 have m:(s.toList==(⟨#[]⟩:ByteArray).toList)=false:=Kb fun e=>d (by rw[e];rfl);(conv=>whnf);rw[m];refine Ak (Sg j d) fun G2 a2=>?_;have g:=ag.trans (a2.mono fun k B=>Ae ag B);have f:Ln s r=(inB r s&&(s.size==2|| !(r.toList==DZ.toList))):=by unfold Ln;rw[bne_iff_ne.2 d];rfl
 have p:((s.size:Int)==2)=(s.size==2):=by rw[YcI];simp;omega
 cases C:inB r s<;>cases e2:(s.size==2)<;>cases t:(r.toList==DZ.toList)
 all_goals
  rw[C,e2,t]at f;rw[e2]at p;have D:(r.toList==(⟨#[62,62]⟩:ByteArray).toList)=_:=t
  repeat ((conv=>whnf);first | rw[p] | rw[D] | rw[R_ i (by omega)])
  first | exact⟨rfl,i+1,rfl,nx g f,by omega⟩ | exact⟨by rw[l f],g⟩
end
def Ex.isL:Ex→Bool
 | .nil=>true
 | .cons _ l=>l.isL
 | _=>false
def ExC(B:Nat→Prop)(H:Aa):Ex→List v_→Prop
 | .nm p s,c=>c=[.iface 142 (.agg #[C_ p,.string s])]
 | .tx p s,c=>c=[.iface 144 (.agg #[C_ p,.string s])]
 | .re p s,c=>c=[.iface 146 (.agg #[C_ p,.string s])]
 | .kd p a,c=>∃v,ExC B H a [v]∧c=[.iface 152 (.agg #[C_ p,v])]
 | .un p s a,c=>∃v,ExC B H a [v]∧c=[.iface 154 (.agg #[C_ p,.string s,v])]
 | .bi p s a b,c=>∃v w,ExC B H a [v]∧ExC B H b [w]∧c=[.iface 157 (.agg #[C_ p,.string s,v,w])]
 | .cl p s l,c=>∃vs b n r,l.isL=true∧ExC B H l vs∧B b∧K_ H b 95 (vs++r)∧vs.length≤n∧n≤maxLen∧c=[.iface 161 (.agg #[C_ p,.string s,.slice (b_ b) vs.length n])]
 | .nil,c=>c=[]
 | .cons a l,c=>∃v vs,ExC B H a [v]∧ExC B H l vs∧c=v::vs
theorem ExC.upT{B B':Nat→Prop}{H H':Aa}(a:∀k l,B k→K_ H k 95 l→B' k)(d:A_ B' H H'):∀{e:Ex} {c:List v_},ExC B H e c→ExC B' H' e c
 | .nm _ _,_,h=>h
 | .tx _ _,_,h=>h
 | .re _ _,_,h=>h
 | .kd _ _,_,⟨v,h,e⟩=>⟨v,h.upT a d,e⟩
 | .un _ _ _,_,⟨v,h,e⟩=>⟨v,h.upT a d,e⟩
 | .bi _ _ _ _,_,⟨v,w,h,h2,e⟩=>⟨v,w,h.upT a d,h2.upT a d,e⟩
 | .cl _ _ _,_,⟨vs,b,n,r,hl,h,hb,hc,h1,h2,e⟩=>⟨vs,b,n,r,hl,h.upT a d,a b _ hb hc,hc.agr d (a b _ hb hc),h1,h2,e⟩
 | .nil,_,h=>h
 | .cons _ _,_,⟨v,vs,h,h2,e⟩=>⟨v,vs,h.upT a d,h2.upT a d,e⟩
theorem ExC.up{B B':Nat→Prop}{H H':Aa}(b:∀k,B k→B' k)(d:A_ B H H'){e:Ex}{c:List v_}(h:ExC B H e c):ExC B' H' e c:=
 (h.upT (B':=B) (fun _ _ a _=>a) d).upT (fun k _ a _=>b k a) (A_.refl _ _)
section
variable{B B' S:Nat→Prop}{H0 H H':Aa}{p o q:Nat}{ts:List Tk}{s:ByteArray}{qs:List Pc}
theorem PM{x:ByteArray}(h:O' B H H p ts (o+1) qs)(e:o≤64)(b:DC ts):Ay prog 160 #[H_ p,.string x] H (fun v H'=>v= .tuple #[]∧isM ts x=true∧O' B H H' p ts.tail o qs) (fun y H'=>isM ts x=false∧y=Bg 60 (hd ts).p∧A_ B H H'):=by
 refine Ay.of_vc func160 rfl (call160 _) (Ab.mk (KE h b) ?_ (fun y H2 a=>a));rintro _ H2 ⟨rfl,c,a⟩
 repeat ((conv=>whnf);first | rw[n_ (x:=((o+1:Nat):Int)-1) (by omega),show((o+1:Nat):Int)-1=(o:Int) by omega] | refine F_ ?_ | refine UG a ?_)
 refine Y8 (o2:=o) a fun H3 d=>?_;(conv=>whnf);exact⟨rfl,c,d⟩
theorem R8{H1:Aa}{k:Tk}{K:Aa→Prop}{l:List v_}(h:O' B H0 H p ts o qs)(r:q=H.size)(c:H1.size=q+1)(d:K_ H1 q 135 l)(g:l.length=3)(e:A_ (fun k=>k<q) H H1)
  (t:∀H2,O' (fun k=>B k∨k=q) H2 H2 p ts o qs→A_ B H0 H2→K_ H2 q 135 (tkL k)→K H2):By prog (Instr.storeAt 135 (H_ q) (.agg (tkL k).toArray)) H1 K:=by
 have⟨a,n,j,u⟩:=h;have w:=(j.box r c d e).rot;refine AD (cs:=tkL k) w 0 rfl rfl (by rw[g];exact J_ _) rfl fun H2 b=>?_;have m:=b.blk 0 rfl;rw[show As l 0 (tkL k)=tkL k from Bq g.symm]at m;exact t H2 ⟨a,n,b.keep,(u.frame (A_.trans (fun k f=>(j.old k f).symm) b.old)).mono fun k f=>.inl f⟩ b.old m
end
def F7(B:Nat→Prop)(H:Aa):Prop:=AL H 0 0 Ol∧B 0
def SyR(B:Nat→Prop)(H:Aa)(p:Nat)(ts:List Tk)(o:Nat)(qs:List Pc)(x:FT ⊕ (Ex×List Tk))(v:v_)(H':Aa):Prop:=
 ∃e us B',x= .inr (e,us)∧DC us∧us.length<ts.length∧(∀k,B k→B' k)∧A_ B H H'∧O' B' H' H' p us o qs∧ExC B' H' e [v]
def SyE(B:Nat→Prop)(H:Aa)(x:FT ⊕ (Ex×List Tk))(y:v_)(H':Aa):Prop:=∃c q,x= .inl (c,q)∧y=Bg c q∧A_ B H H'
structure Big(n:Nat):Prop where
 ex:∀{B:Nat→Prop} {H:Aa} {p:Nat} {ts:List Tk} {o l:Nat} {qs:List Pc},F7 B H→O' B H H p ts o qs→DC ts→o≤64→l≤5→16*ts.length+8≤n+l→
  Ay prog 69 #[H_ p,C_ l] H (SyR B H p ts o qs (pE n (.ex l) o ts)) (SyE B H (pE n (.ex l) o ts))
 po:∀{B:Nat→Prop} {H:Aa} {p:Nat} {ts:List Tk} {o:Nat} {qs:List Pc},F7 B H→O' B H H p ts o qs→DC ts→o≤64→16*ts.length+2≤n→
  Ay prog 103 #[H_ p] H (SyR B H p ts o qs (pE n .po o ts)) (SyE B H (pE n .po o ts))
 at_:∀{B:Nat→Prop} {H:Aa} {p:Nat} {ts:List Tk} {o:Nat} {qs:List Pc},F7 B H→O' B H H p ts o qs→DC ts→o≤64→16*ts.length+1≤n→
  Ay prog 138 #[H_ p] H (SyR B H p ts o qs (pE n .at_ o ts)) (SyE B H (pE n .at_ o ts))
section
variable{B B' S:Nat→Prop}{H0 H H':Aa}{p o q n l:Nat}{ts:List Tk}{s:ByteArray}{qs:List Pc}
theorem F7.up(h:F7 B H)(a:∀k,B k→B' k)(b:A_ B H H'):F7 B' H':=⟨h.1.eq (b _ h.2),a _ h.2⟩
theorem F7.rk(h:F7 B H)(b:O' B H0 H p ts o qs):KM H:=by
 obtain⟨a,n,c,-⟩:=b;exact⟨h.1,c.up h.2⟩
theorem ExC.ifc:∀{e:Ex} {v:v_},ExC B H e [v]→∃t x,v= .iface t x:=by
 intro e v h;cases e with
 | nm p s=>cases h;exact⟨_,_,rfl⟩
 | tx p s=>cases h;exact⟨_,_,rfl⟩
 | re p s=>cases h;exact⟨_,_,rfl⟩
 | kd p a=>obtain⟨w,-,h⟩:=h;cases h;exact⟨_,_,rfl⟩
 | un p s a=>obtain⟨w,-,h⟩:=h;cases h;exact⟨_,_,rfl⟩
 | bi p s a b=>obtain⟨w,u,-,-,h⟩:=h;cases h;exact⟨_,_,rfl⟩
 | cl p s l=>obtain⟨vs,b,n,r,-,-,-,-,-,-,h⟩:=h;cases h;exact⟨_,_,rfl⟩
 | nil=>cases h
 | cons a l=>obtain⟨w,vs,c,-,h⟩:=h;cases h;exact c.ifc
theorem Ai9(ih:∀m,m<n→Big m)(T:F7 B H)(h:O' B H H p ts o qs)(he:DC ts)(V:o≤64)(hl:l≤5)(hn:16*ts.length+8≤n+l):
  Ay prog 69 #[H_ p,C_ l] H (SyR B H p ts o qs (pE n (.ex l) o ts)) (SyE B H (pE n (.ex l) o ts)):=by
 refine Ay.of_vc func69 rfl (call69 _) ?_;obtain⟨m,rfl⟩:∃m,n=m+1:=⟨n-1,by omega⟩;have im:=ih m (Ydf m);by_cases N:l=5
 ·subst N;refine Ab.mk (im.po T h he V (by omega)) ?_ (fun y H1 u=>u);intro v H1 u;(conv=>whnf);exact u
 have d1:((l:Int)==5)=false:=CV N;(conv=>whnf);rw[d1];(conv=>whnf);rw[R_ l (by omega)];rw[show pE (m+1) (.ex l) o ts=(match pE m (.ex (l+1)) o ts with
  | .inl e=>.inl e
  | .inr (a,d)=>pE m (.xl l a) o d)from G_ N]
 refine Ab.mk (im.ex (l:=l+1) T h he V (by omega) (by omega)) ?_ ?_
 rotate_left
 ·rintro y H1 ⟨c,q,K,rfl,O⟩;exact⟨c,q,by rw[K],rfl,O⟩
 rintro v H1 ⟨e,d,B1,K,C,D,g,E,u,z⟩;rw[K];obtain⟨F,A⟩:∃F,pE m (.xl l e) o d=F:=⟨_,rfl⟩;show _;simp only[A];refine CA.mk [5] (fun x:v_×List Tk=>match x with | (v,_)=>[v]) (fun x G=>match x with | (v,d)=>∃e B1 k,k≤m∧16*d.length≤k∧F=pE k (.xl l e) o d∧DC d∧d.length<ts.length∧(∀k,B k→B1 k)∧A_ B H G∧O' B1 G G p d o qs∧ExC B1 G e [v]) (fun x _=>match x with | (_,d)=>d.length) ⟨(v,d),rfl,e,B1,m,J_ _,by omega,A.symm,C,D,g,E,u,z⟩ ?_;clear A K z u E g D C;rintro⟨v,d⟩ G a9 ⟨e,B1,k,t,P,A,C,D,g,ag,u,z⟩;have W:F7 B1 G:=T.up g ag;obtain⟨k,rfl⟩:∃j,k=j+1:=⟨k-1,by have⟨ab,e'⟩:=C.pos;rw[e']at P;simp at P;omega⟩;rw[show pE (k+1) (.xl l e) o d=(if(hd d).k=4∧rkM (hd d).s=l then(match pE k (.ex (l+1)) o d.tail with
     | .inl e=>.inl e
     | .inr (b,vs)=>pE k (.xl l (.bi (hd d).p (hd d).s e b)) o vs)else .inr (e,d))from rfl]at A
 refine Ab.of (Ak (Fx u C) fun G1 a1=>?_);have h2:=u.call a1;refine OX rfl ?_;have out:∀{G2},A_ (D_ G) G G2→¬((hd d).k=4∧rkM (hd d).s=l)→SyR B H p ts o qs F v G2:=fun{G2} O hc=>by
  rw[G_ hc]at A;exact⟨e,d,B1,A,C,D,g,ag.trans ((u.call O).old.mono g),(u.call O).rb,z.up (fun _ h=>h) (u.call O).old⟩
 by_cases I:(hd d).k=4
 ·have X:(((hd d).k:Int)==4)=true:=by rw[I];rfl
  (conv=>whnf);rw[X];refine Ab.of (Ak (Fx h2 C) fun G2 a2=>?_);have h3:=h2.call a2;have L:=a1.trans (a2.mono fun k t=>Ae a1 t);refine OX rfl (Ab.of (Ak (Af5 ((W.rk u).agr L)) fun G3 a3=>?_));have h4:=h3.call a3;have Y:=L.trans (a3.mono fun k t=>Ae L t);by_cases U:rkM (hd d).s=l
  ·have Z:(rkM (hd d).s==(l:Int))=true:=by rw[U];exact beq_self_eq_true _
   rw[I_ ⟨I,U⟩]at A;(conv=>whnf);rw[Z];refine Ab.of (Aj.mk (Hc h4 C) ?_);rintro _ G4 ⟨rfl,N⟩;have⟨ht,ad⟩:=C.tail (by omega);refine Aw (.agg (tkL ⟨0,0,⟨#[]⟩⟩).toArray) (tkL ⟨0,0,⟨#[]⟩⟩) Li rfl ?_;intro q G5 hq a0 a5 E;refine R8 N hq a0 a5 rfl E (k:=hd d) fun G6 h6 a6 a8=>(AE.held (fun k=>k=q) [11] (sq [0,1,2,3,4,5,6,7] (.f 8 (sq [9,10] (.f 11 .e)))) (AQ _ _) rfl (by kernel_rfl) ?_);have J:∀k,B k→(B1 k∨k=q):=fun k t=>.inl (g k t);have M:A_ B H G6:=ag.trans (a6.mono g)
   repeat ((conv=>whnf);first | rw[R_ l (by omega)] | refine F_ ?_ | refine B_ (a8.cellE rfl) rfl ?_)
   refine Ab.mk ((ih k (by omega)).ex (l:=l+1) (T.up J M) h6 ht V (by omega) (by omega)) ?_ ?_
   ·rintro w G7 ⟨b,ws,B7,K,hw,ae,Q,R,h7,S⟩;rw[K]at A;obtain⟨t1,x1,rfl⟩:=z.ifc;obtain⟨t2,x2,rfl⟩:=S.ifc;refine⟨R.mono fun k t=>.inr t,?_⟩;refine Ah underlying157 rfl _ rfl [C_ ((hd d).p:Int),.string (hd d).s,.iface t1 x1,.iface t2 x2] (by kernel_rfl) ?_;(conv=>whnf);exact⟨rfl,(_,ws),rfl,⟨.bi (hd d).p (hd d).s e b,B7,k,by omega,by omega,A,hw,by omega,fun k t=>Q k (J k t),M.trans (R.mono J),h7,_,_,z.up (fun k t=>Q k (.inl t)) (a6.trans (R.mono fun k t=>.inl t)),S,rfl⟩,by show ws.length<d.length;omega⟩
   ·rintro y G7 ⟨c,r,K,rfl,R⟩;rw[K]at A;exact⟨c,r,A,rfl,M.trans (R.mono J)⟩
  ·have Z:(rkM (hd d).s==(l:Int))=false:=beq_eq_false_iff_ne.2 U;(conv=>whnf);rw[Z];(conv=>whnf);exact out Y fun h=>U h.2
 ·have X:(((hd d).k:Int)==4)=false:=CV I;(conv=>whnf);rw[X];(conv=>whnf);exact out a1 fun h=>I h.1
theorem AiA(M:∀m,m<n→Big m)(N:F7 B H)(h:O' B H H p ts o qs)(O:DC ts)(P:o≤64)(Z:16*ts.length+2≤n):
  Ay prog 103 #[H_ p] H (SyR B H p ts o qs (pE n .po o ts)) (SyE B H (pE n .po o ts)):=by
 refine Ay.of_vc func103 rfl (call103 _) ?_;obtain⟨m,rfl⟩:∃m,n=m+1:=⟨n-1,by omega⟩;rw[show pE (m+1) .po o ts=(match pE m .at_ o ts with
  | .inl e=>.inl e
  | .inr (a,b)=>pE m (.pl a) o b)from rfl]
 refine Ab.mk ((M m (Ydf m)).at_ N h O P (by omega)) ?_ ?_
 rotate_left
 ·rintro y H1 ⟨c,q,w,rfl,Q⟩;exact⟨c,q,by rw[w],rfl,Q⟩
 rintro v H1 ⟨e,b,B1,w,t,g,d,l,z,f⟩;rw[w];obtain⟨F,r⟩:∃F,pE m (.pl e) o b=F:=⟨_,rfl⟩;show _;simp only[r];refine CA.mk [3] (fun x:v_×List Tk=>match x with | (v,_)=>[v]) (fun x G=>match x with | (v,b)=>∃e B1 k,b.length<k∧F=pE k (.pl e) o b∧DC b∧b.length<ts.length∧(∀k,B k→B1 k)∧A_ B H G∧O' B1 G G p b o qs∧ExC B1 G e [v]) (fun x _=>match x with | (_,b)=>b.length) ⟨(v,b),rfl,e,B1,m,by omega,r.symm,t,g,d,l,z,f⟩ ?_;clear r w f z l d g t;rintro⟨v,b⟩ G I ⟨e,B1,k,R,r,t,g,d,ag,z,f⟩;obtain⟨k,rfl⟩:∃j,k=j+1:=⟨k-1,by omega⟩;rw[show pE (k+1) (.pl e) o b=(if isM b (W_ 42)|| (isM b (W_ 43)|| isM b (W_ 63))then pE k (.pl (.un (hd b).p (hd b).s e)) o b.tail else .inr (e,b))from rfl]at r;have go:(isM b (W_ 42)|| (isM b (W_ 43)|| isM b (W_ 63)))=true→(hd b).k≠0:=fun h=>by
  simp only[Yar]at h;rcases h with h | h | h<;>(have:=I8 h;omega)
 have u:O' B1 G G p b o qs:=z;cases J:isM b (W_ 42)<;>cases e2:isM b (W_ 43)<;>cases K:isM b (W_ 63)
 all_goals
  rw[J,e2,K]at r go
  repeat (refine Ab.of (Ak (Y7 u t) fun G2 a2=>?_);(first | rw[J] | rw[e2] | rw[K]);have u:=u.call a2)
  first
   | ((conv=>whnf);exact⟨e,b,B1,r,t,g,d,ag.trans (u.old.mono d),u.rb,f.up (fun _ h=>h) u.old⟩)
   | (have⟨S,T⟩:=t.tail (go rfl)
      refine Ab.of (Aj.mk (Hc u t) ?_);rintro _ G4 ⟨rfl,U⟩;refine Aw (.agg (tkL ⟨0,0,⟨#[]⟩⟩).toArray) (tkL ⟨0,0,⟨#[]⟩⟩) Li rfl ?_;intro q G5 V A C l;refine R8 U V A C rfl l (k:=hd b) fun G6 W L D=>?_
      repeat ((conv=>whnf);first | refine F_ ?_ | refine B_ (D.cellE rfl) trivial ?_)
      obtain⟨X,Y,rfl⟩:=f.ifc;refine Ah underlying154 rfl _ rfl [C_ ((hd b).p:Int),.string (hd b).s,.iface X Y] (by kernel_rfl) ?_;(conv=>whnf);exact⟨rfl,(_,b.tail),rfl,⟨.un (hd b).p (hd b).s e,_,k,by omega,r,S,by omega,fun k E=>.inl (d k E),ag.trans (L.mono d),W,_,f.up (fun k E=>.inl E) L,rfl⟩,by show b.tail.length<b.length;omega⟩)
end
def Lp:Ty v_ where
 size:=1
 rep _ _ cs v:=cs=[v]∧v.oneCell'=true
 len h:=by rw[h.1];rfl
 frame h _:=h
 mono h _:=h
theorem O3{S:Nat→Prop}{H:Aa}:∀{vs cs:List v_},Lp.reps S H cs vs→cs=vs
 | [],_,h=>h
 | v::vs,_,⟨c,r,e,h,h2⟩=>by rw[e,h.1,O3 h2];rfl
section
variable{B B' S:Nat→Prop}{H0 H H':Aa}{p o q n l:Nat}{ts:List Tk}{s:ByteArray}{qs:List Pc}
theorem ExC.snoc{a:Ex}{v:v_}(b:ExC B H a [v]):∀{l:Ex} {vs:List v_},l.isL=true→ExC B H l vs→ExC B H (l.snoc a) (vs++[v])∧(l.snoc a).isL=true
 | .nil,_,_,h=>by cases h;exact⟨⟨v,[],b,rfl,rfl⟩,rfl⟩
 | .cons x l,_,hl,⟨w,vs,h,h2,e⟩=>by
   subst e;have⟨c,d⟩:=ExC.snoc b (l:=l) hl h2;exact⟨⟨w,vs++[v],h,c,rfl⟩,d⟩
abbrev caL(p:Nat)(s:ByteArray)(a:Option Addr)(k n:Nat):List v_:=[C_ p,.string s,.slice a k n]
abbrev pAr(a:Option Addr)(n:Nat)(vs:List v_):Pc:=pS Lp 95 a vs.length n vs
theorem AdJ:(prog.info? 161).bind (·.zero)=some (.agg (caL 0 ⟨#[]⟩ none 0 0).toArray):=by kernel_rfl
theorem GI{b:Nat}{e:x_}{l:List v_}(h:K_ H b e l)(a:K_ H' b e l):A_ (fun k=>k=b) H H':=fun k c=>by rw[c];exact a.trans h.symm
theorem Ws(s:ByteArray):arM s≤3:=by
 unfold arM
 repeat' split
 all_goals decide
theorem AbK{m:Nat}(ih:∀k,k≤m→Big k)(hR:F7 B H)(h:O' B H H p ts o qs)(he:DC ts)(ho:o≤64)(d:(hd ts).k=1)(ap:0<arM (hd ts).s)(hn:16*ts.length≤m):
  Ay prog 158 #[H_ p] H
   (SyR B H p ts o qs (inM o ts.tail (W_ 40) (W_ 41) (pE m (.ar 0 (arM (hd ts).s).toNat .nil) (o+1) ts.tail.tail) (.cl (hd ts).p (hd ts).s)))
   (SyE B H (inM o ts.tail (W_ 40) (W_ 41) (pE m (.ar 0 (arM (hd ts).s).toNat .nil) (o+1) ts.tail.tail) (.cl (hd ts).p (hd ts).s))):=by
 have⟨ht,bd⟩:=he.tail (by omega);refine Ay.of_vc func158 rfl (call158 _) (Ab.of (Aj.mk (Hc h he) ?_));rintro _ H1 ⟨rfl,W⟩;refine Aw (.agg (tkL ⟨0,0,⟨#[]⟩⟩).toArray) (tkL ⟨0,0,⟨#[]⟩⟩) Li rfl ?_;intro q H2 hq D A I;refine R8 W hq D A rfl I (k:=hd ts) fun H3 h3 a3 T=>?_;clear hq D A I
 repeat ((conv=>whnf);first | refine F_ ?_ | refine B_ (T.cellE rfl) trivial ?_)
 refine Ah underlying161 rfl _ rfl (caL (hd ts).p (hd ts).s none 0 0) (by kernel_rfl) (Aw (.agg (caL 0 ⟨#[]⟩ none 0 0).toArray) (caL 0 ⟨#[]⟩ none 0 0) AdJ rfl ?_);intro c H4 hq D A I;have⟨a0,n0,ab,ad⟩:=h3;have s4:=(ab.box hq D A I).rot;refine AD (cs:=caL (hd ts).p (hd ts).s none 0 0) s4 0 rfl rfl (J_ _) rfl fun H5 S=>?_;have h5:O' (fun k=>B k∨k=q) H5 H5 p ts.tail o (pAr none 0 []::pB 161 c (caL (hd ts).p (hd ts).s none 0 0)::qs):=⟨a0,n0,(S.swp.nils Lp 95).rot.swp.rebase,ad.frame (A_.trans (fun k d=>rfl) S.old)⟩;have a5:A_ B H H5:=a3.trans (S.old.mono fun k d=>.inl d);have ae:K_ H5 q 135 (tkL (hd ts)):=T.agr S.old (.inr rfl);clear hq D A I s4 S ad ab W;obtain⟨X,C⟩:∃X,X=inM o ts.tail (W_ 40) (W_ 41) (pE m (.ar 0 (arM (hd ts).s).toNat .nil) (o+1) ts.tail.tail) (.cl (hd ts).p (hd ts).s):=⟨_,rfl⟩;rw[←C];unfold inM at C;refine Ab.mk (PL ho h5 ht) ?_ ?_
 rotate_left
 ·rintro y H6 ⟨rfl,hm,Y⟩;have Y:A_ B H H6:=a5.trans (Y.mono fun k d=>.inl d);cases K:isM ts.tail (W_ 40)with
  | false=>exact⟨60,_,by rw[C,I_ K],by rw[G_ nofun],Y⟩
  | true=>exact⟨23,_,by rw[C,G_ (by rw[K];exact nofun),I_ (hm K)],by rw[I_ rfl],Y⟩
 rintro _ H6 ⟨rfl,hm,be,K⟩;have⟨aq,b7⟩:=ht.tail (by have:=I8 hm;omega);rw[G_ (by rw[hm];exact nofun),G_ (by omega)]at C;have L:K_ H6 q 135 (tkL (hd ts)):=ae.agr K.old (.inr rfl);have Y:A_ B H H6:=a5.trans (K.old.mono fun k d=>.inl d)
 repeat ((conv=>whnf);first | refine F_ ?_ | refine B_ (L.cellE rfl) trivial ?_)
 refine Ab.of (Ak Jo fun H7 a7=>?_);have h7:=(K.call a7).rb;have bf:=L.agr a7 L.lt;have a7:A_ B H H7:=Y.trans (a7.mono fun k d=>by obtain⟨a,n,E,-⟩:=K;exact E.up (.inl d));obtain⟨M,hM⟩:∃M:Nat,arM (hd ts).s=(M:Int):=Yav (by omega);have bh:M≤3:=by have:=Ws (hd ts).s;omega
 rw[hM]at C ap ⊢;rw[Yau]at C;obtain⟨F,u⟩:∃F,pE m (.ar 0 M .nil) (o+1) ts.tail.tail=F:=⟨_,rfl⟩;rw[u]at C;clear K L h5 ae a3 a5 T h;refine CA.mk [18] (fun x:Nat×List Tk=>match x with | (k,_)=>[C_ k]) (fun x G=>match x with | (k,g)=>∃l B1 f vs a n,k≤M∧16*g.length+9≤f∧f≤m∧F=pE f (.ar k M l) (o+1) g∧DC g∧g.length<ts.length∧(∀k,(B k∨k=q)→B1 k)∧A_ (fun k=>B k∨k=q) H7 G∧O' B1 G G p g (o+1) (pAr a n vs::pB 161 c (caL (hd ts).p (hd ts).s a vs.length n)::qs)∧ExC B1 G l vs∧l.isL=true∧vs.length=k) (fun x _=>match x with | (_,g)=>g.length) ⟨(0,ts.tail.tail),rfl,.nil,_,m,[],none,0,l_ _,by omega,J_ _,u.symm,aq,by omega,fun k d=>d,A_.refl _ _,h7,rfl,rfl,rfl⟩ ?_;rintro⟨k,g⟩ G b8 ⟨l,B1,f,vs,a,n,bj,hf,bn,u,hu,bo,t,ag,W,ah,hL,bp⟩;obtain⟨f,rfl⟩:∃j,f=j+1:=⟨f-1,by omega⟩;rw[show pE (f+1) (.ar k M l) (o+1) g=(if k<M then(if 0<k∧isM g (W_ 44)=false then .inl (60,(hd g).p)else
     match pE f (.ex 0) (o+1) (if 0<k then g.tail else g)with
     | .inl e=>.inl e
     | .inr (a,g)=>pE f (.ar (k+1) M (l.snoc a)) (o+1) g)else .inr (l,g))from rfl]at u
 have N:A_ B H G:=a7.trans (ag.mono fun k d=>.inl d);by_cases ai:k<M
 ·have d1:decide ((k:Int)<(M:Int))=true:=s_;rw[I_ ai]at u;(conv=>whnf);rw[d1];refine Ao.cut [] (fun _:List Tk=>[]) (fun J G1=>DC J∧J.length≤g.length∧O' B1 G G1 p J (o+1) (pAr a n vs::pB 161 c (caL (hd ts).p (hd ts).s a vs.length n)::qs)∧F=match pE f (.ex 0) (o+1) J with
   | .inl e=>.inl e
   | .inr (a,g)=>pE f (.ar (k+1) M (l.snoc a)) (o+1) g) ?_ ?_
  ·by_cases O:0<k
   ·have d2:decide ((0:Int)<(k:Int))=true:=s_;(conv=>whnf);rw[d2];refine Ab.mk (KE W hu) ?_ ?_
    ·rintro _ H8 ⟨rfl,z,P⟩;have⟨U,aj⟩:=hu.tail (by have:=I8 z;omega);rw[G_ (by rw[z];exact fun h=>absurd h.2 nofun),I_ O]at u;(conv=>whnf);exact⟨rfl,g.tail,rfl,U,by omega,P,u⟩
    ·rintro y H8 ⟨z,rfl,Z⟩;rw[I_ ⟨O,z⟩]at u;rw[u]at C;exact⟨60,_,C,rfl,N.trans (Z.mono fun k d=>t k (.inl d))⟩
   ·have d2:decide ((0:Int)<(k:Int))=false:=m_;rw[G_ fun h=>O h.1,G_ O]at u;(conv=>whnf);rw[d2];(conv=>whnf);exact⟨rfl,g,rfl,hu,J_ _,W,u⟩
  clear u;rintro J G1 au ⟨aw,b9,P,u⟩;have ak:A_ B H G1:=N.trans (P.old.mono fun k d=>t k (.inl d));have Q:K_ G1 c 161 (caL (hd ts).p (hd ts).s a vs.length n):=by have⟨Z,n8,E,sl⟩:=P;exact E.blk 2 rfl
  refine AE.held (fun k=>k=c) [7] (sq [0,1,2] (.f 3 (.f 4 (.f 5 (sq [6] (.f 7 .e)))))) (AQ _ _) rfl (by kernel_rfl) ?_
  repeat ((conv=>whnf);first | refine F_ ?_ | refine B_ (Q.cellE rfl) rfl ?_)
  refine Ab.mk ((ih f (by omega)).ex (l:=0) (hR.up (fun k d=>t k (.inl d)) ak) P.rb aw (by omega) (by omega) (by omega)) ?_ ?_
  rotate_left
  ·rintro y G2 ⟨c2,q2,hx,rfl,a9⟩;rw[hx]at u;rw[u]at C;exact⟨c2,q2,C,rfl,ak.trans (a9.mono fun k d=>t k (.inl d))⟩
  rintro w G2 ⟨e2,ws,B2,hx,hw,bq,V,a9,⟨a2,n2,E,sl⟩,am⟩;rw[hx]at u;refine⟨GI Q (E.blk 2 rfl),?_⟩;obtain⟨t1,x1,rfl⟩:=am.ifc;refine Az UB [.iface t1 x1] rfl rfl (by decide) (by decide) ?_;intro y H9 hy D A ay;have ao:=E.skip hy ay;refine⟨GI Q (ao.blk 2 rfl),?_⟩;refine GH ao 1 UB rfl A ⟨rfl,rfl⟩ rfl (by omega) (by decide) fun a5 n5 G5 S _=>(⟨GI Q (S.blk 2 rfl),?_⟩);refine F_ ?_;refine Bh S 2 rfl (by simp) rfl fun G6 s6=>?_;(conv=>whnf);rw[R_ k (by omega)];have⟨az,b4⟩:=ExC.snoc am hL (ah.up V ((P.old).trans a9));have e1:(vs++[Value.iface t1 x1]).length=vs.length+1:=by simp
  refine⟨rfl,(k+1,ws),by simp,⟨l.snoc e2,B2,f,vs++[.iface t1 x1],a5,n5,by omega,by omega,by omega,u,hw,by omega,fun k d=>V k (t k d),?_,⟨a2,n2,?_,sl.frame s6.old⟩,az.up (fun _ h=>h) s6.old,b4,by omega⟩,by show ws.length<g.length;omega⟩
  ·exact((ag.trans (P.old.mono t)).trans (a9.mono t)).trans (s6.old.mono fun k d=>V k (t k d))
  ·unfold pAr;rw[e1];exact s6.rebase
 ·have d1:decide ((k:Int)<(M:Int))=false:=m_;rw[G_ ai]at u;rw[u]at C;(conv=>whnf);rw[d1];refine Ab.mk (PM W ho hu) ?_ ?_
  rotate_left
  ·rintro y H8 ⟨z,rfl,Z⟩;exact⟨60,_,by rw[C];exact G_ (by rw[z];exact nofun),rfl,N.trans (Z.mono fun k d=>t k (.inl d))⟩
  rintro _ H8 ⟨rfl,z,P⟩;have⟨U,aj⟩:=hu.tail (by have:=I8 z;omega);have⟨Z,n8,E,sl⟩:=P;refine L_ (cs:=caL (hd ts).p (hd ts).s a vs.length n) ((E.blk 2 rfl).cells fun j v hv=>by rw[P_];exact hv) trivial ?_;(conv=>whnf);have b5:0<vs.length:=by omega
  obtain⟨b,rfl⟩:=E.adr 1 rfl b5;obtain⟨cs,⟨br,⟨R,-⟩ | ⟨b',cap,r,R,-,hb,g1,g2,g3,g4⟩⟩,hr⟩:=(E.at_ 1 rfl).1
  ·cases R
  obtain⟨rfl,rfl⟩:b'=b∧cap=n:=by injection R with R _ h5;injection R with R;injection R with R;exact⟨R.symm,h5.symm⟩
  have b6:=O3 hr;subst b6;rw[show cs.length*Lp.size=cs.length from Nat.mul_one _]at g4;rw[←Ybb cs.length r,g4]at hb;refine⟨.cl (hd ts).p (hd ts).s l,g.tail,_,C.trans (I_ z),U,by omega,fun k d=>.inl (.inl (t k (.inl d))),N.trans (E.old.mono fun k d=>t k (.inl d)),⟨Z,n8,(E.swp.keep.swp.keep),(sl.mono fun k d=>.inl (.inl d))⟩,_,_,_,_,hL,ah.up (fun k d=>.inl (.inl d)) E.old,.inl (.inr (.inl ⟨_,_,_,rfl⟩)),hb,g1,g2,rfl⟩
end
section
variable{B B' S:Nat→Prop}{H0 H H':Aa}{p o q n l:Nat}{ts:List Tk}{s:ByteArray}{qs:List Pc}
theorem Ai8{m:Nat}(ih:∀k,k≤m→Big k)(hR:F7 B H)(h:O' B H H p ts o qs)(t:DC ts)(M:o≤64)(hn:16*ts.length≤m):
  Ay prog 138 #[H_ p] H (SyR B H p ts o qs (pE (m+1) .at_ o ts)) (SyE B H (pE (m+1) .at_ o ts)):=by
 refine Ay.of_vc func138 rfl (call138 _) (Ab.of (Ak (Fx h t) fun H1 a1=>?_));have h1:=h.call a1;refine Aw (.agg (tkL ⟨0,0,⟨#[]⟩⟩).toArray) (tkL ⟨0,0,⟨#[]⟩⟩) Li rfl ?_;intro q H2 hq N O P;refine R8 h1 hq N O rfl P (k:=hd ts) fun H3 b a3 Q=>?_;clear hq N O P h1 a1;have d:∀k,B k→(B k∨k=q):=fun _ h=>.inl h;obtain⟨X,a⟩:∃X,X=pE (m+1) .at_ o ts:=⟨_,rfl⟩;rw[←a];rw[show pE (m+1) .at_ o ts=(if(hd ts).k=2 then .inr (.tx (hd ts).p (hd ts).s,ts.tail)
  else if(hd ts).k=3 then .inr (.re (hd ts).p (hd ts).s,ts.tail)
  else if(hd ts).k=1∧0<arM (hd ts).s then inM o ts.tail (W_ 40) (W_ 41) (pE m (.ar 0 (arM (hd ts).s).toNat .nil) (o+1) ts.tail.tail) (.cl (hd ts).p (hd ts).s)
  else if(hd ts).k=1∧arM (hd ts).s=0 then .inr (.nm (hd ts).p (hd ts).s,ts.tail)
  else if isM ts (W_ 123)then inM o ts (W_ 123) (W_ 125) (pE m (.ex 0) (o+1) ts.tail) (.kd (hd ts).p)
  else if isM ts (W_ 40)then inM o ts (W_ 40) (W_ 41) (pE m (.ex 0) (o+1) ts.tail) id
  else .inl (60,(hd ts).p))from rfl]at a
 have fin:∀{G v e},(hd ts).k≠0→X= .inr (e,ts.tail)→O' (fun k=>B k∨k=q) H3 G p ts.tail o qs→ExC (fun k=>B k∨k=q) G e [v]→SyR B H p ts o qs X v G:=fun n a f A=>by
  have⟨R,S⟩:=t.tail n;exact⟨_,_,_,a,R,by omega,d,a3.trans (f.old.mono d),f.rb,A⟩
 have g:∀{G D o},O' (fun k=>B k∨k=q) H3 G p D o qs→K_ G q 135 (tkL (hd ts)):=fun h=>Q.agr h.old (.inr rfl)
 repeat ((conv=>whnf);first | refine Ao.run ?_ | refine F_ ?_ | refine B_ (Q.cellE rfl) trivial ?_)
 by_cases W:(hd ts).k=2
 ·have z:(((hd ts).k:Int)==2)=true:=by rw[W];rfl
  rw[I_ W]at a;(conv=>whnf);rw[z];refine Ab.of (Aj.mk (Hc b t) ?_);rintro _ H4 ⟨rfl,f⟩
  repeat ((conv=>whnf);first | refine F_ ?_ | refine B_ ((g f).cellE rfl) trivial ?_)
  refine Ah underlying144 rfl _ rfl [C_ ((hd ts).p:Int),.string (hd ts).s] (by kernel_rfl) ?_;(conv=>whnf);exact fin (by omega) a f rfl
 have d2:(((hd ts).k:Int)==2)=false:=CV W;rw[G_ W]at a;(conv=>whnf);rw[d2]
 repeat ((conv=>whnf);first | refine Ao.run ?_ | refine F_ ?_ | refine B_ ((g b).cellE rfl) trivial ?_)
 by_cases Y:(hd ts).k=3
 ·have z:(((hd ts).k:Int)==3)=true:=by rw[Y];rfl
  rw[I_ Y]at a;(conv=>whnf);rw[z];refine Ab.of (Aj.mk (Hc b t) ?_);rintro _ H4 ⟨rfl,f⟩
  repeat ((conv=>whnf);first | refine F_ ?_ | refine B_ ((g f).cellE rfl) trivial ?_)
  refine Ah underlying146 rfl _ rfl [C_ ((hd ts).p:Int),.string (hd ts).s] (by kernel_rfl) ?_;(conv=>whnf);exact fin (by omega) a f rfl
 have d3:(((hd ts).k:Int)==3)=false:=CV Y;rw[G_ Y]at a;(conv=>whnf);rw[d3]
 repeat ((conv=>whnf);first | refine Ao.run ?_ | refine F_ ?_ | refine B_ ((g b).cellE rfl) trivial ?_)
 by_cases E:(hd ts).k=1∧0<arM (hd ts).s
 ·have z:(((hd ts).k:Int)==1)=true:=by rw[E.1];rfl
  have T:decide ((0:Int)<arM (hd ts).s)=true:=g_ E.2;rw[I_ E]at a
  repeat ((conv=>whnf);first | refine Ao.run ?_ | rw[z] | rw[T] | refine F_ ?_ | refine B_ ((g b).cellE rfl) trivial ?_ | (refine Ab.of (Ak Jo fun G1 a1=>?_);have b:=b.call a1))
  refine Ab.mk (AbK ih (hR.up d (a3.trans (b.old.mono d))) b.rb t M E.1 E.2 hn) ?_ ?_
  ·rintro v H4 ⟨e,D,B4,w,F,I,a0,a4,f,A⟩;(conv=>whnf);exact⟨e,D,B4,a.trans w,F,I,fun k n=>a0 k (d k n),(a3.trans (b.old.mono d)).trans (a4.mono d),f,A⟩
  ·rintro y H4 ⟨c,r,w,rfl,a4⟩;exact⟨c,r,a.trans w,rfl,(a3.trans (b.old.mono d)).trans (a4.mono d)⟩
 rw[G_ E]at a;by_cases kB:(hd ts).k=1∧arM (hd ts).s=0
 ·have z:(((hd ts).k:Int)==1)=true:=by rw[kB.1];rfl
  have T:decide ((0:Int)<arM (hd ts).s)=false:=by rw[kB.2];rfl
  have d5:(arM (hd ts).s==0)=true:=by rw[kB.2];rfl
  rw[I_ kB]at a
  repeat ((conv=>whnf);first | refine Ao.run ?_ | rw[z] | rw[T] | rw[d5] | refine F_ ?_ | refine B_ ((g b).cellE rfl) trivial ?_ | (refine Ab.of (Ak Jo fun G1 a1=>?_);have b:=b.call a1))
  refine Ab.of (Aj.mk (Hc b t) ?_);rintro _ H4 ⟨rfl,f⟩
  repeat ((conv=>whnf);first | refine F_ ?_ | refine B_ ((g f).cellE rfl) trivial ?_)
  refine Ah underlying142 rfl _ rfl [C_ ((hd ts).p:Int),.string (hd ts).s] (by kernel_rfl) ?_;(conv=>whnf);exact fin (by omega) a f rfl
 rw[G_ kB]at a;by_cases Z:(hd ts).k=1
 all_goals
  have z:(hd ts).k≠1→(((hd ts).k:Int)==1)=false:=CV;have a7:(hd ts).k=1→(((hd ts).k:Int)==1)=true:=fun h=>by rw[h];rfl
  have T:(hd ts).k=1→decide ((0:Int)<arM (hd ts).s)=false:=fun h=>a_ fun h2=>E ⟨h,h2⟩;have d5:(hd ts).k=1→(arM (hd ts).s==0)=false:=fun h=>beq_eq_false_iff_ne.2 fun h2=>kB ⟨h,h2⟩
  repeat ((conv=>whnf);first | refine Ao.run ?_ | rw[z Z] | rw[a7 Z] | rw[T Z] | rw[d5 Z] | refine F_ ?_ | refine B_ ((g b).cellE rfl) trivial ?_ | (refine Ab.of (Ak Jo fun G1 a1=>?_);have b:=b.call a1))
  refine Ab.of (Ak (Y7 b t) fun G1 a1=>?_);have b:=b.call a1;cases J:isM ts (W_ 123)with
  | true=>
    rw[J,I_ rfl]at a;unfold inM at a;refine Ab.mk (PL M b.rb t) ?_ ?_
    rotate_left
    ·rintro y H4 ⟨rfl,u,a4⟩;rw[G_ (by rw[J];exact nofun),I_ (u J)]at a;exact⟨23,_,a,by rw[I_ J],a3.trans ((b.old.mono d).trans (a4.mono d))⟩
    rintro _ H4 ⟨rfl,-,a8,f⟩;have⟨R,S⟩:=t.tail (by have:=I8 J;omega);rw[G_ (by rw[J];exact nofun),G_ (by omega)]at a;have a4:A_ B H H4:=a3.trans ((b.thn f).old.mono d);refine Ab.mk ((ih m (J_ m)).ex (l:=0) (hR.up d a4) f.rb R (by omega) (by omega) (by omega)) ?_ ?_
    rotate_left
    ·rintro y H5 ⟨c,r,w,rfl,x⟩;rw[w]at a;exact⟨c,r,a,rfl,a4.trans (x.mono d)⟩
    rintro v H5 ⟨e,D,B5,w,F,I,j,x,h5,A⟩;rw[w]at a;refine Ab.mk (PM h5 M F) ?_ ?_
    rotate_left
    ·rintro y H6 ⟨u,rfl,K⟩;exact⟨60,_,a.trans (G_ (by rw[u];exact nofun)),rfl,a4.trans ((x.mono d).trans (K.mono fun k n=>j k (d k n)))⟩
    rintro _ H6 ⟨rfl,u,C⟩;have⟨L,U⟩:=F.tail (by have:=I8 u;omega);have K:A_ B H H6:=a4.trans ((x.mono d).trans (C.old.mono fun k n=>j k (d k n)));have V:K_ H6 q 135 (tkL (hd ts)):=(g b).agr (((f.old).trans x).trans (C.old.mono j)) (.inr rfl);obtain⟨t1,x1,rfl⟩:=A.ifc
    repeat ((conv=>whnf);first | refine F_ ?_ | refine B_ (V.cellE rfl) trivial ?_)
    refine Ah underlying152 rfl _ rfl [C_ ((hd ts).p:Int),.iface t1 x1] (by kernel_rfl) ?_;(conv=>whnf);exact⟨_,D.tail,B5,a.trans (I_ u),L,by omega,fun k n=>j k (d k n),K,C.rb,_,A.up (fun _ h=>h) C.old,rfl⟩
  | false=>
    rw[J,G_ nofun]at a
    repeat ((conv=>whnf);first | refine Ao.run ?_)
    refine Ab.of (Ak (Y7 b t) fun G1 a1=>?_);have b:=b.call a1;cases e2:isM ts (W_ 40)with
    | true=>
      rw[e2,I_ rfl]at a;unfold inM at a;refine Ab.mk (PL M b.rb t) ?_ ?_
      rotate_left
      ·rintro y H4 ⟨rfl,u,a4⟩;rw[G_ (by rw[e2];exact nofun),I_ (u e2)]at a;exact⟨23,_,a,by rw[I_ e2],a3.trans ((b.old.mono d).trans (a4.mono d))⟩
      rintro _ H4 ⟨rfl,-,a8,f⟩;have⟨R,S⟩:=t.tail (by have:=I8 e2;omega);rw[G_ (by rw[e2];exact nofun),G_ (by omega)]at a;have a4:A_ B H H4:=a3.trans ((b.thn f).old.mono d);refine Ab.mk ((ih m (J_ m)).ex (l:=0) (hR.up d a4) f.rb R (by omega) (by omega) (by omega)) ?_ ?_
      rotate_left
      ·rintro y H5 ⟨c,r,w,rfl,x⟩;rw[w]at a;exact⟨c,r,a,rfl,a4.trans (x.mono d)⟩
      rintro v H5 ⟨e,D,B5,w,F,I,j,x,h5,A⟩;rw[w]at a;refine Ab.mk (PM h5 M F) ?_ ?_
      rotate_left
      ·rintro y H6 ⟨u,rfl,K⟩;exact⟨60,_,a.trans (G_ (by rw[u];exact nofun)),rfl,a4.trans ((x.mono d).trans (K.mono fun k n=>j k (d k n)))⟩
      rintro _ H6 ⟨rfl,u,C⟩;have⟨L,U⟩:=F.tail (by have:=I8 u;omega);have K:A_ B H H6:=a4.trans ((x.mono d).trans (C.old.mono fun k n=>j k (d k n)));(conv=>whnf);exact⟨_,D.tail,B5,a.trans (I_ u),L,by omega,fun k n=>j k (d k n),K,C.rb,A.up (fun _ h=>h) C.old⟩
    | false=>
      rw[e2,G_ nofun]at a;refine Ab.mk (KC (c:=60) b t) (fun _ _ h=>h.elim) ?_;rintro y H4 ⟨rfl,a4⟩;exact⟨60,_,a,rfl,a3.trans ((b.call a4).old.mono d)⟩
theorem TB:∀n,Big n:=fun n=>by
 induction n using Nat.strongRecOn with
 | ind n e=>
   refine⟨fun a h b c f d=>Ai9 e a h b c f d,fun a h b c d=>AiA e a h b c d,fun a h b c d=>?_⟩;obtain⟨m,rfl⟩:∃m,n=m+1:=⟨n-1,by omega⟩;exact Ai8 (fun k g=>e k (by omega)) a h b c (by omega)
end
abbrev DfV:=Nat×ByteArray×v_
def dfL(d:DfV):List v_:=[C_ (d.1:Int),.string d.2.1,d.2.2]
def tDf:Ty DfV where
 size:=3
 rep _ _ cs d:=cs=dfL d∧d.2.2.oneCell'=true
 len h:=by rw[h.1];rfl
 frame h _:=h
 mono h _:=h
def Ho(B:Nat→Prop)(H:Aa):List Df→List DfV→Prop
 | [],vs=>vs=[]
 | d::ds,vs=>∃v ws,vs=(d.p,d.s,v)::ws∧ExC B H d.a [v]∧Ho B H ds ws
section
variable{B B' S:Nat→Prop}{H0 H H':Aa}{p o q n l:Nat}{ts:List Tk}{s:ByteArray}{qs:List Pc}
theorem Ho.up(a:∀k,B k→B' k)(b:A_ B H H'):∀{ds:List Df} {vs:List DfV},Ho B H ds vs→Ho B' H' ds vs
 | [],_,h=>h
 | _::_,_,⟨v,ws,e,h,h2⟩=>⟨v,ws,e,h.up a b,h2.up a b⟩
theorem Ho.snoc{d:Df}{v:v_}(b:ExC B H d.a [v]):∀{ds:List Df} {vs:List DfV},Ho B H ds vs→Ho B H (ds++[d]) (vs++[(d.p,d.s,v)])
 | [],_,h=>by cases h;exact⟨v,[],rfl,b,rfl⟩
 | _::_,_,⟨w,ws,e,h,h2⟩=>by subst e;exact⟨w,ws++[_],rfl,h,h2.snoc b⟩
structure PgV(B:Nat→Prop)(H:Aa)(v:v_)(ds:List Df)(e:Ex):Prop where
 ex:∃g a n vs w,v= H_ g∧B g∧K_ H g 97 [.slice a vs.length n,w]∧M_ tDf none_ H 0 99 (.slice a vs.length n) vs∧(∀b,N_ (.slice a vs.length n) b→B b)∧Ho B H ds vs∧ExC B H e [w]
theorem Ho.upT(a:∀k l,B k→K_ H k 95 l→B' k)(b:A_ B' H H'):∀{ds:List Df} {vs:List DfV},Ho B H ds vs→Ho B' H' ds vs
 | [],_,h=>h
 | _::_,_,⟨v,ws,e,h,h2⟩=>⟨v,ws,e,h.upT a b,h2.upT a b⟩
theorem PgV.upT{v:v_}{ds:List Df}{e:Ex}(j:∀k t l,t=95∨t=99∨t=97→B k→K_ H k t l→B' k)(m:A_ B' H H')(h:PgV B H v ds e):PgV B' H' v ds e:=by
 obtain⟨g,a,n,vs,w,rfl,p,q,hs,u,hd,y⟩:=h;have d:=fun k l=>j k _ l (.inl rfl);have f:∀b,N_ (.slice a vs.length n) b→B' b:=fun b c=>by
  obtain⟨A,⟨z,⟨x,-⟩ | ⟨b',cap,r,x,-,p,g1,g2,C,D⟩⟩,E⟩:=hs
  ·rw[x]at c;obtain⟨_,_,_,h⟩:=c;cases h
  ·have:=u b c;rw[x]at c;obtain⟨_,_,_,h⟩:=c;cases h;exact j _ _ _ (.inr (.inl rfl)) this p
 exact⟨g,a,n,vs,w,rfl,j g _ _ (.inr (.inr rfl)) p q,q.agr m (j g _ _ (.inr (.inr rfl)) p q),hs.agr m f fun b h=>h.elim,f,hd.upT d m,y.upT d m⟩
abbrev pDf(a:Option Addr)(n:Nat)(vs:List DfV):Pc:=pS tDf 99 a vs.length n vs
abbrev pPg(g:Nat)(a:Option Addr)(k n:Nat)(w:v_):Pc:=pB 97 g [.slice a k n,w]
def PgR(B:Nat→Prop)(H:Aa)(x:FT ⊕ (List Df×Ex))(v:v_)(H':Aa):Prop:=∃ds e B',x= .inr (ds,e)∧(∀k,B k→B' k)∧(∀k,B' k→k<H'.size)∧A_ B H H'∧PgV B' H' v ds e
def PgE(B:Nat→Prop)(H:Aa)(x:FT ⊕ (List Df×Ex))(y:v_)(H':Aa):Prop:=∃c q,x= .inl (c,q)∧y=Bg c q∧A_ B H H'
theorem VG(hR:F7 B H)(h:O' B H H p ts 0 [])(he:DC ts)(az:ts.length≤1000000):
  Ay prog 39 #[H_ p] H (PgR B H (pgM ts.length ts [])) (PgE B H (pgM ts.length ts [])):=by
 refine Ay.of_vc func39 rfl (call39 _) (Ah underlying97 rfl _ rfl [.slice none 0 0,.nilIface] (by kernel_rfl) (BC [.slice none 0 0,.nilIface] rfl ?_));intro g H1 hq K E I;have⟨a0,n0,L,sl⟩:=h;have s1:=((L.box hq K E I).rot.swp.nils tDf 99).rot.swp;have h1:O' B H1 H1 p ts 0 [pDf none 0 [],pPg g none 0 0 .nilIface]:=⟨a0,n0,s1.rebase,sl.frame (A_.trans (fun k t=>rfl) s1.old)⟩;have a1:A_ B H H1:=s1.old;clear hq K E I s1 L sl;obtain⟨F,u⟩:∃F,F=pgM ts.length ts []:=⟨_,rfl⟩;rw[←u];refine CA.mk [] (fun _:List Tk=>[]) (fun m G=>∃ds B1 f vs a n,m.length≤f∧vs.length+m.length≤ts.length∧F=pgM f m ds∧DC m∧(∀k,B k→B1 k)∧A_ B H1 G∧O' B1 G G p m 0 [pDf a n vs,pPg g a vs.length n .nilIface]∧Ho B1 G ds vs) (fun m _=>m.length) ⟨ts,rfl,[],B,ts.length,[],none,0,J_ _,by simp,u,he,fun k t=>t,A_.refl _ _,h1,rfl⟩ ?_;rintro m G b5 ⟨ds,B1,f,vs,a,n,hf,be,u,W,A,ag,D,hv⟩;have Q:A_ B H G:=a1.trans ag;obtain⟨f,rfl⟩:∃j,f=j+1:=⟨f-1,by have⟨bf,e'⟩:=W.pos;rw[e']at hf;simp at hf;omega⟩;rw[show pgM (f+1) m ds=(if(hd m).k=1∧(hd m).s=AeK then
     (if(hd m.tail).k≠1∨arM (hd m.tail).s≠0 then .inl (60,(hd m.tail).p)
     else if isM m.tail.tail (W_ 61)=false then .inl (60,(hd m.tail.tail).p)
     else match nxE 0 m.tail.tail.tail (.ex 0)with
      | .inl e=>.inl e
      | .inr (a,ws)=>if isM ws (W_ 59)=false then .inl (60,(hd ws).p)else pgM f ws.tail (ds++[⟨(hd m.tail).p,(hd m.tail).s,a⟩]))
  else match nxE 0 m (.ex 0)with
   | .inl e=>.inl e
   | .inr (a,ws)=>if(hd ws).k≠0 then .inl (60,(hd ws).p)else .inr (ds,a))from rfl]at u
 refine Ab.of (Ak (Fx D W) fun G1 b1=>?_);have D:=D.call b1;refine OX rfl ?_;by_cases hl:(hd m).k=1∧(hd m).s=AeK
 ·have d1:(((hd m).k:Int)==1)=true:=by rw[hl.1];rfl
  have d2:((hd m).s.toList==(⟨#[108,101,116]⟩:ByteArray).toList)=true:=Ka.2 hl.2;rw[I_ hl]at u;have⟨M,b6⟩:=W.tail (by omega);(conv=>whnf);rw[d1];refine Ab.of (Ak (Fx D W) fun G2 b2=>?_);have D:=D.call b2;refine OX rfl ?_;(conv=>whnf);rw[d2];refine Ab.of (Aj.mk (Hc D W) ?_);rintro _ G3 ⟨rfl,J⟩;refine Ab.of (Ak (Fx J M) fun G4 b4=>?_);have J:=J.call b4;refine Aw (.agg (tkL ⟨0,0,⟨#[]⟩⟩).toArray) (tkL ⟨0,0,⟨#[]⟩⟩) Li rfl ?_;intro q H2 hq K E I;refine R8 J hq K E rfl I (k:=hd m.tail) fun H3 J a3 ak=>?_;clear hq K E I b1 b2 b4;have C:∀k,B k→(B1 k∨k=q):=fun k t=>.inl (A k t);have X:A_ B H H3:=Q.trans (a3.mono A);have Y:∀{G ws qs},O' (fun k=>B1 k∨k=q) H3 G p ws 0 qs→K_ G q 135 (tkL (hd m.tail)):=fun h=>ak.agr h.old (.inr rfl);refine Ao.run ?_
  repeat ((conv=>whnf);first | refine F_ ?_ | refine B_ ((Y J).cellE rfl) trivial ?_)
  have ah:∀{G:Aa} {y:v_},((hd m.tail).k≠1∨arM (hd m.tail).s≠0)→O' (fun k=>B1 k∨k=q) H3 G p m.tail 0 [pDf a n vs,pPg g a vs.length n .nilIface]→y=Bg 60 (hd m.tail).p→PgE B H F y G:=fun hc h Z=>by
   rw[I_ hc]at u;exact⟨60,_,u,Z,X.trans (h.old.mono C)⟩
  by_cases k1:(hd m.tail).k=1
  rotate_left
  ·have d3:(((hd m.tail).k:Int) != 1)=true:=bne_iff_ne.2 (by omega);(conv=>whnf);rw[d3];refine Ab.mk (KC (c:=60) J M) (fun _ _ h=>h.elim) ?_;rintro y H4 ⟨Z,a4⟩;exact ah (.inl k1) (J.call a4) Z
  have d3:(((hd m.tail).k:Int) != 1)=false:=by rw[k1];rfl
  repeat ((conv=>whnf);first | rw[d3] | refine F_ ?_ | refine B_ ((Y J).cellE rfl) trivial ?_)
  refine Ab.of (Ak Jo fun G1 b1=>?_);have J:=J.call b1;by_cases k2:arM (hd m.tail).s=0
  rotate_left
  ·have d4:(arM (hd m.tail).s != 0)=true:=bne_iff_ne.2 k2;(conv=>whnf);rw[d4];refine Ab.mk (KC (c:=60) J M) (fun _ _ h=>h.elim) ?_;rintro y H4 ⟨Z,a4⟩;exact ah (.inr k2) (J.call a4) Z
  have d4:(arM (hd m.tail).s != 0)=false:=by rw[k2];rfl
  rw[G_ (by omega)]at u;(conv=>whnf);rw[d4];have⟨ai,b7⟩:=M.tail (by omega);refine Ab.of (Aj.mk (Hc J M) ?_);rintro _ H4 ⟨-,h4⟩;refine Ab.mk (KE h4.rb ai) ?_ ?_
  rotate_left
  ·rintro y H5 ⟨R,rfl,a5⟩;rw[I_ R]at u;exact⟨60,_,u,rfl,X.trans ((h4.old.trans a5).mono C)⟩
  rintro _ H5 ⟨rfl,R,S⟩;rw[G_ (by rw[R];exact nofun)]at u;have S:=h4.thn S;have⟨am,b9⟩:=ai.tail (by have:=I8 R;omega);have ab:A_ B H H5:=X.trans (S.old.mono C);have ao:=Y S;have aj:K_ H5 g 97 [.slice a vs.length n,.nilIface]:=by obtain⟨a5,n5,L,-⟩:=S;exact L.blk 2 rfl
  refine AE.held (fun k=>k=g∨k=q) [16] (sq [0,1,2,3,4,5,6,7,8,9] (.f 10 (sq [11] (.f 12 (.f 13 (sq [14,15] (.f 16 .e))))))) (AQ _ _) rfl (by kernel_rfl) ?_
  repeat ((conv=>whnf);first | refine F_ ?_ | refine B_ (aj.cellE rfl) (.inl rfl) ?_ | refine B_ (ao.cellE rfl) (.inr rfl) ?_)
  refine Ab.mk ((TB (16*m.tail.tail.tail.length+16)).ex (l:=0) (hR.up C ab) S.rb am (by decide) (by decide) (by omega)) ?_ ?_
  rotate_left
  ·rintro y H6 ⟨c,r,hx,rfl,N⟩;unfold nxE at u;rw[hx]at u;exact⟨c,r,u,rfl,ab.trans (N.mono C)⟩
  rintro w H6 ⟨e,ws,B6,hx,hw,ap,z,N,⟨a7,n7,L,sl⟩,O⟩;unfold nxE at u;rw[hx]at u;have kp:∀{G:Aa} {ps:List Pc},E_ B6 H6 G (pB 87 p [.slice a7 ws.length n7,C_ ((0:Nat):Int)]::ps)→K_ G g 97 [.slice a vs.length n,.nilIface]→A_ (fun k=>k=g∨k=q) H5 G:=fun L hg k t=>by
   rcases t with rfl | rfl
   ·exact GI aj hg k rfl
   ·exact(N.trans (L.old.mono z)) k (.inr rfl)
  obtain⟨U,V,rfl⟩:=O.ifc;refine⟨kp L.rebase (L.blk 2 rfl),?_⟩;refine Ah underlying99 rfl _ rfl (dfL ((hd m.tail).p,(hd m.tail).s,Value.iface U V)) (by kernel_rfl) (Az AfG (dfL ((hd m.tail).p,(hd m.tail).s,Value.iface U V)) rfl rfl (by decide) (by decide) ?_);intro y H7 Z K E I;have ad:=L.rebase.skip Z I;refine⟨kp ad (ad.blk 2 rfl),?_⟩;refine Qn (ys:=[((hd m.tail).p,(hd m.tail).s,Value.iface U V)]) ad 1 AfG rfl (E.cells (o:=0) (cs:=dfL ((hd m.tail).p,(hd m.tail).s,Value.iface U V)) fun j v hv=>by rw[P_];exact hv) (Ty.reps_one (T:=tDf) (x:=((hd m.tail).p,(hd m.tail).s,Value.iface U V)) ⟨rfl,rfl⟩) rfl (by simp[dfL,Value.oneCell']) (by simp only[j_,J'];omega) (by decide) fun a8 n8 H8 P _=>?_;refine⟨kp P (P.blk 2 rfl),?_⟩;refine F_ ?_;refine Bh P 2 rfl (by simp) rfl fun H9 s9=>?_;have h9:O' B6 H6 H9 p ws 0 [pDf a8 n8 (vs++[((hd m.tail).p,(hd m.tail).s,Value.iface U V)]),pPg g a8 (vs++[((hd m.tail).p,(hd m.tail).s,Value.iface U V)]).length n8 .nilIface]:=⟨a7,n7,by
   unfold pDf;rw[Q_];exact s9,sl.frame s9.old⟩
  have aq:A_ B H H9:=ab.trans ((N.mono C).trans (h9.old.mono fun k t=>z k (C k t)));refine Ab.mk (KE h9.rb hw) ?_ ?_
  rotate_left
  ·rintro y H10 ⟨R,rfl,au⟩;exact⟨60,_,u.trans (I_ R),rfl,aq.trans (au.mono fun k t=>z k (C k t))⟩
  rintro _ H10 ⟨rfl,R,ae⟩;have⟨aw,bd⟩:=hw.tail (by have:=I8 R;omega);(conv=>whnf);refine⟨rfl,ws.tail,rfl,⟨ds++[⟨(hd m.tail).p,(hd m.tail).s,e⟩],B6,f,_,a8,n8,by omega,by rw[Q_];show vs.length+1+ws.tail.length≤_;omega,u.trans (G_ (by rw[R];exact nofun)),aw,fun k t=>z k (C k t),?_,ae.rb,?_⟩,by omega⟩
  ·exact ag.trans ((a3.mono A).trans (((S.old.trans N).mono C).trans ((h9.old.trans ae.old).mono fun k t=>z k (C k t))))
  ·have e6:A_ (fun k=>B1 k∨k=q) H3 H6:=S.old.trans N;refine(Ho.snoc (d:=⟨(hd m.tail).p,(hd m.tail).s,e⟩) O ?_).up (fun _ h=>h) (h9.old.trans ae.old);exact hv.up (fun k t=>z k (.inl t)) (a3.trans (e6.mono fun k t=>.inl t))
 rw[G_ hl]at u;unfold nxE at u;by_cases k1:(hd m).k=1
 all_goals
  have d1:(hd m).k≠1→(((hd m).k:Int)==1)=false:=CV;have ay:(hd m).k=1→(((hd m).k:Int)==1)=true:=fun h=>by rw[h];rfl
  have d2:(hd m).k=1→((hd m).s.toList==(⟨#[108,101,116]⟩:ByteArray).toList)=false:=fun h=>Kb fun D=>hl ⟨h,D⟩
  repeat ((conv=>whnf);first | rw[d1 k1] | rw[ay k1] | rw[d2 k1] | refine OX rfl ?_ | (refine Ab.of (Ak (Fx D W) fun G1 b1=>?_);have D:=D.call b1))
  refine Ab.mk ((TB (16*m.length+16)).ex (l:=0) (hR.up A (Q.trans (D.old.mono A))) D.rb W (by decide) (by decide) (by omega)) ?_ ?_
  rotate_left
  ·rintro y H6 ⟨c,r,hx,rfl,N⟩;rw[hx]at u;exact⟨c,r,u,rfl,Q.trans ((D.old.trans N).mono A)⟩
  rintro w H6 ⟨e,ws,B6,hx,hw,ap,z,N,⟨a7,n7,L,sl⟩,O⟩;rw[hx]at u;refine F_ ?_;refine Bh L 2 rfl (by simp) (by obtain⟨U,V,rfl⟩:=O.ifc;rfl) fun H7 s7=>?_;have h7:O' B6 H6 H7 p ws 0 [pDf a n vs,pPg g a vs.length n w]:=⟨a7,n7,s7,sl.frame s7.old⟩;have ag7:A_ B H H7:=Q.trans (((D.old.trans N).mono A).trans (h7.old.mono fun k t=>z k (A k t)));refine Ao.run (Ab.of (Ak (Fx h7 hw) fun G8 b8=>?_));have h8:=h7.call b8;refine OX rfl ?_;by_cases k0:(hd ws).k=0
  ·have d3:(((hd ws).k:Int) != 0)=false:=by rw[k0];rfl
   have u:=u.trans (G_ (by rw[k0];exact fun h=>h rfl));(conv=>whnf);rw[d3];(conv=>whnf);have⟨a8,n8,P,bh⟩:=h8;have vw:=(P.at_ 1 rfl).1;have hg:=P.blk 2 rfl;have fr:∀k,B1 k→(B6 k∨k=g)∨N_ (.slice a vs.length n) k:=fun k t=>.inl (.inl (z k t));refine⟨ds,e,fun k=>k<G8.size,u,fun k t=>P.up (z k (A k t)),fun k t=>t,ag7.trans (b8.mono fun k t=>s7.up (z k (A k t))),g,a,n,vs,w,rfl,hg.lt,hg,vw,fun b hb=>(vw.lt hb).2,?_,?_⟩
   ·exact hv.up (fun k t=>P.up (z k t)) (((D.old).trans N).trans (P.old.mono z))
   ·exact O.up (fun k t=>P.up t) P.old
  ·have d3:(((hd ws).k:Int) != 0)=true:=bne_iff_ne.2 (by omega);have u:=u.trans (I_ k0);(conv=>whnf);rw[d3];refine Ab.mk (KC (c:=60) h8 hw) (fun _ _ h=>h.elim) ?_;rintro y H9 ⟨rfl,a9⟩;exact⟨60,_,u,rfl,ag7.trans ((b8.trans (a9.mono fun k t=>Ae b8 t)).mono fun k t=>s7.up (z k (A k t)))⟩
end
section
variable{t:ByteArray}{i o:Nat}
def FtB(b:Nat)(e:FT):Prop:=0<e.1∧e.1≤60∧e.2≤b
theorem FtB.of{b c p:Nat}(h:p≤b)(a:0<c:=by decide)(h2:c≤60:=by decide):FtB b (c,p):=⟨a,h2,h⟩
theorem MK{e:FT}(a:o≤t.size):∀n i l,Gv t o n i l= .inl e→FtB t.size e
 | 0,i,l,h=>by cases h;exact .of a
 | n+1,i,l,h=>by
   unfold Gv at h;have d:=L3 t i;have b:=fun l=>MK (e:=e) a n (i+1) l;have c:=fun l=>MK (e:=e) a n ((FW t i).2+1) l
   repeat' split at h
   all_goals first
    | exact b _ h
    | exact c _ h
    | (cases h;exact .of (by omega))
    | cases h
theorem MO{e:FT}(a:o≤t.size):∀n i,Hs t o n i= .inl e→FtB t.size e
 | 0,i,h=>by cases h;exact .of a
 | n+1,i,h=>by
   unfold Hs at h;have b:=MO (e:=e) a n (i+1);have c:=MO (e:=e) a n (i+2)
   repeat' split at h
   all_goals first
    | exact b h
    | exact c h
    | (cases h;exact .of (by omega))
    | cases h
theorem AaX(hi:i<t.size){e:FT}(h:onM t i= .inl e):FtB t.size e:=by
 unfold onM at h;split at h
 ·split at h
  ·cases h;exact .of (by omega)
  ·cases h
 ·split at h
  ·cases a:Gv t i (t.size-(i+1)) (i+1) []with
   | inl e2=>rw[a]at h;cases h;exact MK (by omega) _ _ _ a
   | inr r=>rw[a]at h;cases h
  ·split at h
   ·cases a:Hs t i (t.size-(i+1)) (i+1)with
    | inl e2=>rw[a]at h;cases h;exact MO (by omega) _ _ a
    | inr r=>rw[a]at h;cases h
   ·repeat' split at h
    all_goals first | (cases h;exact .of (by omega)) | cases h
theorem ML:∀n i l r,l.length≤i→Gv t o n i l= .inr r→r.1.length≤r.2
 | 0,i,l,r,_,h=>by cases h
 | n+1,i,l,r,hl,h=>by
   unfold Gv at h;have d:=L3 t i;have a:=fun b=>ML n (i+1) (l++[b]) r (by simp;omega);have c:=fun b=>ML n ((FW t i).2+1) (l++[b]) r (by simp;omega)
   repeat' split at h
   all_goals first
    | (cases h;done)
    | (cases h;simp only;omega)
    | exact a _ h
    | exact c _ h
theorem AaY(hi:i<t.size){x:Tk×Nat}(h:onM t i= .inr x):x.1.p=i∧x.1.s.size≤t.size:=by
 have d:∀a b,(t.extract a b).size≤t.size:=fun a b=>by simp;omega
 unfold onM at h;split at h
 ·split at h
  ·cases h
  ·cases h;exact⟨rfl,d _ _⟩
 ·split at h
  ·cases c:Gv t i (t.size-(i+1)) (i+1) []with
   | inl e2=>rw[c]at h;cases h
   | inr r=>
     rw[c]at h;cases h;have f:=ML _ _ _ _ (l_ _) c;have e:=LD _ _ _ _ c;exact⟨rfl,by show(List.toArray (r.1.map UInt8.ofNat)).size≤_;rw[List.size_toArray,Z_];omega⟩
  ·split at h
   ·cases c:Hs t i (t.size-(i+1)) (i+1)with
    | inl e2=>rw[c]at h;cases h
    | inr r=>rw[c]at h;cases h;exact⟨rfl,d _ _⟩
   ·repeat' split at h
    ·cases h;exact⟨rfl,d _ _⟩
    ·rename_i e;cases h;have:i+1<t.size:=DR (by omega);exact⟨rfl,by show 2≤t.size;omega⟩
    ·cases h
theorem Yq:∀(n i:Nat) (l:List Tk),i≤t.size→t.size≤i+n→l.length≤i→(∀k∈l,k.p≤t.size∧k.s.size≤t.size)→match HQ t n i l with
  | .inl e=>FtB t.size e
  | .inr ts=>DC ts∧(∀k∈ts,k.p≤t.size∧k.s.size≤t.size)∧ts.length≤t.size+1:=by
 have fin:∀{l:List Tk} {i},i≤t.size→l.length≤i→(∀k∈l,k.p≤t.size∧k.s.size≤t.size)→DC (l++[⟨0,t.size,⟨#[]⟩⟩])∧(∀k∈l++[⟨0,t.size,⟨#[]⟩⟩],k.p≤t.size∧k.s.size≤t.size)∧(l++[⟨0,t.size,⟨#[]⟩⟩]:List Tk).length≤t.size+1:=fun d f h=>⟨⟨_,_,rfl,rfl⟩,fun k a=>by
  rcases q_.1 a with a | a
  ·exact h k a
  ·cases V_.1 a;exact⟨J_ _,l_ _⟩,by simp;omega⟩
 intro n
 induction n with
 | zero=>intro i l d r f h;exact fin d f h
 | succ n u=>
   intro i l d r f h;unfold HQ;by_cases b:t.size≤i
   ·rw[I_ b];exact fin d f h
   ·rw[G_ b];cases g:onM t i with
    | inl e=>exact AaX (Ydr b) g
    | inr x=>
      have⟨k,j⟩:=x;have m:=XL (Ydr b) g;have q:=AaY (Ydr b) g;have w:=Fu (t:=t) (t.size-j) false j;simp only at m q;refine u _ _ (w.2 m.2) (by omega) (by simp;omega) fun x c=>?_;rcases q_.1 c with c | c
      ·exact h x c
      ·cases V_.1 c;exact⟨by omega,q.2⟩
theorem Ru(t:ByteArray):match MW t with
  | .inl e=>FtB 4096 e
  | .inr ts=>DC ts∧(∀k∈ts,k.p≤4096∧k.s.size≤4096)∧ts.length≤4097:=by
 unfold MW;by_cases h:4096<t.size
 ·rw[I_ h];exact⟨by decide,by decide,by decide⟩
 ·rw[G_ h];have:=Yq (t:=t) t.size (BD t t.size false 0) [] ((Fu _ _ _).2 (l_ _)) (by omega) (l_ _) (fun k a=>by cases a);cases hs:HQ t t.size (BD t t.size false 0) []with
  | inl e=>rw[hs]at this;exact⟨this.1,this.2.1,by have:=this.2.2;omega⟩
  | inr ts=>rw[hs]at this;exact⟨this.1,fun k a=>by have:=this.2.1 k a;omega,by have:=this.2.2;omega⟩
end
def Ex.len:Ex→Nat
 | .cons _ l=>l.len+1
 | _=>0
theorem Ex.len_snoc(a:Ex):∀l:Ex,(l.snoc a).len=l.len+1
 | .cons x l=>congrArg (·+1) (len_snoc a l)
 | .nm _ _ | .tx _ _ | .re _ _ | .kd _ _ | .un _ _ _ | .bi _ _ _ _ | .cl _ _ _ | .nil=>rfl
def exB(b:Nat):Ex→Prop
 | .nm p s | .tx p s | .re p s=>p≤b∧s.size≤b
 | .kd p a | .un p _ a=>p≤b∧exB b a
 | .cl p s a=>p≤b∧exB b a∧0<arM s∧a.len=(arM s).toNat
 | .bi p _ a c=>p≤b∧exB b a∧exB b c
 | .nil=>True
 | .cons a l=>exB b a∧exB b l
def tkB(b:Nat)(ts:List Tk):Prop:=∀k∈ts,k.p≤b∧k.s.size≤b
def OkP(b:Nat):FT ⊕ (Ex×List Tk)→Prop
 | .inl e=>FtB b e
 | .inr x=>exB b x.1∧tkB b x.2
section
variable{b:Nat}
theorem tkB.hds{ts:List Tk}(h:tkB b ts):(hd ts).p≤b∧(hd ts).s.size≤b:=by
 cases ts with
 | nil=>exact⟨l_ _,l_ _⟩
 | cons k ts=>exact h k (YbZ ..)
theorem tkB.hd{ts:List Tk}(h:tkB b ts):(hd ts).p≤b:=h.hds.1
theorem tkB.tail{ts:List Tk}(h:tkB b ts):tkB b ts.tail:=fun k a=>h k (List.mem_of_mem_tail a)
def bnd(r:FT ⊕ (Ex×List Tk))(f:Ex→List Tk→FT ⊕ (Ex×List Tk)):FT ⊕ (Ex×List Tk):=match r with
 | .inl e=>.inl e
 | .inr (a,us)=>f a us
theorem OkP.bind{f:Ex→List Tk→FT ⊕ (Ex×List Tk)}:∀{r:FT ⊕ (Ex×List Tk)},OkP b r→(∀a c,exB b a→tkB b c→OkP b (f a c))→OkP b (bnd r f)
 | .inl _,h,_=>h
 | .inr _,h,hf=>hf _ _ h.1 h.2
theorem OkP.in_{o:Nat}{ts:List Tk}{x y:ByteArray}{r:FT ⊕ (Ex×List Tk)}{f:Ex→Ex}(c:tkB b ts)(h:OkP b r)(d:∀a g,r= .inr (a,g)→exB b a→exB b (f a)):OkP b (inM o ts x y r f):=by
 unfold inM;split
 ·exact .of c.hd
 ·split
  ·exact .of c.hd
  ·cases r with
   | inl e=>exact h
   | inr q=>
     simp only;split
     ·exact⟨d _ _ rfl h.1,h.2.tail⟩
     ·exact .of h.2.hd
theorem Q9{a:Ex}(c:exB b a):∀{l:Ex},exB b l→exB b (l.snoc a)
 | .cons x l,h=>⟨h.1,Q9 c h.2⟩
 | .nm _ _,h=>⟨c,trivial⟩
 | .tx _ _,h=>⟨c,trivial⟩
 | .re _ _,h=>⟨c,trivial⟩
 | .kd _ _,h=>⟨c,trivial⟩
 | .un _ _ _,h=>⟨c,trivial⟩
 | .bi _ _ _ _,h=>⟨c,trivial⟩
 | .cl _ _ _,h=>⟨c,trivial⟩
 | .nil,h=>⟨c,trivial⟩
def ntB(b:Nat):NT→Prop
 | .xl _ a | .pl a | .ar _ _ a=>exB b a
 | _=>True
theorem XS:∀(n k m:Nat) (l:Ex) (o:Nat) (ts:List Tk) {e:Ex} {a:List Tk},pE n (.ar k m l) o ts= .inr (e,a)→l.len=k→k≤m→e.len=m
 | 0,_,_,_,_,_,_,_,h,_,_=>by cases h
 | n+1,k,m,l,o,ts,e,a,h,hl,hk=>by
   unfold pE at h;split at h
   ·split at h
    ·cases h
    ·split at h
     ·cases h
     ·exact XS n (k+1) m _ o _ h (by rw[Ex.len_snoc,hl]) (by omega)
   ·cases h;omega
theorem AcT:∀(n:Nat) (x:NT) (o:Nat) (ts:List Tk),ntB b x→tkB b ts→OkP b (pE n x o ts):=by
 intro n
 induction n with
 | zero=>intro x o ts h d;exact .of (l_ _)
 | succ n e=>
   intro x o ts h d;have p:=d.hd;have g:=d.tail;have u:=g.hd;cases x with
   | ex l=>
     unfold pE;split
     ·exact e _ _ _ trivial d
     ·exact(e (.ex (l+1)) _ _ trivial d).bind fun a q f j=>e _ _ _ f j
   | xl l a=>
     unfold pE;split
     ·exact(e (.ex (l+1)) _ _ trivial g).bind fun c q t j=>e _ _ _ ⟨p,h,t⟩ j
     ·exact⟨h,d⟩
   | po=>exact(e .at_ _ _ trivial d).bind fun a q f j=>e (.pl a) _ _ f j
   | pl a=>
     unfold pE;split
     ·exact e _ _ _ ⟨p,h⟩ g
     ·exact⟨h,d⟩
   | at_=>
     unfold pE
     repeat' split
     all_goals first
      | exact⟨d.hds,g⟩
      | exact .of p
      | exact .in_ g (e _ _ _ trivial g.tail) fun a q r f=>⟨p,f,by omega,XS _ _ _ _ _ _ r rfl (l_ _)⟩
      | exact .in_ d (e _ _ _ trivial g) fun a q r f=>⟨p,f⟩
      | exact .in_ d (e _ _ _ trivial g) fun a q r f=>f
   | ar k m l=>
     unfold pE;split
     ·split
      ·exact .of p
      ·exact(e (.ex 0) _ _ trivial (by split;exact g;exact d)).bind fun a q f j=>e _ _ _ (Q9 f h) j
     ·exact⟨h,d⟩
def dfB(b:Nat)(ds:List Df):Prop:=∀d∈ds,d.p≤b∧exB b d.a
def PgB(b:Nat):FT ⊕ (List Df×Ex)→Prop
 | .inl e=>FtB b e
 | .inr x=>dfB b x.1∧exB b x.2
theorem AeY:∀(n:Nat) (ts:List Tk) (ds:List Df),tkB b ts→dfB b ds→PgB b (pgM n ts ds):=by
 intro n
 induction n with
 | zero=>intro ts ds a hd;exact .of (l_ _)
 | succ n f=>
   intro ts ds a hds;unfold pgM;split
   ·split
    ·exact .of a.tail.hd
    ·split
     ·exact .of a.tail.tail.hd
     ·have:=AcT (16*ts.tail.tail.tail.length+16) (.ex 0) 0 _ trivial a.tail.tail.tail;unfold nxE;cases c:pE (16*ts.tail.tail.tail.length+16) (.ex 0) 0 ts.tail.tail.tail with
      | inl e=>rw[c]at this;exact this
      | inr x=>
        rw[c]at this;simp only;split
        ·exact .of this.2.hd
        ·exact f _ _ this.2.tail fun d hd=>by
          rcases q_.1 hd with hd | hd
          ·exact hds d hd
          ·cases V_.1 hd;exact⟨a.tail.hd,this.1⟩
   ·have:=AcT (16*ts.length+16) (.ex 0) 0 _ trivial a;unfold nxE;cases c:pE (16*ts.length+16) (.ex 0) 0 ts with
    | inl e=>rw[c]at this;exact this
    | inr x=>
      rw[c]at this;simp only;split
      ·exact .of this.2.hd
      ·exact⟨hds,this.1⟩
theorem VD(t:ByteArray):PgB 4096 (IY t):=by
 unfold IY;have h:=Ru t;cases hs:MW t with
 | inl e=>rw[hs]at h;exact h
 | inr ts=>rw[hs]at h;exact AeY _ _ _ h.2.1 fun d hd=>by cases hd
end
abbrev Y'(c p:Nat)(w:ByteArray):List v_:=[C_ c,C_ p,.string w]
abbrev ftA(c p:Nat)(w:ByteArray):v_:=.agg #[C_ c,C_ p,.string w]
abbrev ftV(c p:Nat)(w:ByteArray):v_:=.iface 27 (ftA c p w)
theorem EI{H:Aa}{b c p:Nat}{w:ByteArray}(h:K_ H b 27 (Y' c p w)):AL H b 0 (Y' c p w):=h.cells (fun j v a=>by rw[P_];exact a)
def R7(q2 q3:Nat)(v:v_)(c e:Nat)(w:ByteArray):List Pc:=[pB 49 q2 [v],pB 27 q3 (Y' c e w)]
theorem AbJ{H:Aa}{a b:Nat}{K:Aa→Prop}(k:K H):BX prog 38 #[H_ a,H_ b] .returning .returning H K:=by
 refine BX.mk (R:=fun H'=>H'=H) (Cj (R:=fun H'=>H'=H) func38 rfl ⟨⟨_,rfl⟩,rfl,rfl,rfl,rfl,rfl⟩ .ret rfl ?_) (fun H' h=>by rw[h];exact k);(conv=>whnf);refine⟨rfl,?_⟩;refine Kt underlying20 ?_;(conv=>whnf)
theorem AbI{B:Nat→Prop}{H0 H:Aa}{a b c e c0 e0:Nat}{w w0:ByteArray}{v:v_}{ps:List Pc}{K:Aa→Prop}(g:E_ B H0 H (R7 a b v c0 e0 w0++ps))(k:∀H',E_ B H0 H' (R7 a b (.pointer none) c e w++ps)→K H'):
  BX prog 38 #[H_ a,H_ b] (.panicking (pe (ftV c e w))) (.panicking [{v:=ftV c e w,recovered:=true}]) H K:=by
 refine BX.mk (R:=fun H'=>E_ B H0 H' (R7 a b (.pointer none) c e w++ps)) (Cj (R:=fun H'=>E_ B H0 H' (R7 a b (.pointer none) c e w++ps)) func38 rfl ⟨⟨_,rfl⟩,rfl,rfl,rfl,rfl,rfl⟩ (.pan _) rfl ?_) k;(conv=>whnf);refine⟨rfl,?_⟩;refine NV underlying20 (Au.held (fun _=>False) 3 (sq [0,1] (.f 2 (.f 3 .e))) rfl (by kernel_rfl) (Kc underlying27 (fun l h=>by cases h) (Bh g 0 rfl (by simp) rfl fun H1 st1=>(⟨fun k j=>j.elim,?_⟩))));refine AD (cs:=Y' c e w) st1 1 rfl rfl (J_ _) rfl fun H3 d=>?_;(conv=>whnf);exact d
def Ag8(v:v_)(H:Aa):FT ⊕ (List Df×Ex)→Prop
 | .inl e=>v= .tuple #[.pointer none,AI e.1 e.2]
 | .inr x=>∃pv,v= .tuple #[pv,AI 0 0]∧PgV (fun k=>k<H.size) H pv x.1 x.2
theorem VX{H:Aa}{t:ByteArray}(hR:KM H):Al prog 19 #[.string t] H fun v H'=>A_ (D_ H) H H'∧Ag8 v H' (IY t):=by
 refine Al.of_rest func19 rfl (call19 _) (Bu.seq (Aw (.pointer none) [.pointer none] rfl rfl ?_));intro I H1 J K x L;have st1:=(St.nil H).box J K x L;refine Aw (AI 0 0) (Ad 0 0) Bn rfl ?_;intro z H2 A M C N;have O:E_ (D_ H) H H2 (R7 I z (.pointer none) 0 0 ⟨#[]⟩):=st1.box A M C N;refine Bu.seq (Aj.mk AfB ?_);rintro _ H3 ⟨a3,j⟩;have D:=O.call a3;have m:=Ru t;obtain⟨F,d⟩:∃F,F=IY t:=⟨_,rfl⟩;rw[←d];unfold IY at d;cases hs:MW t with
 | inl e=>
   have⟨c,p⟩:=e;rw[hs]at j m d;subst d;have⟨P,Q,R⟩:=m;simp only at P Q R;obtain rfl:=j;refine AD (cs:=Ad c p) D 1 rfl rfl (J_ _) rfl fun H4 b=>(Bu.seq (L_ (cs:=Ad c p) (AW (b.blk 1 rfl)) trivial (Ah underlying27 rfl _ rfl (Ad 0 0) rfl (GP (c:=c) (e:=p) (c':=0) (e':=0) (by omega) (by omega) (by decide) (by decide) ?_))));rw[m_];refine Au.heldZ (fun k=>k=z) [2] (sq [0] (.f 1 (.f 2 .e))) rfl (by kernel_rfl) (L_ (cs:=Ad c p) (AW (b.blk 1 rfl)) rfl (Nf b 0 rfl (by simp) rfl fun H5 S j5 n5=>(⟨j5.mono fun k h=>?_,?_⟩)))
   ·have:z=H1.size:=A;have:I<H1.size:=x.lt;omega
   refine AD (cs:=Ad c p) S 1 rfl rfl (J_ _) rfl fun H6 r=>(B_ ((r.blk 0 rfl).cellE rfl) trivial (L_ (cs:=Ad c p) (AW (r.blk 1 rfl)) trivial ?_));exact⟨r.old,rfl⟩
 | inr ts=>
   rw[hs]at j m d;have⟨he,a5,a0⟩:=m;obtain⟨a,n,rfl,sl⟩:=j;refine AX (cs:=Ad 0 0) D 1 rfl rfl (J_ _) rfl fun H4 b ja js=>(Bu.seq (L_ (cs:=Ad 0 0) (AW (b.blk 1 rfl)) trivial (Ah underlying27 rfl _ rfl (Ad 0 0) rfl (GP (c:=0) (e:=0) (c':=0) (e':=0) (by decide) (by decide) (by decide) (by decide) (Bu.defer_ ⟨rfl,rfl,rfl,⟨_,rfl⟩,rfl,rfl⟩ (fun vs w=>call38 _ w) (⟨rfl,?_⟩))))));refine Ah underlying87 rfl _ rfl [.slice a ts.length n,C_ 0] (by kernel_rfl) (BL (St.nil H4) [.slice a ts.length n,C_ 0] rfl fun p H5 E=>?_);have a7:z<H2.size:=C.lt;have h5:O' (D_ H4) H5 H5 p ts 0 []:=⟨a,n,E.rebase,(sl.frame (A_.trans (ja.mono fun k h=>by omega) (E.old.mono fun k h=>by unfold D_;omega))).mono fun k h=>by unfold D_;omega⟩;have u:=hR.agr b.old;refine Ab.mk (VG (B:=D_ H4) ⟨u.1.eq (E.old _ u.2),u.2⟩ h5 he (by omega)) ?_ ?_
   ·rintro v H6 ⟨ds,e,B',T,hB,U,V,W⟩;have d:=d.trans T;subst d;obtain⟨g,ga,gn,vs,w,rfl,X⟩:=W.ex;have W:PgV B' H6 (H_ g) ds e:=⟨g,ga,gn,vs,w,rfl,X⟩;have Y:=b.call (E.old.trans V);refine Ah underlying27 rfl _ rfl (Ad 0 0) rfl (Nf Y 0 rfl (by simp) rfl fun H7 G j7 n7=>(AX (cs:=Ad 0 0) G 1 rfl rfl (J_ _) rfl fun H8 Z j8 n8=>(AbJ (B_ ((Z.blk 0 rfl).cellE rfl) trivial (L_ (cs:=Ad 0 0) (AW (Z.blk 1 rfl)) trivial (⟨Z.old,_,rfl,?_⟩))))));have b2:=Y.blk 0 rfl;have b3:=Y.blk 1 rfl;refine(W.upT (B':=fun k=>k<H6.size∧k≠I∧k≠z) (fun k t l ht h hb=>⟨U k h,?_,?_⟩) (A_.trans (j7.mono fun k h=>h.2.1) (j8.mono fun k h=>h.2.2))).upT (fun k t l _ h _=>by omega) (A_.refl _ _)
    ·rintro rfl;have:=Option.some.inj (b2.symm.trans hb);injection this with _ this
     rcases ht with rfl | rfl | rfl<;>cases this
    ·rintro rfl;have:=Option.some.inj (b3.symm.trans hb);injection this with _ this
     rcases ht with rfl | rfl | rfl<;>cases this
   ·rintro y H6 ⟨c,q,T,rfl,V⟩;have d:=d.trans T;subst d;(conv=>whnf);refine AbI (c:=c) (e:=q) (w:=⟨#[]⟩) (ps:=[]) (b.call (E.old.trans V)) fun H7 G=>(B_ ((G.blk 0 rfl).cellE rfl) trivial (L_ (cs:=Ad c q) (AW (G.blk 1 rfl)) trivial ?_));exact⟨G.old,rfl⟩
end Go.Proofs.YtdopnglgekglgaaGreatDoor
