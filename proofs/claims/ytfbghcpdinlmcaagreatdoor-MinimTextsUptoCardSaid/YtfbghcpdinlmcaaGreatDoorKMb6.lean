import Derived.Test.YtfbghcpdinlmcaaGreatDoorKMb5
set_option maxHeartbeats 0
open BitVec renaming allOnes → AjA
open List renaming range → AiO, replicate → AjS, cons → AlG
open Option renaming some → AkU
set_option maxRecDepth 100000
open Go.Proofs.Tryz
open Go renaming Value → v_, Program → w_, TypeId → x_
namespace Go.Proofs.YtfbghcpdinlmcaaGreatDoor
open Go.VC
theorem JV{α:Type}{P:List α→Prop}(h0:P [])(hs:∀(l:List α) (x:α),P l→P (l++[x]))(l:List α):P l:=by
 have a:∀m:List α,P m.reverse:=fun m=>by
  induction m with
  | nil=>exact h0
  | cons x m b=>rw[List.reverse_cons];exact hs _ x b
 have:=a l.reverse;rwa [List.reverse_reverse]at this
section
variable{K:Type} [DecidableEq K]
def dd(l:List K):List K:=l.foldl (fun f k=>if k∈f then f else f++[k]) []
theorem JK(l:List K)(k:K):dd (l++[k])=if k∈dd l then dd l else dd l++[k]:=by
 unfold dd;rw[Ybh];rfl
theorem NP(l:List K):(dd l).Nodup:=by
 induction l using JV with
 | h0=>exact YcJ
 | hs l k a=>
   rw[JK];split
   ·exact a
   ·rename_i h;exact YcH.2 ⟨a,by simp,fun x c y b e=>by rw[Y_]at b;subst b;subst e;exact h c⟩
theorem D9(l:List K)(k:K):k∈dd l↔k∈l:=by
 induction l using JV with
 | h0=>exact Iff.rfl
 | hs l x a=>
   rw[JK,q_,Y_,←a];split
   ·rename_i h;constructor
    ·exact .inl
    ·rintro(b | rfl)
     ·exact b
     ·exact h
   ·rw[q_,Y_]
theorem AgB(l m:List K):dd l <+: dd (l++m):=by
 induction m using JV with
 | h0=>rw[YaX];exact YcI _
 | hs m k a=>
   rw[←List.append_assoc,JK];split
   ·exact a
   ·exact a.trans (Ydy _ _)
theorem Za(l:List K):(dd l).length≤l.length:=by
 induction l using JV with
 | h0=>exact I_ _
 | hs l k a=>
   rw[JK,J_,h_];split
   ·omega
   ·rw[J_,h_];omega
def ixF(f:List K)(k:K):Nat:=f.findIdx (·=k)
theorem K6{f:List K}{k:K}(h:k∈f):ixF f k<f.length:=by
 unfold ixF;exact List.findIdx_lt_length_of_exists ⟨k,h,by simp⟩
theorem Ib{f:List K}{k:K}(h:k∈f):f[ixF f k]?=some k:=by
 have a:=K6 h;rw[N' a];have:decide (f[ixF f k]=k)=true:=List.findIdx_getElem (p:=fun x=>decide (x=k)) (xs:=f) (w:=a);rw[of_decide_eq_true this]
theorem Ad8{f:List K}{k m:K}(b:k∈f)(c:m∈f)(h:ixF f k=ixF f m):k=m:=by
 have a:=Ib b;have d:=Ib c;rw[h,d]at a;exact(AkU.inj a).symm
theorem AdA{f g:List K}{k:K}(h:f <+: g)(a:k∈f):ixF g k=ixF f k:=by
 obtain⟨t,rfl⟩:=h;unfold ixF;rw[Yd2];have:=K6 a;unfold ixF at this;rw[F_ this]
theorem AgM{f:List K}(a:f.Nodup){i:Nat}{k:K}(h:f[i]?=some k):ixF f k=i:=by
 have e:=c_ h;have g:=Ib e;have⟨b,c⟩:=O_.1 h;have⟨d,e2⟩:=O_.1 g;rcases Ydo (ixF f k) i with h | h | h
 ·exact absurd (e2.trans c.symm) (Ya9.1 a _ _ d b h)
 ·exact h
 ·exact absurd (c.trans e2.symm) (Ya9.1 a _ _ b d h)
theorem Ad9{f:List K}{k:K}(h:k∉f):ixF (f++[k]) k=f.length:=by
 unfold ixF;have a:f.findIdx (fun x=>decide (x=k))=f.length:=List.findIdx_eq_length_of_false fun x b=>j_ fun e=>h (by rw[←e];exact b);rw[Yd2,a];simp
end
structure PA where
 n:Nat
 st:Nat→Nat→Nat
 fi:Nat→Bool
structure PA.Ok(M:PA):Prop where
 pos:0<M.n
 cl:∀q b,q<M.n→b<256→M.st q b<M.n
def PA.run(M:PA)(q:Nat)(w:List Nat):Nat:=w.foldl M.st q
def Cg(w:List Nat):Prop:=∀b∈w,b<256
theorem PA.run_lt{M:PA}(h:M.Ok):∀(w:List Nat) (q:Nat),q<M.n→Cg w→M.run q w<M.n
 | [],q,hq,_=>hq
 | b::w,q,hq,hw=>PA.run_lt h w (M.st q b) (h.cl q b hq (hw b (by simp))) fun x a=>hw x (YbY _ a)
def PA.Eqv(M:PA)(p q:Nat):Prop:=∀w,Cg w→M.fi (M.run p w)=M.fi (M.run q w)
theorem PA.Eqv.fi{M:PA}{p q:Nat}(h:M.Eqv p q):M.fi p=M.fi q:=h [] (fun b a=>by cases a)
theorem PA.Eqv.st{M:PA}{p q b:Nat}(h:M.Eqv p q)(c:b<256):M.Eqv (M.st p b) (M.st q b):=fun w d=>h (b::w) fun x a=>by
 rcases YaP.1 a with rfl | a
 ·exact c
 ·exact d x a
structure AbL(M:PA)(by_:List Nat):Prop where
 lt:∀b∈by_,b<256
 cov:∀b,b<256→∃g∈by_,g≤b∧∀q,q<M.n→M.st q g=M.st q b
structure Q4(M:PA)(l:List Nat):Prop where
 lt:∀q∈l,q<M.n
 st:∀q∈l,∀b,b<256→M.st q b∈l
section
variable{M:PA}{by_ l:List Nat}{P:Nat→Nat}
def Du(M:PA)(by_:List Nat)(P:Nat→Nat)(q:Nat):List Nat:=P q::by_.map fun b=>P (M.st q b)
def found(M:PA)(by_ l:List Nat)(P:Nat→Nat):List (List Nat):=dd (l.map (Du M by_ P))
def Cx(M:PA)(by_ l:List Nat)(P:Nat→Nat)(q:Nat):Nat:=ixF (found M by_ l P) (Du M by_ P q)
theorem Gs{p q:Nat}(a:p∈l)(c:q∈l):Cx M by_ l P p=Cx M by_ l P q↔P p=P q∧∀b∈by_,P (M.st p b)=P (M.st q b):=by
 have d:Du M by_ P p∈found M by_ l P:=(D9 _ _).2 (I'.2 ⟨p,a,rfl⟩);have f:Du M by_ P q∈found M by_ l P:=(D9 _ _).2 (I'.2 ⟨q,c,rfl⟩);constructor
 ·intro h;have e:=Ad8 d f h;unfold Du at e;simp only[AlG.injEq]at e;exact⟨e.1,fun b g=>by
   have:=List.map_inj_left.1 e.2 b g;exact this⟩
 ·rintro⟨i,j⟩;have e:Du M by_ P p=Du M by_ P q:=by
   unfold Du;rw[i,YcE j]
  unfold Cx;rw[e]
theorem Qh{q:Nat}(a:q∈l):Cx M by_ l P q<(found M by_ l P).length:=K6 ((D9 _ _).2 (I'.2 ⟨q,a,rfl⟩))
def cls(l:List Nat)(P:Nat→Nat):Nat:=(dd (l.map P)).length
theorem Iv{K:Type} [DecidableEq K]{a b:List K}(f:a.Nodup)(h:∀x∈a,x∈b):a.length≤b.length:=by
 induction a generalizing b with
 | nil=>exact t_ _
 | cons x a g=>
   have⟨i,j⟩:=List.nodup_cons.1 f;have c:=h x (by simp);have:=g (b:=b.erase x) j fun y d=>(List.mem_erase_of_ne (fun e=>i (by rw[←e];exact d))).2 (h y (YbY _ d));rw[List.length_erase_of_mem c]at this;have:=List.length_pos_of_mem c;simp only[b_];omega
theorem Va:cls l (Cx M by_ l P)=(found M by_ l P).length:=by
 unfold cls;have f:∀x,x∈dd (l.map (Cx M by_ l P))↔x∈AiO (found M by_ l P).length:=fun x=>by
  rw[D9,I',YaY];constructor
  ·rintro⟨q,d,rfl⟩;exact Qh d
  ·intro c;have⟨k,g⟩:=Ac c;have⟨q,d,e⟩:=I'.1 ((D9 _ _).1 (c_ g));refine⟨q,d,?_⟩;unfold Cx;rw[e];exact AgM (NP _) g
 have a:=Iv (NP (l.map (Cx M by_ l P))) fun x c=>(f x).1 c;have b:=Iv (a:=AiO (found M by_ l P).length) List.nodup_range fun x c=>(f x).2 c;rw[Ydv]at a b;omega
theorem Tu(h:(found M by_ l P).length≤cls l P):∀p∈l,∀q∈l,P p=P q→Cx M by_ l P p=Cx M by_ l P q:=by
 intro p t q u f;have D:∀k∈found M by_ l P,∃x∈l,k=Du M by_ P x:=fun k g=>by
  have⟨x,a,e⟩:=I'.1 ((D9 _ _).1 g);exact⟨x,a,e.symm⟩
 have b:((found M by_ l P).map fun k=>k.headD 0).Nodup:=by
  apply Classical.byContradiction;intro i;have c:∀x∈dd (l.map P),x∈dd ((found M by_ l P).map fun k=>k.headD 0):=fun x a=>by
   obtain⟨y,d,rfl⟩:=I'.1 ((D9 _ _).1 a);rw[D9,I'];exact⟨Du M by_ P y,(D9 _ _).2 (I'.2 ⟨y,d,rfl⟩),rfl⟩
  have E:=Iv (NP _) c;have v:(dd ((found M by_ l P).map fun k=>k.headD 0)).length<((found M by_ l P).map fun k=>k.headD 0).length:=by
   have j:∀m:List Nat,¬m.Nodup→(dd m).length<m.length:=by
    intro m
    induction m using JV with
    | h0=>intro h;exact absurd YcJ h
    | hs m k w=>
      intro h;rw[JK,J_,h_];have:=Za m;split
      ·omega
      ·rename_i g;rw[J_,h_];have:¬m.Nodup:=fun z=>h (YcH.2 ⟨z,by simp,fun x a y d e=>by rw[Y_]at d;subst d;subst e;exact g ((D9 _ _).2 a)⟩);have:=w this;omega
   exact j _ i
  rw[Z_]at v;unfold cls at h;omega
 have A:Du M by_ P p∈found M by_ l P:=(D9 _ _).2 (I'.2 ⟨p,t,rfl⟩);have B:Du M by_ P q∈found M by_ l P:=(D9 _ _).2 (I'.2 ⟨q,u,rfl⟩);have g1:=Ib A;have g2:=Ib B;have C:((found M by_ l P).map fun k=>k.headD 0)[ixF (found M by_ l P) (Du M by_ P p)]?=some (P p):=by rw[o_,g1];rfl
 have e2:((found M by_ l P).map fun k=>k.headD 0)[ixF (found M by_ l P) (Du M by_ P q)]?=some (P q):=by rw[o_,g2];rfl
 rw[←f]at e2;have⟨n,o⟩:=O_.1 C;have⟨r,s⟩:=O_.1 e2;unfold Cx;rcases Ydo (ixF (found M by_ l P) (Du M by_ P p)) (ixF (found M by_ l P) (Du M by_ P q))with h | h | h
 ·exact absurd (o.trans s.symm) (Ya9.1 b _ _ n r h)
 ·exact h
 ·exact absurd (s.trans o.symm) (Ya9.1 b _ _ r n h)
structure WT(M:PA)(l:List Nat)(P:Nat→Nat):Prop where
 eqv:∀p∈l,∀q∈l,M.Eqv p q→P p=P q
 fi:∀p∈l,∀q∈l,P p=P q→M.fi p=M.fi q
theorem WT.next(e:AbL M by_)(g:Q4 M l)(h:WT M l P):WT M l (Cx M by_ l P):=
 ⟨fun p a q c d=>(Gs a c).2 ⟨h.eqv p a q c d,fun b f=>h.eqv _ (g.st p a b (e.lt b f)) _ (g.st q c b (e.lt b f)) (d.st (e.lt b f))⟩,fun p a q c d=>h.fi p a q c ((Gs a c).1 d).1⟩
def RW(M:PA)(l:List Nat)(P:Nat→Nat):Prop:=∀p∈l,∀q∈l,P p=P q↔M.Eqv p q
theorem WT.done(n:AbL M by_)(f:Q4 M l)(h:WT M l P)(hs:∀p∈l,∀q∈l,P p=P q→Cx M by_ l P p=Cx M by_ l P q):RW M l (Cx M by_ l P):=by
 have k:∀p∈l,∀q∈l,P p=P q→∀b,b<256→P (M.st p b)=P (M.st q b):=fun p a q c d b i=>by
  obtain⟨g,o,-,e⟩:=n.cov b i;rw[←e p (f.lt p a),←e q (f.lt q c)];exact((Gs a c).1 (hs p a q c d)).2 g o
 have m:∀(w:List Nat) (p q:Nat),p∈l→q∈l→P p=P q→Cg w→M.fi (M.run p w)=M.fi (M.run q w):=by
  intro w
  induction w with
  | nil=>exact fun p q a c d _=>h.fi p a q c d
  | cons b w r=>
    intro p q a c d j;have i:=j b (by simp);exact r (M.st p b) (M.st q b) (f.st p a b i) (f.st q c b i) (k p a q c d b i) fun x s=>j x (YbY _ s)
 intro p a q c;constructor
 ·exact fun d w j=>m w p q a c ((Gs a c).1 d).1 j
 ·exact(h.next n f).eqv p a q c
end
theorem Lf{f:List Nat}{n:Nat}(a:f.Nodup)(h:∀q∈f,q<n):f.length≤n:=by
 have:=Iv (b:=AiO n) a fun q c=>YaY.2 (h q c);rwa [Ydv]at this
section
variable{M:PA}{P:Nat→Nat}{most:Nat}
def cst(M:PA)(P:Nat→Nat)(k b:Nat):Nat:=match(AiO M.n).find? (fun q=>P q=k)with
 | some q=>P (M.st q b)
 | none=>0
abbrev Hn(M:PA):List Nat:=AiO M.n
theorem Ut(h:M.Ok):Q4 M (Hn M):=⟨fun q a=>YaY.1 a,fun q a b c=>YaY.2 (h.cl q b (YaY.1 a) c)⟩
theorem Uv(d:M.Ok)(e:RW M (Hn M) P){q b:Nat}(a:q<M.n)(c:b<256):cst M P (P q) b=P (M.st q b):=by
 unfold cst;cases h:(AiO M.n).find? (fun x=>P x=P q)with
 | none=>
   have:=Yd4.1 h q (YaY.2 a);simp at this
 | some y=>
   have g:P y=P q:=by simpa using YdA h
   have f:=YaY.1 (Ydw h);have i:=(e y (YaY.2 f) q (YaY.2 a)).1 g;exact(e _ (YaY.2 (d.cl y b f c)) _ (YaY.2 (d.cl q b a c))).2 (i.st c)
end
end Go.Proofs.YtfbghcpdinlmcaaGreatDoor
namespace Go.VC
theorem ZN{α:Type}{Ok:α→Prop}{enc:α→v_}{P:w_}{t kt et vt:x_}{z:v_}{S:Nat→Prop}{H:Aa}{b:Nat}{m:α→Option v_}{l:List α}(M:I4 P t kt et z)(h:IK Ok enc H b m)(N:S b)(O:l.Nodup)(A:∀a,(m a).isSome=true↔a∈l)(C:∀a b:α,enc a=enc b→a=b){K:v_→Prop}
  (k:K (.int .i64 (l.length:Int))):AJ P (Builtin.len_ #[t] vt [.map (some b)].toArray) S H K:=by
 obtain⟨⟨g,D,Q,R,T,U⟩,V⟩:=h;have E:∀k,k≤g.size→∃l:List α,l.length=k∧∀(j:Nat) (a:α),l[j]?=some a→∃x,g[j]?=some x∧x.key=enc a∧m a=some x.val:=by
  intro k
  induction k with
  | zero=>exact fun _=>⟨[],rfl,fun j a h=>by simp at h⟩
  | succ k W=>
    intro L;have⟨l,A,n⟩:=W (by omega);have d:g[k]?=some g[k]:=Array.getElem?_eq_getElem (by omega);have⟨a,X,e2⟩:=T k _ d;refine⟨l++[a],by simp[A],fun j a' c=>?_⟩;by_cases Y:j<k
    ·rw[YaG (by omega)]at c;exact n j a' c
    ·have F:=(O_.1 c).1;simp only[J_,b_,m_]at F;obtain rfl:j=k:=by omega
     rw[List.getElem?_append_right (by omega),A,Nat.sub_self]at c;simp only[YcA,AkU.injEq]at c;subst c;exact⟨_,d,X,e2⟩
 have⟨B,p,n⟩:=E g.size (I_ _);have G:B.Nodup:=by
  unfold List.Nodup;rw[Ya9];intro i j C c Z e;obtain⟨x,d,q,-⟩:=n i _ (N' C);obtain⟨y,o,f,-⟩:=n j _ (N' c);rw[e]at q;have:=E2 R d o (q.trans f.symm);omega
 have r:∀a,a∈B↔a∈l:=fun a=>by
  rw[←A];constructor
  ·intro I;have⟨j,c⟩:=YaI I;obtain⟨x,-,-,e⟩:=n j a c;rw[e];rfl
  ·intro I;have⟨v,hv⟩:=Option.isSome_iff_exists.1 I;obtain⟨i,x,d,L,-⟩:=U a v hv;have s:i<B.length:=by rw[p];exact(Yaa.1 d).1
   obtain⟨y,o,f,-⟩:=n i _ (N' s);rw[d]at o;injection o with o
   subst o;have:=C _ _ (L.symm.trans f);rw[this];exact List.getElem_mem s
 have u:B.length=l.length:=List.Perm.length_eq (by
  classical
  exact(List.perm_ext_iff_of_nodup G O).2 r)
 refine AJ.mk _ (fun w hw=>?_) (show K (.int .i64 (g.size:Int)) by rw[←p,u];exact k);have J:=(hw b N).trans Q;simp[Builtin.len_,run_underlying M.under,Go.MapKept.run_getObj_map J,goInt]
end Go.VC
namespace Go.Proofs.YtfbghcpdinlmcaaGreatDoor
open Go.VC
section
attribute [local irreducible] Bj Bd AP
abbrev bsI(cs:List (BitVec 256)):List Int:=(Br cs).map fun(x:Nat)=>(x:Int)
theorem RG{S:Nat→Prop}{H:Aa}{I:Option Addr}{J:Nat}{cs:List (BitVec 256)}(M:∀k,S k→k<H.size)(s:g_ Cp S H I J cs)(N:cs.length≤256):
  Ak prog 153 #[.slice I cs.length J] H fun r H'=>C_ (H_ H) H H'∧∃ra rc,r= .slice ra cs.length rc∧l_ tU8 none_ H' H.size EI (.slice ra cs.length rc) (bsI cs):=by
 refine Ak.of_vc func153 rfl (call153 _) (D3 CS rfl (by omega) (by omega) (by omega) (by omega) ?_);intro O H1 t u f w;rw[U']at f;rw[U',show(0:Int).toNat=0 from rfl];have st1:=(St.nil H).newCap (T:=tU8) (cap:=cs.length) t u f w (by simp[GB]) (by unfold maxLen;omega);(conv=>whnf);refine A0.mk [3,13] (fun x:Nat×Option Addr×Nat=>match x with | (i,a,c)=>[.slice a i c,A_ i])
  (fun x H2=>match x with | (i,a,c)=>i≤cs.length∧St H H2 [pS tU8 EI a i c (bsI (cs.take i))]) (fun x _=>cs.length-x.1) ?_ ?_
 ·(conv=>whnf);exact⟨(0,some ⟨O,0,none⟩,cs.length),rfl,t_ _,st1⟩
 ·rintro⟨i,a,c⟩ H2 y ⟨X,b⟩;refine AG.m2 (fun P=>?_) (fun P=>?_)
  ·have⟨x,K⟩:=Ac (l:=cs) (k:=i) (by omega);have g:=BC x 0;refine ixr (i:=i) C0 (s.frame (b.old.mono M)) K rfl ?_;rintro Y Z Q R z rfl;refine L_ (cs:=Ad x) AT z trivial (Am (Bt 0) (Ad 0) rfl rfl ?_);intro sx H8 A B C D;have E:=b.box A B C D;refine AN (cs:=Ad x) E 1 rfl rfl (I_ _) rfl fun H9 e=>?_;rw[Aw (show(Ad x).length=(Ad 0).length from rfl)]at e;refine L_ (cs:=Ad x) AT ((e.blk 1 rfl).cells fun j v U=>by rw[K_];exact U) trivial ?_;refine Ah (LM x 0 (by decide) H9) fun H10 h=>?_;have m:=e.call h;refine Ay CS [.int .u8 ((AE x 0).1:Int)] rfl rfl (by decide) (by decide) ?_;intro V H11 n L o p;have q:(bsI (cs.take i)).length=i:=by simp only[bsI,Br,Z_,YaW];omega
   refine IN (x:=((AE x 0).1:Int)) (m.skip n p) 0 CS rfl o ⟨rfl,K5 g⟩ rfl (by omega) (by decide) fun F G H12 d _=>?_;have W:bsI (cs.take i)++[((AE x 0).1:Int)]=bsI (cs.take (i+1)):=by rw[Af K];simp[bsI,Br]
   rw[W,q]at d;rw[q];(conv=>whnf);rw[P_ i (by omega)];exact⟨rfl,(i+1,F,G),by simp,⟨by omega,d.pick [0] (by decide)⟩,by simp only;omega⟩
  ·obtain rfl:i=cs.length:=by omega
   rw[Yc0]at b;(conv=>whnf);exact⟨b.old,a,c,rfl,St.own b 0 rfl⟩
def Hv(x:Nat):List Nat:=Ea (x:Int)
def kN(k:List Nat):List Nat:=match k with
 | []=>[]
 | x::xs=>Hv x++xs.flatMap fun y=>32::Hv y
def rS(s:List Nat×Nat)(b:Nat):List Nat×Nat:=if b=32 then(s.1++[s.2],0)else(s.1,10*s.2+(b-48))
theorem RD:∀(p:List Nat) (a:List Nat) (n:Nat),(∀b∈p,48≤b∧b≤57)→p.foldl rS (a,n)=(a,Mb n p)
 | [],_,_,_=>rfl
 | b::p,a,n,h=>by
   have d:=h b (Yca ..);rw[Yc1,show rS (a,n) b=(a,10*n+(b-48)) by unfold rS;rw[D_ (by omega)],RD p a _ fun x c=>h x (YbY _ c)];rfl
theorem SD(x:Nat):∀b∈Hv x,48≤b∧b≤57:=HS (q:=(x:Int)) (by omega)
theorem SF(x:Nat):Mb 0 (Hv x)=x:=by
 have:=QX (q:=(x:Int)) (by omega);unfold Hv;omega
theorem W7:∀(xs:List Nat) (a:List Nat) (n:Nat),(xs.flatMap fun y=>32::Hv y).foldl rS (a,n)=((a++[n]++xs).dropLast,(n::xs).getLast (by simp))
 | [],a,n=>by simp
 | x::xs,a,n=>by
   rw[Yc6,Ybh,Yc1,show rS (a,n) 32=(a++[n],0) by unfold rS;rw[F_ rfl],RD (Hv x) _ _ (SD x),SF,W7 xs];simp
theorem Wo(x:Nat)(xs:List Nat):(kN (x::xs)).foldl rS ([],0)=((x::xs).dropLast,(x::xs).getLast (by simp)):=by
 show(Hv x++xs.flatMap fun y=>32::Hv y).foldl rS ([],0)=_;rw[Ybh,RD (Hv x) _ _ (SD x),SF,W7];simp
theorem AgP{k m:List Nat}(b:k≠[])(c:m≠[])(h:kN k=kN m):k=m:=by
 cases k with
 | nil=>exact absurd rfl b
 | cons x xs=>
   cases m with
   | nil=>exact absurd rfl c
   | cons y ys=>
     have a:=Wo x xs;rw[h,Wo y ys]at a;injection a with e1 e2
     rw[←Ydb (l:=x::xs) (by simp),←Ydb (l:=y::ys) (by simp),e1,e2]
theorem AfD(k:List Nat):∀b∈kN k,b<256:=by
 have c:∀x:Nat,∀b∈Hv x,b<256:=fun x b a=>by have:=HS (q:=(x:Int)) (by omega) b a;omega
 intro b a;cases k with
 | nil=>cases a
 | cons x xs=>
   rcases q_.1 a with a | a
   ·exact c x b a
   ·obtain⟨y,-,a⟩:=YcS.1 a;rcases YaP.1 a with rfl | a
    ·decide
    ·exact c y b a
theorem Wp(x:Nat)(xs:List Nat)(y:Nat):kN (x::(xs++[y]))=kN (x::xs)++[32]++Hv y:=by
 show Hv x++(xs++[y]).flatMap _=_;rw[YcV];show _=(Hv x++xs.flatMap _)++[32]++Hv y;simp
theorem SC{x:Nat}(h:x<65536):(Hv x).length≤5:=QW (by omega)
theorem AgQ(x:Nat):∀xs:List Nat,(∀y∈x::xs,y<65536)→(kN (x::xs)).length≤5+6*xs.length:=by
 intro xs
 induction xs using JV with
 | h0=>intro h;have:=SC (h x (by simp));simp[kN];omega
 | hs xs y b=>
   intro h;have c:=b fun z a=>h z (by
    rcases YaP.1 a with rfl | a
    ·simp
    ·simp[a])
   have d:=SC (h y (by simp));rw[Wp];simp only[J_,b_,m_];omega
theorem AiR(x:Nat)(xs:List Nat):kN (x::xs)≠[]:=by
 have:Hv x≠[]:=by
  unfold Hv;rw[MT (by omega),Go.Lib.decDigits];split<;>simp
 intro h;exact this (List.append_eq_nil_iff.1 h).1
def kB(k:List Nat):ByteArray:=⟨((kN k).map UInt8.ofNat).toArray⟩
theorem ZD{k m:List Nat}(a:k≠[])(b:m≠[])(h:kB k=kB m):k=m:=by
 have:=congrArg R_ h;unfold kB at this;rw[QP (AfD k),QP (AfD m)]at this;exact AgP a b this
def enM(F:List (List Nat))(s:ByteArray):Option v_:=(F.findIdx? fun k=>decide (kB k=s)).map fun(i:Nat)=>.int .i64 (i:Int)
def NE(F:List (List Nat)):Prop:=∀k∈F,k≠[]
section
variable{F:List (List Nat)}
theorem VM(a:NE F){k:List Nat}(b:k≠[]):(F.findIdx? fun l=>decide (kB l=kB k))=F.findIdx? (·=k):=by
 induction F with
 | nil=>rfl
 | cons l F c=>
   have d:decide (kB l=kB k)=decide (l=k):=decide_eq_decide.2 ⟨fun h=>ZD (a l (by simp)) b h,fun h=>by rw[h]⟩;rw[YcQ,YcQ,d,c fun m e=>a m (YbY _ e)]
theorem AcD(a:NE F){k:List Nat}(b:k≠[]):enM F (kB k)=(F.findIdx? (·=k)).map fun(i:Nat)=>.int .i64 (i:Int):=by
 unfold enM;rw[VM a b]
theorem AcE{k:List Nat}(a:(F.findIdx? fun l=>decide (kB l=kB k))=none):put (enM F) (kB k) (some (.int .i64 (F.length:Int)))=enM (F++[k]):=by
 funext s;unfold put enM;rw[YcZ];by_cases hs:s=kB k
 ·subst hs;rw[F_ rfl,a];simp[YcQ]
 ·rw[D_ hs];cases h:F.findIdx? fun l=>decide (kB l=s)with
  | some i=>simp
  | none=>
    have:kB k≠s:=fun e=>hs e.symm;simp[YcQ,this]
theorem NR{s:ByteArray}:(enM F s).isSome=true↔s∈F.map kB:=by
 unfold enM;rw[Option.isSome_map,List.findIdx?_isSome,List.any_eq_true,I'];constructor
 ·rintro⟨k,a,h⟩;exact⟨k,a,of_decide_eq_true h⟩
 ·rintro⟨k,a,rfl⟩;exact⟨k,a,n_ rfl⟩
theorem U1(a:NE F)(b:F.Nodup):(F.map kB).Nodup:=by
 unfold List.Nodup at b ⊢;rw[Ydz];exact b.imp_of_mem fun c d h e=>h (ZD (a _ c) (a _ d) e)
theorem U5{k:List Nat}(h:k∈F):F.findIdx? (·=k)=some (ixF F k):=by
 rw[YcP];have a:=K6 h;have b:=(O_.1 (Ib h)).2;refine⟨a,n_ b,fun j c=>?_⟩;have:=Yd1 (p:=fun x=>decide (x=k)) (xs:=F) (show j<F.findIdx (fun x=>decide (x=k))from c);simpa using this
theorem Mm{k:List Nat}(h:k∉F):F.findIdx? (·=k)=none:=by
 rw[Ydu];intro x a;exact j_ fun e=>h (by rw[←e];exact a)
end
def paO(o:Option AM):PA:=⟨stN o,fun q b=>(As o (q:Int) b).toNat,fun q=>AY o (q:Int)⟩
theorem UU{o:Option AM}(h:DS o):(paO o).Ok:=⟨h.n1,fun q b a c=>by
 have:=h.step (q:Int) b ⟨by omega,by have:q<stN o:=a;omega⟩ c;have d:=this.1;have e:=this.2;show(As o (q:Int) b).toNat<stN o;omega⟩
theorem Aa0{o:Option AM}(h:DS o){q b:Nat}(c:q<stN o)(a:b<256):As o (q:Int) b=((paO o).st q b:Int):=by
 have:=h.step (q:Int) b ⟨by omega,by omega⟩ a;have d:=this.1;show As o (q:Int) b=((As o (q:Int) b).toNat:Int);omega
def tbl(f:Nat→Nat)(k n:Nat):List Int:=(AiO n).map fun p=>if p<k then(f p:Int)else 0
theorem Ix(f:Nat→Nat)(k n:Nat):(tbl f k n).length=n:=by simp[tbl]
theorem Lv{f:Nat→Nat}{k n p:Nat}(h:p<n):(tbl f k n)[p]?=some (if p<k then(f p:Int)else 0):=by
 unfold tbl;rw[o_,YaR h];rfl
theorem RP{f:Nat→Nat}{k n:Nat}(h:k<n):(tbl f k n).set k (f k:Int)=tbl f (k+1) n:=by
 apply YaJ;intro j;by_cases a:j<n
 ·rw[Lv a,YaT,Ix];by_cases b:k=j
  ·subst b;rw[F_ rfl,F_ a,F_ (by omega)]
  ·rw[D_ b,Lv a];by_cases c:j<k
   ·rw[F_ c,F_ (by omega)]
   ·rw[D_ c,D_ (by omega)]
 ·rw[YaL (by rw[YaH,Ix];omega),YaL (by rw[Ix];omega)]
theorem TN(f:Nat→Nat)(n:Nat):tbl f 0 n=AjS n 0:=by
 unfold tbl;simp[List.map_const']
theorem Ab1{f:Nat→Nat}{k n:Nat}(h:f k=0):tbl f k n=tbl f (k+1) n:=by
 unfold tbl;refine YcE fun p c=>?_;by_cases a:p<k
 ·rw[F_ a,F_ (by omega)]
 ·rw[D_ a];by_cases b:p=k
  ·subst b;rw[F_ (by omega),h]<;>rfl
  ·rw[D_ (by omega)]
theorem Pa{H:Aa}(n:Nat):u_.reps none_ H (AjS n (Value.int .i64 0)) (AjS n (0:Int)):=by
 have:=EF (T:=u_) (S:=none_) (H:=H) (c:=[Value.int .i64 0]) (v:=(0:Int)) ⟨rfl,FQ ⟨by decide,by decide⟩⟩ n;simpa using this
theorem S2{M:PA}{by_ l:List Nat}{P:Nat→Nat}(e:∀b∈by_,b<256)(f:Q4 M l)(h:∀p∈l,∀q∈l,P p=P q):∀p∈l,∀q∈l,Cx M by_ l P p=Cx M by_ l P q:=fun p c q d=>
 (Gs c d).2 ⟨h p c q d,fun b a=>h _ (f.st p c b (e b a)) _ (f.st q d b (e b a))⟩
def fnd(M:PA)(by_:List Nat)(P:Nat→Nat)(q:Nat):List (List Nat):=dd ((AiO q).map (Du M by_ P))
theorem SJ(M:PA)(by_:List Nat)(P:Nat→Nat)(q:Nat):fnd M by_ P (q+1)=if Du M by_ P q∈fnd M by_ P q then fnd M by_ P q else fnd M by_ P q++[Du M by_ P q]:=by
 unfold fnd;rw[YcW,YcB,YaV,Yc8,JK];by_cases h:Du M by_ P q∈dd ((AiO q).map (Du M by_ P))
 ·rw[F_ h,F_ h]
 ·rw[D_ h,D_ h]
theorem AcV(M:PA)(by_:List Nat)(P:Nat→Nat){q n:Nat}(h:q≤n):fnd M by_ P q <+: fnd M by_ P n:=by
 unfold fnd;have e:AiO n=AiO q++(AiO n).drop q:=by
  conv=>lhs;rw[←YcC q (AiO n)]
  rw[List.take_range,Nat.min_eq_left h]
 rw[e,YcB];exact AgB _ _
theorem NX(M:PA)(by_:List Nat)(P:Nat→Nat)(q:Nat):NE (fnd M by_ P q):=fun k a=>by
 obtain⟨x,-,rfl⟩:=I'.1 ((D9 _ _).1 a);exact Yd6 _ _
theorem Rg(M:PA)(by_:List Nat)(P:Nat→Nat)(q:Nat):(fnd M by_ P q).length≤q:=by
 have:=Za ((AiO q).map (Du M by_ P));rw[Z_,Ydv]at this;exact this
theorem Vb{M:PA}{by_:List Nat}{P:Nat→Nat}{q:Nat}(a:q<M.n):Cx M by_ (Hn M) P q=ixF (fnd M by_ P (q+1)) (Du M by_ P q):=
 AdA (AcV M by_ P (show q+1≤M.n by omega)) (by
  unfold fnd;exact(D9 _ _).2 (I'.2 ⟨q,YaY.2 (by omega),rfl⟩))
def IC(M:PA)(by_:List Nat)(P:Nat→Nat)(q j:Nat):List Nat:=P q::(by_.take j).map fun b=>P (M.st q b)
theorem LN(k:List Nat):((kN k).map fun(x:Nat)=>(x:Int)).length=(kN k).length:=Z_ _
theorem Ux(x:Nat):I9 (x:Int)=(Hv x).map fun(y:Nat)=>(y:Int):=Zg (x:Int)
theorem UP{P:w_}{s d:x_}{H0 H:Aa}{a:Option Addr}{n c:Nat}{k:List Nat}{K:v_→Aa→Prop}(u:St H0 H [pS tU8 EI a n c (k.map fun(y:Nat)=>(y:Int))])(q:k≠[])(hs:P.underlying s=some (.slice EI))(r:P.underlying EI=some (.int .u8))(t:P.underlying d=some .string)
  (h:K (.string ⟨(k.map UInt8.ofNat).toArray⟩) H):BH P (convert s d (.slice a n c)) H K:=by
 have g:=u.len 0 rfl;rw[Z_]at g;obtain⟨z,⟨-,l⟩,m⟩:=u.at_ 0 rfl |>.1
 obtain⟨rfl,-⟩:=Lm m;rcases l with⟨i,o⟩ | ⟨b,A,B,i,-,v,-,-,-,p⟩
 ·rw[Z_]at o;exact absurd (Ya8 o) q
 ·injection i with i o h3
  subst i;refine AbA k (e:=EI) hs r t (fun j x w=>?_) g h;have f:((k.map fun(y:Nat)=>(y:Int)).map (Value.int .u8))[j]?=some (.int .u8 (x:Int)):=by
   rw[o_,o_,w];rfl
  rw[←p,YaK]at f;split at f
  ·rw[K_,v.cell];exact f
  ·cases f
structure BlkI(M:PA)(P:Nat→Nat)(cnt:Nat):Prop where
 rnd:WT M (Hn M) P
 lt:∀q,q<M.n→P q<65536
 cnt:cls (Hn M) P=cnt∨∀p∈Hn M,∀q∈Hn M,P p=P q
theorem YH{S:Nat→Prop}{H:Aa}{v:v_}{o:Option AM}{ba:Option Addr}{bc:Nat}{by_:List Nat}(hS:∀k,S k→k<H.size)(hv:AZ S H v o)(hby:g_ tU8 S H ba bc (by_.map fun(x:Nat)=>(x:Int)))(d:AbL (paO o) by_)(d3:by_.length≤256)(ak:EM prog H):
  Ak prog 184 #[v,.slice ba by_.length bc] H fun r H'=>C_ (H_ H) H H'∧∃P ra rc,RW (paO o) (Hn (paO o)) P∧(∀q,q<stN o→P q<stN o)∧r= .slice ra (stN o) rc∧l_ u_ none_ H' H.size 3 (.slice ra (stN o) rc) (tbl P (stN o) (stN o)):=by
 have N:=hv.steps;have bx:=N.n1;have bz:=N.n2;have hM:=UU N;have O:=Ut hM;have c1:(by_.map fun(x:Nat)=>(x:Int)).length=by_.length:=Z_ _;obtain⟨n,hn⟩:∃n,n=stN o:=⟨_,rfl⟩;have z:(paO o).n=n:=hn.symm;obtain⟨M,a2⟩:∃M,M=paO o:=⟨_,rfl⟩;have am:∀{G:Aa},C_ (H_ H) H G→AZ S G v o:=fun h=>hv.frame (h.mono hS);have up:∀{G:Aa},C_ (H_ H) H G→∀k,S k→k<G.size:=fun h k hk=>Ar h (hS k hk);refine Ak.of_vc func184 rfl (call184 _) (Ah (HI hv) fun H1 c2=>?_);rw[←hn]at bx bz ⊢;rw[←a2]at hM O z d ⊢;have st1:St H H1 []:=(St.nil H).call c2;refine D3 AU rfl (by omega) (by omega) (by omega) (by omega) ?_;intro pb H2 c3 ao a3 ap;rw[U']at a3 ⊢;have a4:St H H2 [pS u_ 3 (T_ pb) n n (AjS n 0)]:=st1.new (T:=u_) (n:=n) (xs:=AjS n (0:Int)) c3 ao (by simpa using a3) ap (Pa n) (by simp) (by unfold maxLen;omega)
 let P0:Nat→Nat:=fun q=>if M.fi q then 1 else 0
 have f:∀q,P0 q=if M.fi q then 1 else 0:=fun _=>rfl
 rw[←TN P0 n]at a4;(conv=>whnf);refine A0.mk [7,22] (fun x:Nat×Nat=>match x with | (q,c)=>[A_ c,A_ q])
  (fun x H3=>match x with | (q,c)=>q≤n∧(c=if(∃p,p<q∧M.fi p=true)then 2 else 1)∧St H H3 [pS u_ 3 (T_ pb) n n (tbl P0 q n)]) (fun x _=>n-x.1) ?_ ?_
 ·(conv=>whnf);exact⟨(0,1),rfl,t_ _,by rw[D_ (fun⟨p,h,_⟩=>by omega)],a4⟩
 ·rintro⟨q,c⟩ H3 c4 ⟨hq,hc,Q⟩;refine AG.m2 (fun hz=>?_) (fun hz=>?_)
  ·have c6:q<n:=by omega
   refine An.run (Ah (FN (am Q.old)) fun H4 c7=>?_);have A:=Q.call c7;have cd:AY o (q:Int)=M.fi q:=by rw[a2];rfl
   rw[cd];cases hf:M.fi q with
   | true=>
     have e0:P0 q=1:=by rw[f,hf];rfl
     refine ix AU (by omega) (by omega) ?_;refine GA (j:=q) (x:=(P0 q:Int)) A 0 E_ rfl rfl (by omega) (by rw[Ix];omega) rfl (fun H' _=>by rw[e0];exact⟨rfl,FQ ⟨by decide,by decide⟩⟩) fun H5 B=>?_;rw[RP c6]at B;(conv=>whnf);rw[P_ q (by omega)];exact⟨rfl,(q+1,2),by simp,⟨by omega,by rw[F_ ⟨q,by omega,hf⟩],B⟩,by simp only;omega⟩
   | false=>
     have e0:P0 q=0:=by rw[f,hf];rfl
     rw[Ab1 e0]at A;(conv=>whnf);rw[P_ q (by omega)];refine⟨rfl,(q+1,c),by simp,⟨by omega,?_,A⟩,by simp only;omega⟩;rw[hc];by_cases L:∃p,p<q∧M.fi p=true
     ·rw[F_ L,F_ (by have⟨p,h2,h3⟩:=L;exact⟨p,by omega,h3⟩)]
     ·rw[D_ L,D_ fun⟨p,h2,h3⟩=>by
       by_cases ce:p=q
       ·subst ce;rw[hf]at h3;cases h3
       ·exact L ⟨p,by omega,h3⟩]
  ·obtain rfl:q=n:=by omega
   have aq:BlkI M P0 c:=by
    refine⟨⟨fun p hp r W he=>by rw[f,f,he.fi],fun p hp r W he=>?_⟩,fun r W=>by rw[f];split<;>decide,?_⟩
    ·rw[f,f]at he;cases L:M.fi p<;>cases h2:M.fi r<;>rw[L,h2]at he<;>first | rfl | (exact absurd he (by decide))
    ·by_cases C:∀p∈Hn M,∀r∈Hn M,P0 p=P0 r
     ·exact .inr C
     ·left;have L:∃p,p<q∧M.fi p=true:=by
       apply Classical.byContradiction;intro a6;refine C fun p hp r W=>?_;have e:∀x∈Hn M,P0 x=0:=fun x u=>by
        rw[f];cases a7:M.fi x with
        | false=>rfl
        | true=>exact absurd ⟨x,by rw[←z];exact YaY.1 u,a7⟩ a6
       rw[e p hp,e r W]
      have h2:∃p,p<q∧M.fi p=false:=by
       apply Classical.byContradiction;intro a6;refine C fun p hp r W=>?_;have e:∀x∈Hn M,P0 x=1:=fun x u=>by
        rw[f];cases a7:M.fi x with
        | true=>rfl
        | false=>exact absurd ⟨x,by rw[←z];exact YaY.1 u,a7⟩ a6
       rw[e p hp,e r W]
      rw[hc,F_ L];have⟨p1,k1,k2⟩:=L;have⟨p2,k3,k4⟩:=h2;unfold cls;have l1:=Iv (a:=[0,1]) (b:=dd ((Hn M).map P0)) (by decide) fun x u=>by
       rw[D9,I'];simp only[YaP,Yc4,or_false]at u;rcases u with rfl | rfl
       ·exact⟨p2,YaY.2 (by omega),by rw[f,k4];rfl⟩
       ·exact⟨p1,YaY.2 (by omega),by rw[f,k2];rfl⟩
      have l2:=Iv (a:=dd ((Hn M).map P0)) (b:=[0,1]) (NP _) fun x u=>by
       rw[D9,I']at u;obtain⟨y,-,rfl⟩:=u;rw[f];split<;>simp
      simp only[b_,m_]at l1 l2;omega
   have ar:c≤q+2:=by rw[hc];split<;>omega
   clear hc a4 st1 a3 ap ao
   clear_value P0
   have a8:∀a b:ByteArray,Value.string a=Value.string b→a=b:=fun a b h=>by injection h
   (conv=>whnf);refine A0.mk [6,7] (fun x:(Nat→Nat)×Nat×Option Addr×Nat=>match x with | (P,cnt,xa,xc)=>[.slice xa q xc,A_ cnt])
    (fun x H4=>match x with | (P,cnt,xa,xc)=>BlkI M P cnt∧cnt≤q+2∧St H H4 [pS u_ 3 xa q xc (tbl P q q)]) (fun x _=>q+2-x.2.1) ?_ ?_
   ·(conv=>whnf);exact⟨(P0,c,some ⟨pb,0,none⟩,q),rfl,aq,ar,Q⟩
   ·clear aq ar Q f hz;rintro⟨P,cnt,xa,xc⟩ H4 cg ⟨hI,d4,A⟩;obtain⟨R,hR⟩:∃R,R=Cx M by_ (Hn M) P:=⟨_,rfl⟩;refine LL (Ok:=I8) (enc:=Value.string) fun mb H5 au aw ax ay=>?_;have B:=A.mapNewW au aw ax ay;refine D3 AU rfl (by omega) (by omega) (by omega) (by omega) ?_;intro nb H6 ch az ab b0;rw[U']at ab ⊢;have ae:=B.new (T:=u_) (n:=q) (xs:=AjS q (0:Int)) ch az (by simpa using ab) b0 (Pa q) (by simp) (by unfold maxLen;omega);rw[←TN R q]at ae;(conv=>whnf);refine A0.mk [36] (fun i:Nat=>[A_ i]) (fun i H7=>i≤q∧St H H7 [pS u_ 3 xa q xc (tbl P q q),pMW I8 Value.string mb (enM (fnd M by_ P i)),pS u_ 3 (T_ nb) q q (tbl R i q)]) (fun i _=>q-i) ?_ ?_
    ·(conv=>whnf);exact⟨0,rfl,t_ _,ae⟩
    ·clear ae B ab b0 az ax ay aw au;rintro i H7 cj ⟨hi,g⟩;refine AG.m2 (fun hz=>?_) (fun hz=>?_)
     ·have U:i<q:=by omega
      have ck:=hI.lt i (by omega);have cm:(tbl P q q)[i]?=some (P i:Int):=by rw[Lv U,F_ U]
      have ag:R i=ixF (fnd M by_ P (i+1)) (Du M by_ P i):=by rw[hR];exact Vb (by omega)
      have X:∀b∈by_,M.st i b<q:=fun b hb=>by rw[←z];exact hM.cl i b (by omega) (d.lt b hb)
      have co:∀j,∀y∈IC M by_ P i j,y<65536:=fun j y hy=>by
       rcases YaP.1 hy with rfl | hy
       ·exact ck
       ·obtain⟨b,hb,rfl⟩:=I'.1 hy;exact hI.lt _ (by have:=X b (Ydg hb);omega)
      have cp:∀j,(kN (IC M by_ P i j)).length≤1600:=fun j=>by
       have L:=AgQ (P i) ((by_.take j).map fun b=>P (M.st i b)) (co j);have h2:((by_.take j).map fun b=>P (M.st i b)).length≤256:=by rw[Z_,YaW];omega
       unfold IC;omega
      refine ixO (j:=i) AU g 0 rfl cm rfl ?_;rintro b8 o8 c8 d5 cq ⟨rfl,-⟩;refine lT E_ cq.one ?_;have u7:St H7 H7 [pS tU8 EI none 0 0 []]:=(St.nil H7).nils tU8 EI;have D:=ak.agr g.old;refine Ag3 QE u7 D (by omega) (by omega) (by simp) fun a9 c9 H9 u9=>?_;have e0:Hv (P i)=kN (IC M by_ P i 0):=by simp[IC,kN]
      rw[Ybo,Ux,e0,LN]at u9;rw[Ybo,Ux,e0,LN];(conv=>whnf);refine A0.mk [12,46] (fun x:Nat×Option Addr×Nat=>match x with | (j,a5,c5)=>[.slice a5 (kN (IC M by_ P i j)).length c5,A_ j])
       (fun x H8=>match x with | (j,a5,c5)=>j≤by_.length∧St H7 H8 [pS tU8 EI a5 (kN (IC M by_ P i j)).length c5 ((kN (IC M by_ P i j)).map fun(y:Nat)=>(y:Int))]) (fun x _=>by_.length-x.1) ?_ ?_
      ·(conv=>whnf);exact⟨(0,a9,c9),rfl,t_ _,u9⟩
      ·clear u9;rintro⟨j,a5,c5⟩ H10 bw ⟨hj,w⟩;have d6:=cp j;have b4:C_ (H_ H) H H10:=g.old.trans (w.old.mono fun k hk=>g.up hk);refine AG.m2 (fun cr=>?_) (fun cr=>?_)
       ·have⟨b,hb⟩:=Ac (l:=by_) (k:=j) (by omega);have b5:=c_ hb;have b6:=d.lt b b5;have b7:=X b b5;have d7:=hI.lt (M.st i b) (by omega);have ct:IC M by_ P i (j+1)=P i::(((by_.take j).map fun b=>P (M.st i b))++[P (M.st i b)]):=by
         unfold IC;rw[Af hb,YcB];rfl
        refine IB (i:=j) (x:=(b:Int)) CS (hby.frame (b4.mono hS)) c1.symm (by rw[o_,hb];rfl) rfl ?_;rintro d8 d9 da cz b9 ⟨rfl,-⟩;refine G_ ct5 b9.one trivial (Ay CS [.int .u8 32] rfl rfl (by decide) (by decide) ?_);intro db H12 bd d0 be bf;refine IN (x:=(32:Int)) (w.skip bd bf) 0 CS rfl be ⟨rfl,K5 (x:=32) (by decide)⟩ rfl (by rw[LN];omega) (by decide) fun dc de H13 ah _=>?_;have e1:((kN (IC M by_ P i j)).map fun(y:Nat)=>(y:Int))++[32]=(kN (IC M by_ P i j)++[32]).map fun(y:Nat)=>(y:Int):=by rw[YcB];rfl
        have e2:((kN (IC M by_ P i j)).map fun(y:Nat)=>(y:Int)).length+1=(kN (IC M by_ P i j)++[32]).length:=by rw[LN];simp
        rw[e1,e2]at ah;rw[e2];have Y:C_ (H_ H) H H13:=g.old.trans (ah.old.mono fun k hk=>g.up hk);refine Ah (F6 (up Y) (am Y) b6) fun H14 bg=>?_;have bh:=ah.call bg;have e3:As o (i:Int) b=(M.st i b:Int):=by rw[a2];exact Aa0 N (by omega) b6
        rw[e3];have bi:=g.call bh.old;refine ixO (j:=M.st i b) AU bi 0 rfl (by rw[Lv b7,F_ b7]) rfl ?_;rintro df dg dh d2 bj ⟨rfl,-⟩;refine lT E_ bj.one ?_;refine Ag3 QE bh D (by omega) (by omega) (by rw[Z_,J_];simp only[b_,m_];omega) fun cu cw H16 bm=>?_;have e4:((kN (IC M by_ P i j)++[32]).map fun(y:Nat)=>(y:Int))++I9 (P (M.st i b):Int)=(kN (IC M by_ P i (j+1))).map fun(y:Nat)=>(y:Int):=by
         rw[Ux,←YcB,ct,Wp];rfl
        rw[e4,LN]at bm;rw[e4,LN];(conv=>whnf);rw[P_ j (by omega)];exact⟨rfl,(j+1,cu,cw),by simp,⟨by omega,bm⟩,by simp only;omega⟩
       ·obtain rfl:j=by_.length:=by omega
        have bn:IC M by_ P i by_.length=Du M by_ P i:=by unfold IC Du;rw[Yc0]
        rw[bn]at w ⊢;have Z:kN (Du M by_ P i)≠[]:=AiR _ _;have bo:=g.cat w;have bp:Du M by_ P i≠[]:=Yd6 _ _;have ai:Du M by_ P i∈fnd M by_ P (i+1):=by unfold fnd;exact(D9 _ _).2 (I'.2 ⟨i,YaY.2 (by omega),rfl⟩)
        have E:=K6 ai;have cx:=Rg M by_ P (i+1);refine UP w Z rfl rfl rfl ?_;have bq:(⟨((kN (Du M by_ P i)).map UInt8.ofNat).toArray⟩:ByteArray)=kB (Du M by_ P i):=rfl;rw[bq];generalize br:kB (Du M by_ P i)=kb at*;have m:St H H10 [pS u_ 3 xa q xc (tbl P q q),pMW I8 Value.string mb (enM (fnd M by_ P i)),pS u_ 3 (T_ nb) q q (tbl R i q),pS tU8 EI a5 (kN (Du M by_ P i)).length c5 ((kN (Du M by_ P i)).map fun(y:Nat)=>(y:Int))]:=bo;have a0:=AcD (NX M by_ P i) bp;rw[br]at a0;refine Jj (a:=kb) Om Wq trivial (m.mapW 1 rfl) trivial ?_;rw[a0];by_cases hm:Du M by_ P i∈fnd M by_ P i
        ·rw[U5 hm];have I:fnd M by_ P (i+1)=fnd M by_ P i:=by rw[SJ,F_ hm]
         have V:R i=ixF (fnd M by_ P i) (Du M by_ P i):=by rw[ag,I]
         have cy:R i<65536:=by rw[ag];omega
         rw[←V];refine An.run (ix AU (by omega) (by omega) ?_);refine GA (j:=i) (x:=(R i:Int)) m 2 E_ rfl rfl (by omega) (by rw[Ix];omega) rfl (fun H' _=>⟨rfl,FQ ⟨by omega,by omega⟩⟩) fun H11 t=>?_;rw[RP U]at t;(conv=>whnf);rw[P_ i (by omega)];refine⟨rfl,i+1,by simp,⟨by omega,?_⟩,by omega⟩;rw[I];exact t.pick [0,1,2] (by decide)
        ·rw[Mm hm];have I:fnd M by_ P (i+1)=fnd M by_ P i++[Du M by_ P i]:=by rw[SJ,D_ hm]
         have V:R i=(fnd M by_ P i).length:=by rw[ag,I];exact Ad9 hm
         have cy:R i<65536:=by have:=Rg M by_ P i;rw[V];omega
         have bu:=AcE (F:=fnd M by_ P i) (k:=Du M by_ P i) (by rw[VM (NX M by_ P i) bp];exact Mm hm);rw[br]at bu;refine An.run (ZN (S:=fun _=>True) (l:=(fnd M by_ P i).map kB) Om (m.mapW 1 rfl) trivial (U1 (NX M by_ P i) (NP _)) (fun s=>NR) a8 ?_);rw[Z_];refine UP w Z rfl rfl rfl ?_;rw[bq];refine Jk (a:=kb) m 1 Om Wq trivial rfl bu fun H11 t=>?_;rw[←V];refine ix AU (by omega) (by omega) ?_;refine GA (j:=i) (x:=(R i:Int)) t 2 E_ rfl rfl (by omega) (by rw[Ix];omega) rfl (fun H' _=>⟨rfl,FQ ⟨by omega,by omega⟩⟩) fun H12 a1=>?_;rw[RP U]at a1;(conv=>whnf);rw[P_ i (by omega)];refine⟨rfl,i+1,by simp,⟨by omega,?_⟩,by omega⟩;rw[I];exact a1.pick [0,1,2] (by decide)
     ·obtain rfl:i=q:=by omega
      have J:found M by_ (Hn M) P=fnd M by_ P i:=by unfold found fnd;rw[←z]
      have cx:=Rg M by_ P i;have E:∀x,x<i→R x<(fnd M by_ P i).length:=fun x u=>by
       rw[hR,←J];exact Qh (YaY.2 (by omega))
      have K:=hI.rnd.next d O
      rw[←hR]at K;have bv:cls (Hn M) R=(fnd M by_ P i).length:=by rw[hR,Va,J]
      refine ZN (S:=fun _=>True) (l:=(fnd M by_ P i).map kB) Om (g.mapW 1 rfl) trivial (U1 (NX M by_ P i) (NP _)) (fun s=>NR) a8 ?_;rw[Z_];by_cases aj:(fnd M by_ P i).length≤cnt
      ·have d1:decide (((fnd M by_ P i).length:Int)≤(cnt:Int))=true:=e_;(conv=>whnf);rw[d1];(conv=>whnf);refine⟨g.old,R,some ⟨nb,0,none⟩,i,?_,fun x u=>?_,rfl,St.own g 2 rfl⟩
       ·rw[hR];refine hI.rnd.done d O ?_;rcases hI.cnt with h | h
        ·exact Tu (by rw[J,h];exact aj)
        ·exact fun p hp r W _=>S2 d.lt O h p hp r W
       ·have:=E x u;omega
      ·have d1:decide (((fnd M by_ P i).length:Int)≤(cnt:Int))=false:=V_;(conv=>whnf);rw[d1];refine ZN (S:=fun _=>True) (l:=(fnd M by_ P i).map kB) Om (g.mapW 1 rfl) trivial (U1 (NX M by_ P i) (NP _)) (fun s=>NR) a8 ?_;rw[Z_];(conv=>whnf);exact⟨rfl,(R,(fnd M by_ P i).length,some ⟨nb,0,none⟩,i),rfl,⟨⟨K,fun x u=>by have:=E x (by omega);omega,.inl bv⟩,by omega,g.pick [2] (by decide)⟩,by simp only;omega⟩
theorem Mk{α:Type}{p:α→Bool}:∀(l:List α) (k:Nat) (x:α),l[k]?=some x→p x=true→(∀(c:Nat) (y:α),l[c]?=some y→p y=true→c=k)→(l.filter p).length=1
 | [],k,x,h,_,_=>by simp at h
 | a::l,0,x,h,hp,hu=>by
   simp only[YcA,AkU.injEq]at h;subst h;have:l.filter p=[]:=by
    rw[List.filter_eq_nil_iff];intro y d b;have⟨j,f⟩:=YaI d;have:=hu (j+1) y (by rw[Yba];exact f) b;omega
   rw[List.filter_cons_of_pos hp,this];rfl
 | a::l,k+1,x,h,hp,hu=>by
   rw[Yba]at h;have g:p a=false:=by
    cases e:p a with
    | false=>rfl
    | true=>have:=hu 0 a rfl e;omega
   rw[List.filter_cons_of_neg (by rw[g];decide)];exact Mk l k x h hp fun c y d b=>by
    have:=hu (c+1) y (by rw[Yba];exact d) b;omega
section
variable{o:Option AM}
theorem Sz{a:List Nat}(h:CM o a){b:Nat}(d:b<256):cnt (Ag o) b=1:=by
 have⟨k,c,e,f,g⟩:=h.part b d;exact Mk _ k c e f g
theorem Mg{d:List Nat}(h:CM o d):(Ag o).length≤256:=by
 rw[←h.len];refine Lf (n:=256) (h.up.imp fun h=>by omega) fun q e=>?_;have⟨k,b⟩:=YaI e;have⟨c,f⟩:=Ac (l:=Ag o) (k:=k) (by rw[←h.len];exact(O_.1 b).1);obtain⟨l,a,g,-⟩:=h.least k c f;rw[b]at a;injection a with a
 omega
theorem QQ{e:List Nat}(h:CM o e):AbL (paO o) (Br (Ag o)):=by
 refine⟨fun b a=>?_,fun b a=>?_⟩
 ·obtain⟨c,-,rfl⟩:=I'.1 a;exact BC c 0
 ·obtain⟨k,c,d,f,-⟩:=h.part b a;obtain⟨l,g,p,i,-⟩:=h.least k c d;have⟨j,m⟩:=h.keeps k c l b d g a f;refine⟨l,?_,j,fun q n=>?_⟩
  ·rw[←i];exact c_ (IV d)
  ·show(As o (q:Int) l).toNat=(As o (q:Int) b).toNat;rw[m (q:Int) (by omega) (by have:q<stN o:=n;omega)]
theorem NK{g:List Nat}(h:CM o g):∃p:Nat→Bool,Br (Ag o)=(AiO 256).filter p∧∀b,p b=true↔b∈Br (Ag o):=by
 have r:Br (Ag o)=g:=by
  apply YaJ;intro k;by_cases v:k<(Ag o).length
  ·have⟨c,s⟩:=Ac v;obtain⟨l,i,t,d,-⟩:=h.least k c s;rw[IV s,d,i]
  ·rw[YaL (by unfold Br;rw[Z_];omega),YaL (by rw[h.len];omega)]
 rw[r];refine⟨fun b=>decide (b∈g),?_,fun b=>by rw[Zzj]⟩;have j:∀b∈g,b<256:=fun b f=>by
  rw[←r]at f;obtain⟨c,-,rfl⟩:=I'.1 f;exact BC c 0
 have uniq:∀l m:List Nat,l.Pairwise (·<·)→m.Pairwise (·<·)→(∀q,q∈l↔q∈m)→l=m:=by
  intro l
  induction l with
  | nil=>
    intro m _ _ h;cases m with
    | nil=>rfl
    | cons y m=>have:=(h y).2 (by simp);cases this
  | cons x l w=>
    intro m z A h;cases m with
    | nil=>have:=(h x).1 (by simp);cases this
    | cons y m=>
      have⟨i,t⟩:=Ybf.1 z;have⟨u,B⟩:=Ybf.1 A;have n:x=y:=by
       rcases YaP.1 ((h x).1 (by simp))with e | C
       ·exact e
       ·rcases YaP.1 ((h y).2 (by simp))with e | D
        ·exact e.symm
        ·have:=i y D;have:=u x C;omega
      subst n
      congr 1
      refine w m t B fun q=>⟨fun a=>?_,fun a=>?_⟩
      ·rcases YaP.1 ((h q).1 (by simp[a]))with e | d
       ·have:=i q a;omega
       ·exact d
      ·rcases YaP.1 ((h q).2 (by simp[a]))with e | d
       ·have:=u q a;omega
       ·exact d
 refine uniq _ _ h.up ((List.pairwise_lt_range).filter _) fun q=>?_;rw[List.mem_filter,YaY,Zzj];exact⟨fun a=>⟨j q a,a⟩,fun a=>a.2⟩
end
theorem Sv{S:Nat→Prop}{H:Aa}{v:v_}{o:Option AM}{q b pb:Nat}(c:∀k,S k→k<H.size)(d:AZ S H v o)(e:VC.cell H pb 0=some v)(f:b<256):
  BM prog 185 #[A_ q,.int .u8 (b:Int),U_ pb] H (.int .i64 (As o (q:Int) b)):=by
 refine Ak.of_vc func185 rfl (call185 _) (G_ (v:=v) Pf e trivial (Ah (F6 c d f) fun H1 a=>?_));(conv=>whnf);exact⟨rfl,a⟩
def chM(F:List Nat)(z:Int):Option v_:=(F.findIdx? fun(k:Nat)=>decide ((k:Int)=z)).map fun(i:Nat)=>.int .i64 (i:Int)
theorem Ac4(F:List Nat)(k:Nat):chM F (k:Int)=(F.findIdx? (·=k)).map fun(i:Nat)=>.int .i64 (i:Int):=by
 unfold chM;have e:(fun(x:Nat)=>decide ((x:Int)=(k:Int)))=fun x=>decide (x=k):=funext fun x=>decide_eq_decide.2 (by omega);rw[e]
theorem VA{F:List Nat}{k:Nat}(a:k∉F):put (chM F) (k:Int) (some (.int .i64 (F.length:Int)))=chM (F++[k]):=by
 funext z;unfold put chM;rw[YcZ];by_cases b:z=(k:Int)
 ·subst b;have:F.findIdx? (fun(x:Nat)=>decide ((x:Int)=(k:Int)))=none:=by
   rw[Ydu];intro x c
   exact j_ fun e=>a (by
     have:x=k:=by omega
     rw[←this];exact c)
  rw[F_ rfl,this];simp[YcQ]
 ·rw[D_ b];cases h:F.findIdx? fun(x:Nat)=>decide ((x:Int)=z)with
  | some i=>simp
  | none=>
    have:(k:Int)≠z:=fun e=>b e.symm;simp[YcQ,this]
structure Q9(M:PA)(O:List Nat)(st:Int→Nat→Int)(fi:Int→Bool):Prop where
 lt:∀x∈O,x<M.n
 st:∀(i b x:Nat),O[i]?=some x→b<256→∃t y:Nat,st (i:Int) b=(t:Int)∧O[t]?=some y∧M.Eqv y (M.st x b)
 fi:∀(i x:Nat),O[i]?=some x→fi (i:Int)=M.fi x
def MJ(M:PA)(O:List Nat):Prop:=∃P,RW M (Hn M) P∧Fz 65537 (cst M P) (P 0)=some (O.map P)
def C8(O:List Nat):List Int:=O.map fun(x:Nat)=>(x:Int)
def CanP(o:Option AM)(H H':Aa)(v:v_):Prop:=∃(rows:List (List Nat)) (O:List Nat),Bk (Ag o) (rows.map AR) (O.map fun(x:Nat)=>AY o (x:Int)).length=true∧AZ (fun k=>H.size≤k∧k<H'.size) H' v (some (Bi (Ag o) (rows.map AR) (O.map fun(x:Nat)=>AY o (x:Int))))∧
 MJ (paO o) O∧Q9 (paO o) O (As (some (Bi (Ag o) (rows.map AR) (O.map fun(x:Nat)=>AY o (x:Int))))) (AY (some (Bi (Ag o) (rows.map AR) (O.map fun(x:Nat)=>AY o (x:Int)))))∧rows.length=O.length
theorem NU{K:Type} [DecidableEq K]{F:List K}{k:K}(h:k∈F):F.findIdx? (·=k)=some (ixF F k):=by
 rw[YcP];have a:=K6 h;have b:=(O_.1 (Ib h)).2;refine⟨a,n_ b,fun j c=>?_⟩;have:=Yd1 (p:=fun x=>decide (x=k)) (xs:=F) (show j<F.findIdx (fun x=>decide (x=k))from c);simpa using this
theorem Mn{K:Type} [DecidableEq K]{F:List K}{k:K}(h:k∉F):F.findIdx? (·=k)=none:=by
 rw[Ydu];intro x a;exact j_ fun e=>h (by rw[←e];exact a)
theorem LO{P:Nat→Nat}{O:List Nat}(h:(O.map P).Nodup):O.Nodup:=by
 unfold List.Nodup at h ⊢;rw[Ydz]at h;exact h.imp fun h e=>h (by rw[e])
theorem Ac2{S:Nat→Prop}{H:Aa}{v:v_}{o:Option AM}(hS:∀k,S k→k<H.size)(hv:AZ S H v o)(L:∃ls,CM o ls)(bu:EM prog H):
  Ak prog 152 #[v] H fun r H'=>C_ (H_ H) H H'∧CanP o H H' r:=by
 have⟨ls,L⟩:=L;have am:=hv.steps;have d9:=am.n1;have da:=am.n2;have hM:=UU am;have w:=QQ L;have bv:=Mg L;have ao:∀{G:Aa},C_ (H_ H) H G→AZ S G v o:=fun h=>hv.frame (h.mono hS);have up:∀{G:Aa},C_ (H_ H) H G→∀k,S k→k<G.size:=fun h k m=>Ar h (hS k m);have fe:v.oneCell'=true:=by
  cases o with
  | none=>obtain rfl:=hv;rfl
  | some A=>obtain⟨pb,rfl,-⟩:=hv;rfl
 have db:v.cells.toList=[v]:=by
  cases o with
  | none=>obtain rfl:=hv;rfl
  | some A=>obtain⟨pb,rfl,-⟩:=hv;rfl
 refine Ak.of_vc func152 rfl (call152 _) (Ct [v] (by rw[←db]) ?_);intro p H1 hp dc de df;have st1:=(St.nil H).box hp dc de df;refine lT (v:=v) Pf ((st1.blk 0 rfl).ce rfl) ?_;refine Ae.mk (HR (up st1.old) (ao st1.old)) ?_;rintro _ H2 ⟨dg,-,dh⟩;obtain⟨ca,cc,rfl,ap⟩:=st1.got dg dh;obtain⟨N,W⟩:∃N,N=Ag o:=⟨_,rfl⟩;rw[←W]at ap bv w ⊢;obtain⟨by_,hby⟩:∃by_,by_=Br N:=⟨_,rfl⟩;have bw:by_.length=N.length:=by rw[hby];exact Z_ _
 refine Ae.mk (RG (S:=H_ H2) (fun k m=>m) (ap.view 1 rfl) bv) ?_;rintro _ H3 ⟨di,ra,rc,rfl,dj⟩;have⟨dk,dl,e3,Q⟩:=ap.got di dj;injection e3 with e31 e32 e33
 subst e31;subst e33;have dm:bsI N=C8 by_:=by rw[hby];rfl
 have bx:(C8 by_).length=by_.length:=Z_ _;rw[dm,bx]at Q;rw[←bw];rw[←hby]at w;refine lT (v:=v) Pf ((Q.blk 0 rfl).ce rfl) ?_;refine Ae.mk (YH (S:=H_ H3) (by_:=by_) (fun k m=>m) ((ao Q.old).mono fun k m=>up Q.old k m) (Q.view 2 rfl) w (by omega) (bu.agr Q.old)) ?_;rintro _ H4 ⟨dn,P,ba,bc,hP,bz,rfl,dp⟩;have⟨ff,fg,e4,aq⟩:=Q.got dn dp;injection e4 with e41 e42 e43
 subst e41;subst e43;rw[Ix]at aq;obtain⟨n,hn⟩:∃n,n=stN o:=⟨_,rfl⟩;obtain⟨M,a3⟩:∃M,M=paO o:=⟨_,rfl⟩;have c3:M.n=n:=by rw[a3,hn];rfl
 rw[←hn]at aq d9 da bz ⊢;rw[←a3]at hM hP w;have hg:∀q,q<n→(tbl P n n)[q]?=some (P q:Int):=fun q hq=>by rw[Lv hq,F_ hq]
 refine LL (Ok:=I8) (enc:=kI) fun mb H5 dq dr dt du=>?_;have c4:=aq.mapNewW dq dr dt du;refine Ay AU [A_ 0] rfl rfl (by decide) (by decide) ?_;intro ob H6 dv dw dx dy;have be:=c4.new (T:=u_) (n:=1) (xs:=[(0:Int)]) dv dw dx dy (Ty.reps_one ⟨rfl,FQ ⟨by decide,by decide⟩⟩) rfl (by unfold maxLen;omega);refine ixO (j:=0) AU be 3 rfl (hg 0 (by omega)) rfl ?_;rintro b7 o7 c7 fh dz ⟨rfl,-⟩;refine G_ E_ dz.one trivial (Jk (a:=(P 0:Int)) be 4 Ol Of trivial rfl rfl fun H7 bf=>?_);have a5:put (fun _:Int=>(none:Option v_)) (P 0:Int) (some (.int .i64 0))=chM [P 0]:=VA (F:=[]) (by simp);rw[a5]at bf;have B:St H H7 [pB 23 p [v],pN Cp (fun _=>False) 101 ca N.length cc N,pS tU8 EI ra by_.length rc (C8 by_),pS u_ 3 ba n bc (tbl P n n),pMW I8 kI mb (chM ([0].map P)),pS u_ 3 (T_ ob) 1 1 (C8 [0]),pN (tSl u_) none_ 41 none 0 0 [],pS AQ 4 none 0 0 []]:=(bf.nils (tSl u_) 41).nils AQ 4;(conv=>whnf);refine A0.mk [8,9,10,11] (fun x:Nat×List Nat×Option Addr×Nat×Option Addr×Nat×Option Addr×Nat=>match x with | (i,O,oa,oc,na,nc,fa,fc)=>[.slice oa O.length oc,.slice na i nc,.slice fa i fc,A_ i])
  (fun x H8=>match x with | (i,O,oa,oc,na,nc,fa,fc)=>i≤O.length∧(∀x∈O,x<n)∧(O.map P).Nodup∧∃rows Sn,rows.length=i∧B8 65537 (cst M P) by_ (P 0) i=some (O.map P,rows)∧St H H8 [pB 23 p [v],pN Cp (fun _=>False) 101 ca N.length cc N,pS tU8 EI ra by_.length rc (C8 by_),pS u_ 3 ba n bc (tbl P n n),pMW I8 kI mb (chM (O.map P)),pS u_ 3 oa O.length oc (C8 O),pN (tSl u_) Sn 41 na i nc (rows.map AR),pS AQ 4 fa i fc ((O.take i).map fun(x:Nat)=>AY o (x:Int))]) (fun x _=>65537-x.1) ?_ ?_
 ·(conv=>whnf);exact⟨(0,[0],some ⟨ob,0,none⟩,1,none,0,none,0),rfl,t_ _,(fun x K=>by rw[Y_]at K;subst K;omega),by simp,[],none_,rfl,rfl,B⟩
 ·clear B bf be c4 aq Q ap st1 a5;rintro⟨i,O,oa,oc,na,nc,fa,fc⟩ H8 e0 ⟨hi,a4,c5,rows,Sn,ar,a6,B⟩;have e6:=Lf (LO c5) a4;refine AG.m2 (fun hz=>?_) (fun hz=>?_)
  ·have⟨x,K⟩:=Ac (l:=O) (k:=i) (by omega);have e7:=a4 x (c_ K);have fj:(C8 O)[i]?=some (x:Int):=by unfold C8;rw[o_,K];rfl
   have bg:(O.map P)[i]?=some (P x):=by rw[o_,K];rfl
   have X:B8 65537 (cst M P) by_ (P 0) (i+1)=(by_.foldl (CQ 65537 (cst M P) (P x)) (some (O.map P,[]))).map fun r=>(r.1,rows++[r.2]):=by
    show(B8 65537 (cst M P) by_ (P 0) i).bind _=_;rw[a6];simp only[YbP,bg]
   have s:=B.nils u_ 3;(conv=>whnf);refine A0.mk [8,12,40] (fun y:Nat×List Nat×List Nat×Option Addr×Nat×Option Addr×Nat=>match y with | (j,O2,row,oa,oc,E,I)=>[.slice oa O2.length oc,.slice E row.length I,A_ j])
    (fun y H9=>match y with | (j,O2,row,oa,oc,E,I)=>j≤by_.length∧(∀x∈O2,x<n)∧(O2.map P).Nodup∧O <+: O2∧row.length=j∧(by_.take j).foldl (CQ 65537 (cst M P) (P x)) (some (O.map P,[]))=some (O2.map P,row)∧St H H9 [pB 23 p [v],pN Cp (fun _=>False) 101 ca N.length cc N,pS tU8 EI ra by_.length rc (C8 by_),pS u_ 3 ba n bc (tbl P n n),pMW I8 kI mb (chM (O2.map P)),pS u_ 3 oa O2.length oc (C8 O2),pN (tSl u_) Sn 41 na i nc (rows.map AR),pS AQ 4 fa i fc ((O.take i).map fun(x:Nat)=>AY o (x:Int)),pS u_ 3 E row.length I (AR row)]) (fun y _=>by_.length-y.1) ?_ ?_
   ·(conv=>whnf);exact⟨(0,O,[],oa,oc,none,0),rfl,t_ _,a4,c5,YcI _,rfl,rfl,s⟩
   ·clear s B;rintro⟨j,O2,row,oa,oc,E,I⟩ H9 e8 ⟨hj,Z,a0,R,a7,Y,s⟩;have d8:=Lf (LO a0) Z;have e9:=ED R K;have az:(C8 O2)[i]?=some (x:Int):=by unfold C8;rw[o_,e9];rfl
    refine AG.m2 (fun ea=>?_) (fun ea=>?_)
    ·have⟨b,C⟩:=Ac (l:=by_) (k:=j) (by omega);have au:=w.lt b (c_ C);have c6:(C8 by_)[j]?=some (b:Int):=by unfold C8;rw[o_,C];rfl
     have bh:M.st x b<n:=by rw[←c3];exact hM.cl x b (by omega) au
     have c8:=Uv hM hP (q:=x) (b:=b) (by omega) au;have J:(by_.take (j+1)).foldl (CQ 65537 (cst M P) (P x)) (some (O.map P,[]))=(atF 65537 (O2.map P) (P (M.st x b))).map fun r=>(r.1,row++[r.2]):=by
      rw[Af C,Ybh,Y,←c8];rfl
     refine ixO (j:=j) CS s 2 rfl c6 rfl ?_;rintro fk fm fo f3 c9 ⟨rfl,-⟩;refine G_ ct5 c9.one trivial (ixO (j:=i) AU s 5 rfl az rfl ?_);rintro fp fq fu f4 cd ⟨rfl,-⟩;refine lT E_ cd.one ?_;refine Ah (Sv (up s.old) (ao s.old) ((s.blk 0 rfl).ce rfl) au) fun H12 ce=>?_;have d:=s.call ce;have eb:As o (x:Int) b=(M.st x b:Int):=by rw[a3];exact Aa0 am (by omega) au
     rw[eb];refine ixO (j:=M.st x b) AU d 3 rfl (hg _ bh) rfl ?_;rintro ec ed ee b0 a8 ⟨rfl,-⟩;refine G_ E_ a8.one trivial (Jj (a:=(P (M.st x b):Int)) Ol Of trivial (d.mapW 4 rfl) trivial ?_);rw[Ac4];have f5:65536<65537:=by decide
     by_cases hm:P (M.st x b)∈O2.map P
     ·rw[NU hm];have bi:atF 65537 (O2.map P) (P (M.st x b))=some (O2.map P,ixF (O2.map P) (P (M.st x b))):=by unfold atF;rw[NU hm]
      have ef:=K6 hm;rw[Z_]at ef;rw[bi]at J;generalize ixF (O2.map P) (P (M.st x b))=t at*;refine An.run (Ay AU [A_ t] rfl rfl (by decide) (by decide) ?_);intro eg H14 a9 cg ab a1;have ae:(AR row).length=row.length:=by unfold AR;rw[Z_]
      refine IN (x:=(t:Int)) (d.skip a9 a1) 8 AU rfl ab ⟨rfl,FQ ⟨by omega,by omega⟩⟩ rfl (by rw[ae];omega) (by decide) fun bj bm H15 U _=>?_;have e1:(AR row).length+1=(row++[t]).length:=by rw[ae];simp
      have e2:AR row++[(t:Int)]=AR (row++[t]):=by unfold AR;simp
      rw[e1,e2]at U;rw[e1];(conv=>whnf);rw[P_ j (by omega)];exact⟨rfl,(j+1,O2,row++[t],oa,oc,bj,bm),by simp,⟨by omega,Z,a0,R,by simp[a7],J,U⟩,by simp only;omega⟩
     ·rw[Mn hm];have bi:atF 65537 (O2.map P) (P (M.st x b))=some ((O2++[M.st x b]).map P,O2.length):=by
       unfold atF;rw[Mn hm];simp only;rw[F_ (by rw[Z_];omega),YcB,Z_];rfl
      rw[bi]at J;have b4:∀y∈O2++[M.st x b],y<n:=fun y hy=>by
       rcases q_.1 hy with hy | hy
       ·exact Z y hy
       ·rw[Y_]at hy;subst hy;exact bh
      have b5:((O2++[M.st x b]).map P).Nodup:=by
       rw[YcB];exact YcH.2 ⟨a0,by simp,fun y hy z hz e=>by simp only[YaV,Yc8,Y_]at hz;subst hz;subst e;exact hm hy⟩
      have aw:=Lf (LO b5) b4;rw[J_,h_]at aw;have b6:=VA (F:=O2.map P) (k:=P (M.st x b)) hm;rw[Z_]at b6;have ag:(C8 O2).length=O2.length:=by unfold C8;rw[Z_]
      refine An.run (ixO (j:=M.st x b) AU d 3 rfl (hg _ bh) rfl ?_);rintro fw fx fy f6 ch ⟨rfl,-⟩;refine G_ E_ ch.one trivial (Jk (a:=(P (M.st x b):Int)) d 4 Ol Of trivial rfl b6 fun H14 ah=>(Ay AU [A_ (M.st x b:Int)] rfl rfl (by decide) (by decide) ?_));intro fz H15 cj f7 ck ai;refine IN (x:=(M.st x b:Int)) (ah.skip cj ai) 5 AU rfl ck ⟨rfl,FQ ⟨by omega,by omega⟩⟩ rfl (by rw[ag];omega) (by decide) fun eh ei H16 b8 _=>?_;have e3:(C8 O2).length+1=(O2++[M.st x b]).length:=by rw[ag];simp
      have e4:C8 O2++[(M.st x b:Int)]=C8 (O2++[M.st x b]):=by unfold C8;simp
      rw[e3,e4]at b8;rw[e3];refine Ay AU [A_ (O2.length:Int)] rfl rfl (by decide) (by decide) ?_;intro g0 H17 cm f8 co cp;have ae:(AR row).length=row.length:=by unfold AR;rw[Z_]
      refine IN (x:=(O2.length:Int)) (b8.skip cm cp) 8 AU rfl co ⟨rfl,FQ ⟨by omega,by omega⟩⟩ rfl (by rw[ae];omega) (by decide) fun ej ek H18 aj _=>?_;have e1:(AR row).length+1=(row++[O2.length]).length:=by rw[ae];simp
      have e2:AR row++[(O2.length:Int)]=AR (row++[O2.length]):=by unfold AR;simp
      rw[e1,e2]at aj;rw[e1];(conv=>whnf);rw[P_ j (by omega)];have e5:(O2++[M.st x b]).map P=O2.map P++[P (M.st x b)]:=by rw[YcB];rfl
      rw[←e5]at aj;exact⟨rfl,(j+1,O2++[M.st x b],row++[O2.length],eh,ei,ej,ek),by simp,⟨by omega,b4,b5,R.trans (Ydy _ _),by simp[a7],J,aj⟩,by simp only;omega⟩
    ·obtain rfl:j=by_.length:=by omega
     rw[Yc0]at Y;rw[Y]at X;simp only[YcK]at X;have cq:(AR row).length=row.length:=by unfold AR;rw[Z_]
     have V:(rows.map AR).length=i:=by rw[Z_];exact ar
     have cr:((O2.take (i+1)).map fun(x:Nat)=>AY o (x:Int))=((O.take i).map fun(x:Nat)=>AY o (x:Int))++[AY o (x:Int)]:=by
      obtain⟨t,rfl⟩:=R;rw[Ydx (by omega),Af K,YcB];rfl
     have ak:((O.take i).map fun(x:Nat)=>AY o (x:Int)).length=i:=by rw[Z_,YaW];omega
     obtain⟨dk,dl,er,bn,-⟩:=(s.at_ 8 rfl).1.view (S':=a_ (.slice E row.length I)) (fun b C=>C) (fun b C=>C.elim);rw[cq]at er;injection er with er1 er2 er3
     subst er1;subst er3;have ct:=B_.absorb (s.pick [6,8,0,1,2,3,4,5,7] (by decide));refine Ay EY [.slice E row.length I] rfl rfl (by decide) (by decide) ?_;intro g3 H11 cu f9 cw b9;have cx:=ct.skip cu b9;have ax:g_ u_ (fun k=>Sn k∨a_ (.slice E row.length I) k) H11 E I (AR row):=(bn.frame (b9.mono fun k m=>by
      have:=(s.in_ 8 rfl (.inl m)).2;omega)).mono fun k m=>.inr m
     refine YB (row:=AR row) cx EY (cw.cells fun j v hv=>by rw[K_];exact hv) ⟨E,I,by rw[cq],ax⟩ rfl (fun u hu=>by cases Y_.1 hu;rfl) (by rw[V];omega) (by decide) fun el en H12 d=>?_;have e5:rows.map AR++[AR row]=(rows++[row]).map AR:=by simp
     rw[V,e5]at d;rw[V];have d0:=d.apart2 (i:=1) (j:=7) rfl rfl (by decide);have d6:=d.apart2 (i:=6) (j:=7) rfl rfl (by decide);have ep:p<H12.size∧¬a_ (.slice fa i fc) p:=⟨(d.in_ 1 rfl rfl).2,fun h=>d0 p rfl (.inl h)⟩;have ag:(C8 O2).length=O2.length:=by unfold C8;rw[Z_]
     obtain⟨g4,g5,eo,eu,-⟩:=(d.at_ 6 rfl).1.view (S':=fun k=>k<H12.size∧¬a_ (.slice fa i fc) k) (fun b C=>⟨(d.in_ 6 rfl (.inl C)).2,fun h=>d6 b (.inl C) (.inl h)⟩) (fun b C=>C.elim);rw[ag]at eo;injection eo with eo1 eo2 eo3
     subst eo1;subst eo3;refine Aq.held (fun k=>k<H12.size∧¬a_ (.slice fa i fc) k) 9 (sq [0,1,2,3,4,5] (.f 6 (.f 7 (.f 8 (.f 9 .e))))) rfl (by kernel_rfl) ?_;refine G_ (v:=v) Pf ((d.blk 1 rfl).ce rfl) ep ?_;refine IB (i:=i) AU eu ag.symm az rfl ?_;rintro ec ed ee b0 a8 ⟨rfl,-⟩;refine G_ E_ a8.one b0 (Ah (FN (ao d.old)) fun H13 a2=>?_);have cy:=d.call a2;refine⟨a2.mono fun k m=>m.1,?_⟩;refine Ay CJ [.bool (AY o (x:Int))] rfl rfl (by decide) (by decide) ?_;intro eg H14 a9 cg ab a1;have ah:=cy.skip a9 a1;have bo:C_ (fun k=>k<H12.size) H12 H14:=a2.trans (a1.mono fun k m=>by have:=Ar a2 m;omega);refine⟨bo.mono fun k m=>m.1,?_⟩;refine IN (x:=AY o (x:Int)) ah 7 CJ rfl ab rfl rfl (by rw[ak];omega) (by decide) fun bj bm H15 U ai=>?_;refine⟨(bo.mono fun k m=>m.1).trans (ai.mono fun k m=>⟨Ar bo m.1,m.2⟩),?_⟩;rw[ak,←cr]at U;rw[ak];(conv=>whnf);rw[P_ i (by omega)];refine⟨rfl,(i+1,O2,oa,oc,el,en,bj,bm),by simp,⟨?_,Z,a0,rows++[row],_,by simp[ar],X,U.pick [1,2,3,4,5,6,0,7] (by decide)⟩,by simp only;omega⟩;have:=R.length_le;omega
  ·obtain rfl:i=O.length:=by omega
   rw[Yc0]at B;have ev:(O.map P).length=O.length:=Z_ _;have cz:=L7 a6 ev (by omega);have V:(rows.map AR).length=O.length:=by rw[Z_];exact ar
   have d1:(O.map fun(x:Nat)=>AY o (x:Int)).length=O.length:=Z_ _;have m:=Jt (by decide) O.length (O.map P) rows a6 fun j hj=>by omega
   have h0:=(O_.1 m.zero).1;have hs:Bk N (rows.map AR) (O.map fun(x:Nat)=>AY o (x:Int)).length=true:=by
    rw[KI];refine⟨⟨by omega,by omega,by omega⟩,fun b C=>by rw[W];exact Sz L C,fun r hr=>?_⟩;obtain⟨row,D,rfl⟩:=I'.1 hr;have⟨q,hq⟩:=YaI D;have d2:=m.cols row D;unfold GV;rw[r_,beq_iff_eq,Ybl];refine⟨by unfold AR;rw[Z_];omega,fun t ht=>?_⟩;obtain⟨u,hu,rfl⟩:=I'.1 ht;have⟨k,d3⟩:=YaI hu;have⟨b,C⟩:=Ac (l:=by_) (k:=k) (by have:=(O_.1 d3).1;omega);have g6:=(O_.1 hq).1;have⟨x,K⟩:=Ac (l:=O.map P) (k:=q) (by omega);have:=(O_.1 (m.ok q k row b u x hq C d3 K)).1;simp only[r_,Zzj];omega
   have bd:=Wv ca na fa cc nc fc N (rows.map AR) (O.map fun(x:Nat)=>AY o (x:Int)) (H_ H8) H8 (fun k m=>m) (B.view 1 rfl) (B.view 6 rfl) (B.view 7 rfl);rw[hs,F_ rfl,V,d1]at bd;rw[bw];refine Ae.mk bd ?_;rintro v9 H9 ⟨ew,g7,ey⟩;have s:=B.call ew;(conv=>whnf);refine⟨s.old,rows,O,?_⟩;rw[←W,←a3];refine⟨hs,ey.mono fun k m=>⟨YbA (Bv B.old) m.1,m.2⟩,⟨P,hP,?_⟩,⟨fun x K=>by rw[c3];exact a4 x K,fun i b x K C=>?_,fun i x K=>?_⟩,ar⟩
   ·have⟨pf,d4,bp⟩:=NK L;rw[←W,←hby]at d4;rw[←W,←hby]at bp;rw[←QU (P:=fun _=>True) (p:=pf) (fun b C d5=>?_) (by decide) trivial (fun _ _ _=>trivial),←d4,cz]
    ·rfl
    ·have⟨g,bq,g8,ez⟩:=w.cov b C;have c6:g≠b:=fun e=>by rw[e]at bq;rw[(bp b).2 bq]at d5;cases d5
     refine⟨g,by omega,(bp g).2 bq,fun k _=>?_⟩;unfold cst;split
     ·rename_i q hq;rw[ez q (YaY.1 (Ydw hq))]
     ·rfl
   ·have bx:=(O_.1 K).1;have⟨row,D⟩:=Ac (l:=rows) (k:=i) (by omega);have d2:=m.cols row (c_ D);have⟨c1,c2⟩:=BK hs C;have⟨c,hc⟩:=Ac c1;have f0:=c2 c hc;have⟨t,ht⟩:=Ac (l:=row) (k:=Ba N b) (by omega);have f1:by_[Ba N b]?=some (AE c 0).1:=by rw[hby];exact IV hc
    have bg:(O.map P)[i]?=some (P x):=by rw[o_,K];rfl
    have ay:=m.ok i _ row _ t (P x) D f1 ht bg;have e7:=a4 x (c_ K);have d7:=BC c 0;rw[Uv hM hP (by omega) d7]at ay;have g9:=(O_.1 ay).1;have⟨y,hy⟩:=Ac (l:=O) (k:=t) (by omega);rw[o_,hy]at ay;have f2:P y=P (M.st x (AE c 0).1):=by simpa using ay
    have ga:=a4 y (c_ hy);have hE:=(hP y (YaY.2 (by omega)) _ (YaY.2 (hM.cl x _ (by omega) d7))).1 f2;obtain⟨l,k3,k4,k5,-⟩:=L.least (Ba N b) c (by rw[←W];exact hc);obtain⟨-,k7⟩:=L.keeps (Ba N b) c l b (by rw[←W];exact hc) k3 C f0;have br:M.st x (AE c 0).1=M.st x b:=by
     rw[k5,a3];show(As o (x:Int) l).toNat=(As o (x:Int) b).toNat;rw[k7 (x:Int) (by omega) (by rw[←hn];omega)]
    rw[br]at hE;refine⟨t,y,?_,hy,hE⟩;rw[Er (row:=AR row) hs (by rw[o_,D];rfl) C];unfold AR;rw[YaD,o_,ht];rfl
   ·rw[a3];simp[AY,Bi,K,paO]
structure DocM(D:DM)(M:PA):Prop where
 n:M.n=D.next.length
 st:∀q b,q<M.n→b<256→FH D (q:Int) b=(M.st q b:Int)
 fi:∀q,q<M.n→AcO D (q:Int)=M.fi q
structure RepD(D:DM)(by_:List Nat):Prop where
 reps:D.reps=C8 by_
 rl:∀row∈D.next,row.length=by_.length
 le:by_.length≤256
 lt:∀b∈by_,b<256
 at_:∀(c b:Nat),by_[c]?=some b→D.cell[b]?=some (c:Int)
 cov:∀b,b<256→∃c g:Nat,D.cell[b]?=some (c:Int)∧by_[c]?=some g∧g≤b
end
end Go.Proofs.YtfbghcpdinlmcaaGreatDoor
namespace Go.VC
end Go.VC
namespace Go.Proofs.YtfbghcpdinlmcaaGreatDoor
open Go.VC
section
attribute [local irreducible] Bj Bd AP
end
section
attribute [local irreducible] Bj AP
end
section
attribute [local irreducible] Bj Bd AP
theorem AfR.stepOk{o:Option AM}{D:DM}(h:AfR o D):DS o:=
 ⟨by rw[h.n];exact h.ok.n1,by rw[h.n];exact h.ok.n2,fun q b a c=>by
  have:=TH h.ok a.1 (by have:=a.2;rw[h.n]at this;exact this) c;unfold inA;rw[h.step q b c,h.n];exact this⟩
end
open Go.Lib
abbrev Ad6(k:Nat):List Nat:=Iq k (spB Cl k)
theorem Ir(c:Nat)(sp:Bool):(Iq c sp).length≤4:=by
 unfold Iq
 repeat' split
 all_goals simp
def hiM(t:Nat→Bool)(i:Nat):Nat:=i+((List.range' (i+1) (255-i)).takeWhile t).length
theorem Kg{t:Nat→Bool}:∀(m a k:Nat),k≤m→(∀q,q<k→t (a+q)=true)→(k=m∨t (a+k)=false)→((List.range' a m).takeWhile t).length=k
 | 0,a,k,hk,_,_=>by
   obtain rfl:k=0:=by omega
   rfl
 | m+1,a,0,hk,_,b=>by
   rcases b with b | b
   ·omega
   ·rw[Yd7,List.takeWhile_cons_of_neg (by rw[Nat.add_zero]at b;rw[b];decide)];rfl
 | m+1,a,k+1,hk,h,b=>by
   rw[Yd7,List.takeWhile_cons_of_pos (by have:=h 0 (by omega);simpa using this),b_];rw[Kg m (a+1) k (by omega) (fun q c=>by have:=h (q+1) (by omega);rw[show a+1+q=a+(q+1) by omega];exact this) (by
    rcases b with b | b
    ·exact .inl (by omega)
    ·exact .inr (by rw[show a+1+k=a+(k+1) by omega];exact b))]
theorem AiP{t:Nat→Bool}{i j:Nat}(b:i≤j)(c:j≤255)(h:∀k,i<k→k≤j→t k=true)(a:j=255∨t (j+1)=false):hiM t i=j:=by
 unfold hiM;rw[Kg (255-i) (i+1) (j-i) (by omega) (fun q d=>h _ (by omega) (by omega)) (by
  rcases a with a | a
  ·exact .inl (by omega)
  ·exact .inr (by rw[show i+1+(j-i)=j+1 by omega];exact a))]
 omega
def Po(i j:Nat):List Nat:=Ad6 i++(if i+1<j then [45]else [])++(if i<j then Ad6 j else [])
def Pm(t:Nat→Bool)(i:Nat):List Nat:=if t i&& !(decide (0<i)&&t (i-1))then Po i (hiM t i)else []
def HO(t:Nat→Bool)(n:Nat):List Nat:=(AiO n).flatMap (Pm t)
theorem Ae9(i j:Nat):(Po i j).length≤9:=by
 unfold Po;have a:(Ad6 i).length≤4:=Ir i (spB Cl i);have b:(Ad6 j).length≤4:=Ir j (spB Cl j);simp only[J_];split<;>split<;>simp only[b_,m_]<;>omega
theorem AdV(t:Nat→Bool)(i:Nat):(Pm t i).length≤9:=by
 unfold Pm;split
 ·exact Ae9 _ _
 ·exact t_ _
theorem IT(t:Nat→Bool)(n:Nat):HO t (n+1)=HO t n++Pm t n:=by
 unfold HO;rw[YcW,YcV];simp
theorem QK(t:Nat→Bool):∀n,(HO t n).length≤9*n
 | 0=>I_ _
 | n+1=>by
   rw[IT,J_];have:=QK t n;have:=AdV t n;omega
theorem AbZ{t:Nat→Bool}{i:Nat}(h:t i=false):HO t (i+1)=HO t i:=by
 rw[IT];unfold Pm;rw[h];simp
theorem Ah4{t:Nat→Bool}{k:Nat}(h0:0<k)(h:t (k-1)=true):Pm t k=[]:=by
 unfold Pm;rw[h,n_ h0];simp
theorem YJ{t:Nat→Bool}{i:Nat}:∀d,(∀k,i≤k→k<i+d→t k=true)→HO t (i+1+d)=HO t (i+1)
 | 0,_=>rfl
 | d+1,h=>by
   rw[show i+1+(d+1)=(i+1+d)+1 by omega,IT,Ah4 (by omega) (h _ (by omega) (by omega)),YaX];exact YJ d fun k a b=>h k a (by omega)
theorem V6{t:Nat→Bool}{i j:Nat}(c:t i=true)(a:i=0∨t (i-1)=false)(d:i≤j)(f:j≤255)(h:∀k,i<k→k≤j→t k=true)(g:j=255∨t (j+1)=false):HO t (j+1)=HO t i++Po i j:=by
 have:=YJ (t:=t) (i:=i) (j-i) fun k b l=>by
  rcases Yck b with m | rfl
  ·exact h k m (by omega)
  ·exact c
 rw[show j+1=i+1+(j-i) by omega,this,IT]
 congr 1
 unfold Pm;have e:(decide (0<i)&&t (i-1))=false:=by
  rcases a with rfl | a
  ·rfl
  ·rw[a];simp
 rw[c,e,AiP d f h g];rfl
def Lp(s:BitVec 256):List Nat:=if BD s=1 then Iq (AE s 0).1 (spB DP (AE s 0).1)else(if 128<BD s then [91,94]else [91])++HO (fun k=>(if 128<BD s then ~~~s else s).getLsbD k) 256++[93]
theorem ON(s:BitVec 256):(Lp s).length≤2400:=by
 unfold Lp;split
 ·exact YbA (Ir _ _) (by decide)
 ·have:=QK (fun k=>(if 128<BD s then ~~~s else s).getLsbD k) 256;generalize HO (fun k=>(if 128<BD s then ~~~s else s).getLsbD k) 256=l at*;have a:(if 128<BD s then [91,94]else [91]:List Nat).length≤2:=by split<;>decide
  simp only[J_,h_];omega
theorem bsz(w:List Nat):(bA w).size=w.length:=by unfold bA;simp[ByteArray.size]
theorem E7{u v:List Nat}(a:u.length≤4096)(b:v.length≤4096):(bA u).size+(bA v).size≤maxLen:=by
 rw[bsz,bsz];unfold maxLen;omega
theorem AhB{H:Aa}{s:BitVec 256}(D:EH H):BM prog 154 #[Bt s] H (.string (bA (Lp s))):=by
 refine Ak.of_vc func154 rfl (call154 _) ?_;have r:∀{G:Aa} {p:Nat} {x:BitVec 256},Q_ G p 101 (Ad x)→Be G p 0 (Ad x):=fun h=>h.cells fun j v hv=>by rw[K_];exact hv
 refine Ct (Ad s) rfl ?_;intro p H1 hp V W X;have st1:=(St.nil H).box hp V W X;refine L_ (cs:=Ad s) AT (r (st1.blk 0 rfl)) trivial (Ah (Ac5 s H1) fun H2 Y=>?_);have o:=st1.call Y;by_cases M:BD s=1
 ·have Z:((BD s:Int)==1)=true:=by rw[M];rfl
  have C:Lp s=Iq (AE s 0).1 (spB DP (AE s 0).1):=F_ M;(conv=>whnf);rw[Z];refine L_ (cs:=Ad s) AT (r (o.blk 0 rfl)) trivial (Ah (LM s 0 (by decide) H2) fun H3 E=>?_);have w:=o.call E;refine Ah (Gx (s:=DP) (D.agr w.old) (BC s 0)) fun H4 a0=>?_;(conv=>whnf);rw[C];exact⟨rfl,(w.call a0).old⟩
 ·have Z:((BD s:Int)==1)=false:=beq_eq_false_iff_ne.2 (by omega);(conv=>whnf);rw[Z];obtain⟨u,U⟩:∃u,u=(if 128<BD s then ~~~s else s):=⟨_,rfl⟩;obtain⟨c,N⟩:∃l:List Nat,l=(if 128<BD s then [91,94]else [91]):=⟨_,rfl⟩;have C:Lp s=c++HO (fun k=>u.getLsbD k) 256++[93]:=by rw[U,N];exact D_ M
  have a8:c.length≤2:=by rw[N];split<;>decide
  (conv=>whnf);refine An.cut [6] (fun _:Unit=>[.string (bA c)]) (fun _ H3=>St H H3 [pB 101 p (Ad u)]) ?_ ?_
  ·by_cases m:128<BD s
   ·have d2:decide ((BD s:Int)>128)=true:=e_;(conv=>whnf);rw[d2];refine L_ (cs:=Ad s) AT (r (o.blk 0 rfl)) trivial (Ah (Wx s H2) fun H3 E=>(AN (cs:=Ad (~~~s)) (o.call E) 0 rfl rfl (I_ _) rfl fun H4 d=>?_));rw[Aw (show(Ad (~~~s)).length=(Ad s).length from rfl)]at d;(conv=>whnf);exact⟨rfl,(),by rw[N,F_ m]<;>rfl,by rw[U,F_ m];exact d⟩
   ·have d2:decide ((BD s:Int)>128)=false:=V_;(conv=>whnf);rw[d2];(conv=>whnf);exact⟨rfl,(),by rw[N,D_ m]<;>rfl,by rw[U,D_ m];exact o⟩
  ·rintro⟨⟩ H3 a1 w;rw[C];clear C N U st1 o;obtain⟨t,ht⟩:∃t:Nat→Bool,t=fun k=>u.getLsbD k:=⟨_,rfl⟩;have O:∀k,u.getLsbD k=t k:=fun k=>by rw[ht]
   rw[←ht];have F:∀n,n≤256→(c++HO t n).length≤2306:=fun n hn=>by
    have:=QK t n;rw[J_];omega
   (conv=>whnf);refine A0.mk [6,7] (fun i:Nat=>[.string (bA (c++HO t i)),A_ i]) (fun i H4=>i≤256∧(i=0∨i=256∨t (i-1)=false∨t i=false)∧St H H4 [pB 101 p (Ad u)]) (fun i _=>256-i) ?_ ?_
   ·(conv=>whnf);exact⟨0,by rw[show HO t 0=[]from rfl,YaX];rfl,t_ _,.inl rfl,w⟩
   ·clear w;rintro i H4 a2 ⟨hi,P,d⟩;refine AG.m2 (fun hz=>?_) (fun hz=>?_)
    ·have I:i<256:=by omega
     refine An.run (L_ (cs:=Ad u) AT (r (d.blk 0 rfl)) trivial ?_);(conv=>whnf);rw[w8 (x:=(i:Int)) (by omega) (by omega)];refine Ah (SM u i I H4) fun H5 Q=>?_;have J:=d.call Q;rw[O];cases y:t i with
     | false=>
       (conv=>whnf);rw[P_ i (by omega)];exact⟨rfl,i+1,by rw[AbZ y];simp,⟨by omega,.inr (.inr (.inl y)),J⟩,by omega⟩
     | true=>
       have R:i=0∨t (i-1)=false:=by
        rcases P with h | h | h | h
        ·exact .inl h
        ·omega
        ·exact .inr h
        ·rw[y]at h;cases h
       (conv=>whnf);refine A0.mk [8] (fun j:Nat=>[A_ j]) (fun j H6=>i≤j∧j≤255∧(∀k,i<k→k≤j→t k=true)∧St H H6 [pB 101 p (Ad u)]) (fun j _=>255-j) ?_ ?_
       ·(conv=>whnf);exact⟨i,rfl,I_ _,by omega,fun k M h2=>by omega,J⟩
       ·clear J d Q;rintro j H6 a3 ⟨S,hj,z,K⟩;by_cases a9:j<255
        ·have d3:decide ((j:Int)<255)=true:=e_;(conv=>whnf);rw[d3];refine lN (cs:=Ad u) AT (r (K.blk 0 rfl)) ?_;(conv=>whnf);rw[P_ j (by omega)];(conv=>whnf);rw[w8 (x:=(j:Int)+1) (by omega) (by omega)];rw[show(j:Int)+1=((j+1:Nat):Int) by omega];refine Ah (SM u (j+1) (by omega) H6) fun H7 a4=>?_;have q:=K.call a4;rw[O];cases T:t (j+1)with
         | true=>
           (conv=>whnf);rw[P_ j (by omega)];refine⟨rfl,j+1,by simp,⟨by omega,by omega,fun k M h2=>?_,q⟩,by omega⟩;rcases Yck h2 with h2 | rfl
           ·exact z k M (by omega)
           ·exact T
         | false=>
           have a:j=255∨t (j+1)=false:=.inr T;have e:=V6 y R S hj z a;have a5:(Iq i (spB Cl i)).length≤4:=Ir _ _;have a6:(Iq j (spB Cl j)).length≤4:=Ir _ _;have a7:c.length+(HO t i).length≤2306:=by rw[←J_];exact F i (by omega)
           (conv=>whnf);rw[w8 (x:=(i:Int)) (by omega) (by omega)];refine Ah (Gx (s:=Cl) (D.agr q.old) I) fun H8 L=>?_;have b:=q.call L;refine HK (E7 (by rw[J_];omega) (show(Iq i (spB Cl i)).length≤4096 by omega)) ?_;rw[CU];refine An.run ?_;(conv=>whnf);rw[P_ i (by omega)];rcases(show j=i∨j=i+1∨i+1<j by omega)with A | A | A
           ·have B:decide ((j:Int)>(i:Int)+1)=false:=V_;have e2:decide ((j:Int)>(i:Int))=false:=V_;(conv=>whnf);rw[B];refine An.run ?_;(conv=>whnf);rw[e2];(conv=>whnf);rw[P_ j (by omega)];refine⟨rfl,j+1,?_,⟨by omega,?_,b⟩,by omega⟩
            ·rw[e];unfold Po;rw[D_ (by omega),D_ (by omega)];simp
            ·rcases a with a | a
             ·exact .inr (.inl (by omega))
             ·exact .inr (.inr (.inr a))
           ·have B:decide ((j:Int)>(i:Int)+1)=false:=V_;have e2:decide ((j:Int)>(i:Int))=true:=e_;(conv=>whnf);rw[B];refine An.run ?_;(conv=>whnf);rw[e2];(conv=>whnf);rw[w8 (x:=(j:Int)) (by omega) (by omega)];refine Ah (Gx (s:=Cl) (D.agr b.old) (show j<256 by omega)) fun H9 f=>?_;have g:=b.call f;refine HK (E7 (by simp only[J_];omega) (show(Iq j (spB Cl j)).length≤4096 by omega)) ?_;rw[CU];(conv=>whnf);rw[P_ j (by omega)];refine⟨rfl,j+1,?_,⟨by omega,?_,g⟩,by omega⟩
            ·rw[e];unfold Po;rw[D_ (by omega),F_ (by omega)];simp
            ·rcases a with a | a
             ·exact .inr (.inl (by omega))
             ·exact .inr (.inr (.inr a))
           ·have B:decide ((j:Int)>(i:Int)+1)=true:=e_;have e2:decide ((j:Int)>(i:Int))=true:=e_;(conv=>whnf);rw[B];refine HK (E7 (v:=[45]) (by simp only[J_];omega) (by decide)) ?_;rw[show(⟨#[45]⟩:ByteArray)=bA [45]from rfl,CU];refine An.run ?_;(conv=>whnf);rw[e2];(conv=>whnf);rw[w8 (x:=(j:Int)) (by omega) (by omega)];refine Ah (Gx (s:=Cl) (D.agr b.old) (show j<256 by omega)) fun H9 f=>?_;have g:=b.call f;refine HK (E7 (by simp only[J_,h_];omega) (show(Iq j (spB Cl j)).length≤4096 by omega)) ?_;rw[CU];(conv=>whnf);rw[P_ j (by omega)];refine⟨rfl,j+1,?_,⟨by omega,?_,g⟩,by omega⟩
            ·rw[e];unfold Po;rw[F_ (by omega),F_ (by omega)];simp
            ·rcases a with a | a
             ·exact .inr (.inl (by omega))
             ·exact .inr (.inr (.inr a))
        ·have d3:decide ((j:Int)<255)=false:=V_;have a:j=255∨t (j+1)=false:=.inl (by omega);have q:=K;have H7:=H6;(conv=>whnf);rw[d3];have e:=V6 y R S hj z a;have a5:(Iq i (spB Cl i)).length≤4:=Ir _ _;have a6:(Iq j (spB Cl j)).length≤4:=Ir _ _;have a7:c.length+(HO t i).length≤2306:=by rw[←J_];exact F i (by omega)
         (conv=>whnf);rw[w8 (x:=(i:Int)) (by omega) (by omega)];refine Ah (Gx (s:=Cl) (D.agr q.old) I) fun H8 L=>?_;have b:=q.call L;refine HK (E7 (by rw[J_];omega) (show(Iq i (spB Cl i)).length≤4096 by omega)) ?_;rw[CU];refine An.run ?_;(conv=>whnf);rw[P_ i (by omega)];rcases(show j=i∨j=i+1∨i+1<j by omega)with A | A | A
         ·have B:decide ((j:Int)>(i:Int)+1)=false:=V_;have e2:decide ((j:Int)>(i:Int))=false:=V_;(conv=>whnf);rw[B];refine An.run ?_;(conv=>whnf);rw[e2];(conv=>whnf);rw[P_ j (by omega)];refine⟨rfl,j+1,?_,⟨by omega,?_,b⟩,by omega⟩
          ·rw[e];unfold Po;rw[D_ (by omega),D_ (by omega)];simp
          ·rcases a with a | a
           ·exact .inr (.inl (by omega))
           ·exact .inr (.inr (.inr a))
         ·have B:decide ((j:Int)>(i:Int)+1)=false:=V_;have e2:decide ((j:Int)>(i:Int))=true:=e_;(conv=>whnf);rw[B];refine An.run ?_;(conv=>whnf);rw[e2];(conv=>whnf);rw[w8 (x:=(j:Int)) (by omega) (by omega)];refine Ah (Gx (s:=Cl) (D.agr b.old) (show j<256 by omega)) fun H9 f=>?_;have g:=b.call f;refine HK (E7 (by simp only[J_];omega) (show(Iq j (spB Cl j)).length≤4096 by omega)) ?_;rw[CU];(conv=>whnf);rw[P_ j (by omega)];refine⟨rfl,j+1,?_,⟨by omega,?_,g⟩,by omega⟩
          ·rw[e];unfold Po;rw[D_ (by omega),F_ (by omega)];simp
          ·rcases a with a | a
           ·exact .inr (.inl (by omega))
           ·exact .inr (.inr (.inr a))
         ·have B:decide ((j:Int)>(i:Int)+1)=true:=e_;have e2:decide ((j:Int)>(i:Int))=true:=e_;(conv=>whnf);rw[B];refine HK (E7 (v:=[45]) (by simp only[J_];omega) (by decide)) ?_;rw[show(⟨#[45]⟩:ByteArray)=bA [45]from rfl,CU];refine An.run ?_;(conv=>whnf);rw[e2];(conv=>whnf);rw[w8 (x:=(j:Int)) (by omega) (by omega)];refine Ah (Gx (s:=Cl) (D.agr b.old) (show j<256 by omega)) fun H9 f=>?_;have g:=b.call f;refine HK (E7 (by simp only[J_,h_];omega) (show(Iq j (spB Cl j)).length≤4096 by omega)) ?_;rw[CU];(conv=>whnf);rw[P_ j (by omega)];refine⟨rfl,j+1,?_,⟨by omega,?_,g⟩,by omega⟩
          ·rw[e];unfold Po;rw[F_ (by omega),F_ (by omega)];simp
          ·rcases a with a | a
           ·exact .inr (.inl (by omega))
           ·exact .inr (.inr (.inr a))
    ·obtain rfl:i=256:=by omega
     refine HK (E7 (v:=[93]) (YbA (F 256 (I_ _)) (by decide)) (by decide)) ?_;rw[show(⟨#[93]⟩:ByteArray)=bA [93]from rfl,CU];(conv=>whnf);exact⟨rfl,d.old⟩
def dN(u:Nat):List Nat:=(decDigits u).map UInt8.toNat
theorem IX{u:Nat}(h:u<10):dN u=[48+u]:=by
 unfold dN;rw[decDigits_one h,YaV,Yc8,UInt8.toNat_ofNat']
 congr 1
 omega
theorem Oe(u:Nat):AgL (u:Int)=bA (dN u):=by
 unfold AgL bA dN itoa;rw[D_ (by omega),U',List.map_map]
 congr 2
 rw[show(UInt8.ofNat∘UInt8.toNat)=id from funext fun b=>by simp,List.map_id]
theorem MQ{u:Nat}(h:u<65536):(dN u).length≤5:=by
 unfold dN;rw[Z_];exact MR 4 u (by omega)
theorem Ac8{u:Nat}(h:u≤65536):(dN u).length≤6:=by
 unfold dN;rw[Z_];exact MR 5 u (by omega)
def XX(st:Nat→Nat→Nat)(i:Nat)(c:BitVec 256):List Nat:=[32]++Lp c++[62]++dN (st i (AE c 0).1)
def I5(st:Nat→Nat→Nat)(i:Nat)(cells:List (BitVec 256)):List Nat:=cells.flatMap (XX st i)
def La(cells:List (BitVec 256))(st:Nat→Nat→Nat)(fi:Nat→Bool)(i:Nat):List Nat:=dN i++(if fi i then [42]else [])++I5 st i cells++[10]
def F4(cells:List (BitVec 256))(st:Nat→Nat→Nat)(fi:Nat→Bool)(n:Nat):List Nat:=(AiO n).flatMap (La cells st fi)
def HB(n:Nat):List Nat:=[115,116,97,116,101,115,32]++dN n++[10]
def Vt(cells:List (BitVec 256))(n:Nat)(st:Nat→Nat→Nat)(fi:Nat→Bool):List Nat:=HB n++F4 cells st fi n
theorem Mr(cells:List (BitVec 256))(st:Nat→Nat→Nat)(fi:Nat→Bool)(n:Nat):F4 cells st fi (n+1)=F4 cells st fi n++La cells st fi n:=by
 unfold F4;rw[YcW,YcV];simp
theorem Vi(st:Nat→Nat→Nat)(i:Nat)(l:List (BitVec 256))(c:BitVec 256):I5 st i (l++[c])=I5 st i l++XX st i c:=by
 unfold I5;rw[YcV];simp
theorem AeA{st:Nat→Nat→Nat}{i:Nat}{c:BitVec 256}(h:st i (AE c 0).1<65536):(XX st i c).length≤2407:=by
 unfold XX;have a:=ON c;have b:=MQ h;simp only[J_,h_];omega
theorem OL{st:Nat→Nat→Nat}{i:Nat}:∀{l:List (BitVec 256)},(∀c∈l,st i (AE c 0).1<65536)→(I5 st i l).length≤l.length*2407
 | [],_=>I_ _
 | c::l,h=>by
   have d:=AeA (h c (by simp));have a:=OL (l:=l) fun x b=>h x (by simp[b]);unfold I5 at a ⊢;rw[Yc6,J_,b_];omega
theorem ZJ{cells:List (BitVec 256)}{st:Nat→Nat→Nat}{fi:Nat→Bool}{i:Nat}(a:i<65536)(b:cells.length≤256)(h:∀c∈cells,st i (AE c 0).1<65536):(La cells st fi i).length≤616199:=by
 unfold La;have d:=MQ a;have e:=OL h;have f:(if fi i then [42]else []:List Nat).length≤1:=by split<;>decide
 simp only[J_,h_];omega
theorem PM{cells:List (BitVec 256)}{st:Nat→Nat→Nat}{fi:Nat→Bool}(a:cells.length≤256):∀{n:Nat},n≤65536→(∀i,i<n→∀c∈cells,st i (AE c 0).1<65536)→(F4 cells st fi n).length≤n*616199
 | 0,_,_=>I_ _
 | n+1,hn,h=>by
   have b:=PM (fi:=fi) a (n:=n) (by omega) fun i d=>h i (by omega);have e:=ZJ (fi:=fi) (show n<65536 by omega) a (h n (by omega));rw[Mr,J_];omega
def leL(u v:List Nat):Prop:=u.length<v.length∨(u.length=v.length∧Do u v)
theorem Og(u:List Nat):leL u u:=.inr ⟨rfl,Gc u⟩
theorem JQ{u v w:List Nat}(h:leL u v)(k:leL v w):leL u w:=by
 rcases h with h | ⟨a,b⟩<;>rcases k with k | ⟨c,d⟩
 ·exact .inl (by omega)
 ·exact .inl (by omega)
 ·exact .inl (by omega)
 ·exact .inr ⟨by omega,Oh a c b d⟩
theorem ZG{u v:List Nat}(b:Nat)(h:leL u v):leL (u++[b]) (v++[b]):=by
 rcases h with h | ⟨a,c⟩
 ·exact .inl (by simpa using h)
 ·exact .inr ⟨by simp[a],PK b a c⟩
theorem PJ:∀(u:List Nat) {b c:Nat},b≤c→Do (u++[b]) (u++[c])
 | [],b,c,h=>by
   show Do [b] [c];unfold Do;rcases Yck h with h | h
   ·exact .inl h
   ·exact .inr ⟨h,Gc _⟩
 | a::u,b,c,h=>by
   show Do (a::(u++[b])) (a::(u++[c]));unfold Do;exact .inr ⟨rfl,PJ u h⟩
theorem PL:∀{u v:List Nat} (b c:Nat),u.length=v.length→Do u v→u≠v→Do (u++[b]) (v++[c])
 | [],[],_,_,_,_,h=>absurd rfl h
 | [],_::_,_,_,h,_,_=>by simp at h
 | _::_,[],_,_,h,_,_=>by simp at h
 | a::u,d::v,b,c,h,f,h2=>by
   unfold Do at f;show Do (a::(u++[b])) (d::(v++[c]));unfold Do;rcases f with f | ⟨rfl,f⟩
   ·exact .inl f
   ·exact .inr ⟨rfl,PL b c (by simpa using h) f fun e=>h2 (by rw[e])⟩
theorem ZH{u v:List Nat}(b c:Nat)(h:leL u v)(a:u≠v):leL (u++[b]) (v++[c]):=by
 rcases h with h | ⟨d,e⟩
 ·exact .inl (by simpa using h)
 ·exact .inr ⟨by simp[d],PL b c d e a⟩
structure D7(g:Gr)(by_:List Nat)(a:Nd)(F:List NW)(i:Nat)(k:Nat):Prop where
 zero:F[0]?=some (a,[])
 nd:(F.map (·.1)).Nodup
 ok:∀x∈F,(∀b∈x.2,b∈by_)∧To g x.2 a x.1
 up:∀(j l:Nat) (x y:NW),j<l→F[j]?=some x→F[l]?=some y→leL x.2 y.2∧x.2≠y.2
 closed:∀(j l:Nat) (x:NW) (b:Nat) (t:Nd),F[j]?=some x→by_[l]?=some b→t∈g.next x.1 b→(j<i∨(j=i∧l<k))→∃y∈F,y.1=t∧leL y.2 (x.2++[b])
 par:∀(m:Nat) (y:NW),F[m]?=some y→m=0∨∃(j l b:Nat) (x:NW),F[j]?=some x∧by_[l]?=some b∧y.2=x.2++[b]∧(j<i∨(j=i∧l<k))
section
variable{g:Gr}{by_:List Nat}{a t:Nd}{F F':List NW}{i k:Nat}
theorem D7.start:D7 g by_ a [(a,[])] 0 0:=by
 refine⟨rfl,by simp,fun x c=>?_,fun j l x y f c d=>?_,fun j l x b t c e i h=>by omega,fun m y d=>.inl ?_⟩
 ·rw[Y_]at c;subst c;exact⟨fun b e=>(by cases e),rfl⟩
 ·have:=(O_.1 d).1;simp at this;omega
 ·have:=(O_.1 d).1;simp at this;omega
theorem D7.turn(h:D7 g by_ a F i k)(r:by_.length≤k):D7 g by_ a F (i+1) 0:=by
 refine⟨h.zero,h.nd,h.ok,h.up,fun j l x b t d c e s=>h.closed j l x b t d c e ?_,fun m y f=>?_⟩
 ·have:=(O_.1 c).1;omega
 ·rcases h.par m y f with n | ⟨j,l,b,x,o,p,q,u⟩
  ·exact .inl n
  ·exact .inr ⟨j,l,b,x,o,p,q,by omega⟩
theorem D7.ahead(h:D7 g by_ a F i k)(d:by_.Pairwise (·<·)){x:NW}(r:F[i]?=some x){b:Nat}(t:by_[k]?=some b){m:Nat}{y:NW}(f:F[m]?=some y):leL y.2 (x.2++[b])∧y.2≠x.2++[b]:=by
 rcases h.par m y f with rfl | ⟨j,l,c,z,n,u,e,o⟩
 ·rw[h.zero]at f;cases f;exact⟨.inl (by simp),fun e=>by simp at e⟩
 ·rw[e];rcases o with o | ⟨rfl,p⟩
  ·have⟨v,s⟩:=h.up j i z x o n r;exact⟨ZH c b v s,fun e=>s (Yd8 e rfl).1⟩
  ·rw[r]at n;cases n;have q:c<b:=by
    have⟨p1,p2⟩:=O_.1 u;have⟨w,A⟩:=O_.1 t;have:=Ya9.1 d l k p1 w p;rw[p2,A]at this;exact this
   refine⟨.inr ⟨by simp,PJ _ (YdB q)⟩,fun e=>?_⟩;have:=Yd8 e rfl;simp at this;omega
theorem D7.add(h:D7 g by_ a F i k)(w:by_.Pairwise (·<·)){x:NW}(r:F[i]?=some x){b:Nat}(v:by_[k]?=some b)(B:g.next x.1 b=[t])
  (M:((∃y∈F,y.1=t)∧F'=F)∨((∀y∈F,y.1≠t)∧F'=F++[(t,x.2++[b])])):D7 g by_ a F' i (k+1):=by
 have N:=(O_.1 r).1;rcases M with⟨⟨z,n,C⟩,rfl⟩ | ⟨D,rfl⟩
 ·refine⟨h.zero,h.nd,h.ok,h.up,fun j l y c u d f s A=>?_,fun m y d=>?_⟩
  ·by_cases hold:j<i∨(j=i∧l<k)
   ·exact h.closed j l y c u d f s hold
   ·obtain⟨rfl,rfl⟩:j=i∧l=k:=by omega
    rw[r]at d;cases d;rw[v]at f;cases f;rw[B,Y_]at s;subst s;have⟨m,E⟩:=YaI n;exact⟨z,n,C,(h.ahead w r v E).1⟩
  ·rcases h.par m y d with G | ⟨j,l,c,H,I,J,K,O⟩
   ·exact .inl G
   ·exact .inr ⟨j,l,c,H,I,J,K,by omega⟩
 ·have q:∀(m:Nat) (y:NW),(F++[(t,x.2++[b])])[m]?=some y→F[m]?=some y∨(m=F.length∧y=(t,x.2++[b])):=fun m y d=>by
   by_cases E:m<F.length
   ·rw[YaG E]at d;exact .inl d
   ·have L:=(O_.1 d).1;simp only[J_,h_]at L;obtain rfl:m=F.length:=by omega
    simp at d;exact .inr ⟨rfl,d.symm⟩
  have old:∀{m:Nat} {y:NW},F[m]?=some y→(F++[(t,x.2++[b])])[m]?=some y:=fun{m y} d=>by
   rw[YaG (O_.1 d).1];exact d
  have o:∀{j:Nat} {y:NW},j≤i→(F++[(t,x.2++[b])])[j]?=some y→F[j]?=some y:=fun{j y} A d=>by
   rw[YaG (by omega)]at d;exact d
  refine⟨old h.zero,?_,fun y d=>?_,fun j l y z A d n=>?_,fun j l y c u d f s A=>?_,fun m y d=>?_⟩
  ·rw[YcB];refine YcH.2 ⟨h.nd,by simp,fun y d z n=>?_⟩;simp only[YaV,Yc8,Y_]at n;subst n;obtain⟨p,P,rfl⟩:=I'.1 d;exact D p P
  ·rcases q_.1 d with d | d
   ·exact h.ok y d
   ·rw[Y_]at d;subst d;have⟨Q,R⟩:=h.ok x (c_ r);refine⟨fun c f=>?_,Nv.2 ⟨_,R,by rw[B];exact Y_.2 rfl⟩⟩;rcases q_.1 f with f | f
    ·exact Q c f
    ·rw[Y_]at f;subst f;exact c_ v
  ·rcases q l z n with n | ⟨rfl,rfl⟩
   ·exact h.up j l y z A (by
     rcases q j y d with d | ⟨rfl,-⟩
     ·exact d
     ·have:=(O_.1 n).1;omega) n
   ·rcases q j y d with d | ⟨rfl,-⟩
    ·exact h.ahead w r v d
    ·omega
  ·by_cases hold:j<i∨(j=i∧l<k)
   ·have⟨z,n,e,S⟩:=h.closed j l y c u (o (by omega) d) f s hold;exact⟨z,q_.2 (.inl n),e,S⟩
   ·obtain⟨rfl,rfl⟩:j=i∧l=k:=by omega
    have d:=o (I_ _) d;rw[r]at d;cases d;rw[v]at f;cases f;rw[B,Y_]at s;subst s;exact⟨_,q_.2 (.inr (Y_.2 rfl)),rfl,Og _⟩
  ·rcases q m y d with d | ⟨rfl,rfl⟩
   ·rcases h.par m y d with G | ⟨j,l,c,H,I,J,K,O⟩
    ·exact .inl G
    ·exact .inr ⟨j,l,c,H,old I,J,K,by omega⟩
   ·exact .inr ⟨i,k,b,x,old r,v,rfl,by omega⟩
theorem D7.covers(h:D7 g by_ a F i 0):∀(n:Nat) {u:List Nat} {t:Nd},u.length=n→(∀b∈u,b∈by_)→To g u a t→(∃(j:Nat) (x:NW),j<i∧F[j]?=some x∧x.1=t∧leL x.2 u)∨∃x,F[i]?=some x∧leL x.2 u
 | 0,u,t,hu,_,ht=>by
   obtain rfl:=Ya8 hu;obtain rfl:a=t:=ht;cases i with
   | zero=>exact .inr ⟨_,h.zero,Og _⟩
   | succ i=>exact .inl ⟨0,_,by omega,h.zero,rfl,Og _⟩
 | n+1,u,t,hu,hb,ht=>by
   obtain⟨w,b,rfl⟩:∃w b,u=w++[b]:=⟨u.dropLast,u.getLast (by rintro rfl;simp at hu),(Ydb _).symm⟩;rw[J_,h_,Nat.add_right_cancel_iff]at hu;have⟨p,A,q⟩:=Nv.1 ht;rcases h.covers n hu (fun c B=>hb c (q_.2 (.inl B))) A with⟨j,x,C,r,rfl,s⟩ | ⟨x,r,s⟩
   ·have⟨l,v⟩:=YaI (hb b (by simp));have⟨y,D,e,z⟩:=h.closed j l x b t r v q (.inl C);have d:=JQ z (ZG b s);have⟨m,o⟩:=YaI D;rcases Ydo m i with f | rfl | f
    ·exact .inl ⟨m,y,f,o,e,d⟩
    ·exact .inr ⟨y,o,d⟩
    ·have k:i<F.length:=by have:=(O_.1 o).1;omega
     exact .inr ⟨_,N' k,JQ (h.up i m _ y f (N' k) o).1 d⟩
   ·exact .inr ⟨x,r,JQ s (.inl (by simp))⟩
variable(hby:∀c,c<256→∃r∈by_,r≤c∧∀n,g.next n r=g.next n c)
include hby
theorem D7.found(d:∀b∈by_,b<256)(h:D7 g by_ a F i 0){x:NW}(o:F[i]?=some x)(q:g.ends x.1=true)(m:∀(j:Nat) (y:NW),j<i→F[j]?=some y→g.ends y.1=false):HN g (·=a) x.2:=by
 have e:∀u,DT u→Lz g (·=a) u→leL x.2 u:=fun u r f=>by
  obtain⟨n,rfl,s⟩:=f;have⟨v,w,z,A,B⟩:=K8 hby r s;have⟨t,C,p⟩:=Jg.1 A;rcases h.covers _ rfl z C with⟨j,y,D,l,rfl,-⟩ | ⟨y,l,k⟩
  ·rw[m j y D l]at p;cases p
  ·rw[o]at l;cases l;exact JQ k (.inr ⟨w,B⟩)
 have⟨E,G⟩:=h.ok x (c_ o);refine⟨⟨rfl,fun b H=>d b (E b H),⟨a,rfl,Jg.2 ⟨_,G,q⟩⟩,fun u f c k=>?_⟩,fun u c k=>?_⟩
 ·rcases e u c k with h | ⟨-,h⟩
  ·omega
  ·exact h
 ·rcases e u c k with h | ⟨h,-⟩<;>omega
theorem D7.none(h:D7 g by_ a F F.length 0)(c:∀y∈F,g.ends y.1=false):∀u,DT u→¬Lz g (·=a) u:=by
 rintro u e ⟨n,rfl,f⟩;have⟨v,m,i,k,o⟩:=K8 hby e f;have⟨t,l,d⟩:=Jg.1 k;rcases h.covers _ rfl i l with⟨j,y,p,b,rfl,-⟩ | ⟨y,b,q⟩
 ·rw[c y (c_ b)]at d;cases d
 ·rw[YaL (I_ _)]at b;cases b
end
section
attribute [local irreducible] Bj Bd AP
def Z'(z:Int×Int):List v_:=[A_ z.1,A_ z.2]
def pkV(z:Int×Int):v_:=.agg (Z' z).toArray
def Hf(z:Int×Int):Prop:=J' .i64 z.1∧J' .i64 z.2
theorem W4{a b:Int×Int}(h:pkV a=pkV b):a=b:=by
 have⟨x,y⟩:=a;have⟨e,f⟩:=b;simp only[pkV,Z',Value.agg.injEq,Array.mk.injEq,AlG.injEq,Value.int.injEq,true_and,and_true]at h;have⟨c,d⟩:=h;rw[c,d]
theorem W5{x:Int}(h:J' .i64 x):(Lit.int .i64 x).wf=true:=by
 unfold Lit.wf;simp only[r_,Zzj];exact h
theorem AdW(m:Nat){n:Int×Int}(h:Hf n):prog.keyLits (m+2) 288 (Z' n)=some [.int .i64 n.1,.int .i64 n.2]:=by
 have a:prog.cellsOf 288=2:=by kernel_rfl
 have b:prog.cellsOf 3=1:=by kernel_rfl
 simp[Program.keyLits,underlying288,underlying3,a,b,Z',W5 h.1,W5 h.2]
theorem Ah5{n:Int×Int}(h:Hf n):∃l,keyOf prog 288 (pkV n)=some l:=by
 have a:prog.keyType 288=true:=by kernel_rfl
 have b:prog.cellsOf 288=2:=by kernel_rfl
 have c:(pkV n).formed prog 288=true:=by simp[pkV,Z',Value.formed,underlying288,b]
 obtain⟨m,d⟩:∃m,prog.types.size+1=m+2:=⟨prog.types.size-1,by
  have:decide (1≤prog.types.size)=true:=by kernel_rfl
  have:=of_decide_eq_true this;omega⟩
 refine⟨.string (keyBytes [.int .i64 n.1,.int .i64 n.2]),?_⟩;unfold keyOf;simp only[underlying288,a,c,Yds,if_true];rw[d,show(pkV n).cells.toList=Z' n from rfl,AdW m h];rfl
theorem SS:II prog 288 Hf pkV:=
 II.ofLaw (deep_law (m:=2) (by decide) (by kernel_rfl) (by kernel_rfl) (by simp[underlying288])) (fun a b h=>W4 h) (fun a h=>Ah5 h)
def wyL(w:Int×Nat):List v_:=[A_ w.1,.int .u8 (w.2:Int)]
def wyV(w:Int×Nat):v_:=.agg (wyL w).toArray
theorem Td:I4 prog 291 288 290 (wyV (0,0)):=⟨rfl,rfl⟩
def tPk:Ty Nd where
 size:=2
 rep _ _ cs n:=n.s=0∧cs=Z' (n.x,n.y)
 len h:=by rw[h.2];rfl
 frame h _:=h
 mono h _:=h
def GX(F:List NW)(W:List (Int×Nat))(z:Int×Int):Option v_:=(F.findIdx? fun x=>decide ((x.1.x,x.1.y)=z)).bind fun i=>(W[i]?).map wyV
structure IJ(F:List NW)(W:List (Int×Nat)):Prop where
 len:W.length=F.length
 nd:(F.map fun x=>(x.1.x,x.1.y)).Nodup
 s0:∀x∈F,x.1.s=0
 zero:W[0]?=some (-1,0)
 link:∀(i:Nat) (y:NW),F[i]?=some y→(i=0∧y.2=[])∨∃(j c:Nat) (x:NW),W[i]?=some ((j:Int),c)∧j<i∧F[j]?=some x∧y.2=x.2++[c]∧c<256
theorem XV{F:List NW}{W:List (Int×Nat)}(b:(F.map fun x=>(x.1.x,x.1.y)).Nodup){i:Nat}{y:NW}(h:F[i]?=some y):F.findIdx? (fun x=>decide ((x.1.x,x.1.y)=(y.1.x,y.1.y)))=some i:=by
 rw[YcP];have⟨a,e⟩:=O_.1 h;refine⟨a,by rw[e];exact n_ rfl,fun j c=>?_⟩;have:=(Ya9.1 b) j i (by rw[Z_];omega) (by rw[Z_];exact a) c;rw[Yd9,Yd9,e]at this;simpa using this
theorem IJ.seen{F:List NW}{W:List (Int×Nat)}(h:IJ F W){i:Nat}{y:NW}{w:Int×Nat}(a:F[i]?=some y)(b:W[i]?=some w):GX F W (y.1.x,y.1.y)=some (wyV w):=by
 unfold GX;rw[XV (W:=W) h.nd a];simp[b]
def Ha(l:List Nat)(i:Nat):List Nat:=(AiO l.length).map fun p=>if p<i∨l.length≤p+i then l.getD (l.length-1-p) 0 else l.getD p 0
theorem Fa(l:List Nat)(i:Nat):(Ha l i).length=l.length:=by simp[Ha]
theorem HJ{l:List Nat}{i p:Nat}(h:p<l.length):(Ha l i)[p]?=some (if p<i∨l.length≤p+i then l.getD (l.length-1-p) 0 else l.getD p 0):=by
 unfold Ha;rw[o_,YaR h];rfl
theorem Vv(l:List Nat):Ha l 0=l:=by
 apply YaJ;intro p;by_cases a:p<l.length
 ·rw[HJ a,D_ (by omega),YaD,N' a]<;>rfl
 ·rw[YaL (by rw[Fa];omega),YaL (by omega)]
theorem Yk{l:List Nat}{i:Nat}(h:l.length≤i+i+1):Ha l i=l.reverse:=by
 apply YaJ;intro p;by_cases a:p<l.length
 ·rw[HJ a,List.getElem?_reverse a,N' (by omega)];by_cases b:p<i∨l.length≤p+i
  ·rw[F_ b,YaD,N' (by omega)]<;>rfl
  ·rw[D_ b,YaD,N' a];have:l.length-1-p=p:=by omega
   simp only[this,Option.getD_some]
 ·rw[YaL (by rw[Fa];omega),YaL (by rw[List.length_reverse];omega)]
theorem Vu{l:List Nat}{i:Nat}(h:i+i+1<l.length):((Ha l i).set i (l.getD (l.length-1-i) 0)).set (l.length-1-i) (l.getD i 0)=Ha l (i+1):=by
 apply YaJ;intro p;by_cases a:p<l.length
 ·rw[HJ a,YaT,YaH,Fa];by_cases b:l.length-1-i=p
  ·subst b;rw[F_ rfl,F_ a,F_ (.inr (by omega)),show l.length-1-(l.length-1-i)=i by omega]
  ·rw[D_ b,YaT,Fa];by_cases c:i=p
   ·subst c;rw[F_ rfl,F_ a,F_ (.inl (by omega))]
   ·rw[D_ c,HJ a];by_cases d:p<i∨l.length≤p+i
    ·rw[F_ d,F_ (by omega)]
    ·rw[D_ d,D_ (by omega)]
 ·rw[YaL (by rw[YaH,YaH,Fa];omega),YaL (by rw[Fa];omega)]
theorem AfM{α:Type}{T:Ty α}{S:Nat→Prop}{B:Nat→Prop}{H0 H:Aa}{ps:List Pc}{n cap:Nat}{xs:List α}{P:w_}{t b o j:Nat}{v:v_}{x:α}{K:Aa→Prop}(st:B_ B H0 H ps)(i:Nat)(w:BW P t)(q:ps[i]?=some (pN T S t (T_ b) n cap xs))(r:T.size=1)(y:o=j)(z:j<xs.length)
  (A:v.oneCell'=true) (C:∀H',C_ S H H'→T.rep S H' [v] x) (k:∀H',B_ B H0 H' (ps.set i (pN T S t (T_ b) n cap (xs.set j x)))→C_ (fun k=>k<H.size∧k≠b) H H'→H.size≤H'.size→K H'):CN P (Instr.storeAt t (.pointer (some ⟨b,o,none⟩)) v) H K:=by
 subst y;have d:=st.at_ i q;obtain⟨-,-,-,l,g,h,-,c⟩:=d.1.placeS z;rw[r,Nat.mul_one]at h c;refine VC.st1 w g (by omega) A ?_;intro H' s e u;have m:C_ S H H':=e.mono fun k a f=>d.2 k a (by subst f;exact⟨0,n,cap,rfl⟩);have p:=c H' [v] x (by rw[OQ (by omega)];exact s) m (C H' m);exact k H' (st.upd i q (e.mono fun k a f=>a.2 (.inl (by subst f;exact⟨0,n,cap,rfl⟩))) _ ⟨p,d.2⟩ (fun k a=>.inl a) (fun k a=>by rw[u];exact(st.in_ i q a).2) (by omega)) (e.mono fun k a=>a.2) (by omega)
theorem Mc:(prog.info? 290).bind (·.zero)=some (wyV (0,0)):=by kernel_rfl
theorem AeF{H:Aa}{oa:Option Addr}{oc mb i:Nat}{F:List NW}{W:List (Int×Nat)}{y:NW}(ho:g_ tPk (H_ H) H oa oc (F.map (·.1)))(hm:IK Hf pkV H mb (GX F W))(M:IJ F W)(hF:F.length≤4294967296)(hr:∀x∈F,Hf (x.1.x,x.1.y))(N:F[i]?=some y):
  BM prog 159 #[.slice oa F.length oc,.map (some mb),A_ i] H (.string (bA y.2)):=by
 have a3:mb<H.size:=by
  obtain⟨⟨es,a4,h1,-⟩,-⟩:=hm;exact(Yaa.1 h1).1
 have O:∀{k:Nat} {x:NW},F[k]?=some x→(F.map (·.1))[k]?=some x.1:=fun h=>by rw[o_,h];rfl
 have a5:∀{G:Aa},C_ (H_ H) H G→IK Hf pkV G mb (GX F W):=fun h=>by
  have⟨h1,h2⟩:=hm;exact⟨h1.agr h a3,h2⟩
 refine Ak.of_vc func159 rfl (call159 _) ?_;have⟨w,hw⟩:=Ac (l:=W) (k:=i) (by rw[M.len];exact(O_.1 N).1);refine IB (i:=i) Qr ho (Z_ _).symm (O N) rfl ?_;rintro b1 o1 c1 bh a7 ⟨-,rfl⟩;refine L_ (cs:=Z' (y.1.x,y.1.y)) Ps a7 trivial (UM (a:=(y.1.x,y.1.y)) Td SS (hr y (c_ N)) hm trivial ?_);rw[M.seen N hw];refine Am (wyV (0,0)) (wyL (0,0)) Mc rfl ?_;intro p2 H2 a8 a9 ae ag;have P:=(St.nil H).box a8 a9 ae ag;refine AN (cs:=wyL w) P 0 rfl rfl (I_ _) rfl fun H3 I=>?_;rw[Aw (show(wyL w).length=(wyL (0,0)).length from rfl)]at I;have n:=I.nils tU8 EI;(conv=>whnf);refine A0.mk [7,8] (fun x:Nat×List Nat×Option Addr×Nat×Nat=>match x with | (k,bk,a,c,Q)=>[.slice a bk.length c,U_ Q])
  (fun x H4=>match x with | (k,bk,a,c,Q)=>(∃z wz,F[k]?=some z∧W[k]?=some wz∧y.2=z.2++bk.reverse∧(∀b∈bk,b<256)∧bk.length+k≤i∧(bk=[]→a=none)∧St H H4 [pB 290 Q (wyL wz),pS tU8 EI a bk.length c (bk.map fun(x:Nat)=>(x:Int))])) (fun x _=>x.1) ?_ ?_
 ·(conv=>whnf);exact⟨(i,[],none,0,p2),rfl,y,w,N,hw,by simp,(fun b C=>by cases C),by simp,fun _=>rfl,n⟩
 ·clear n I P;rintro⟨k,bk,a,c,Q⟩ H4 ah ⟨z,wz,hz,q,R,S,bi,T,n⟩;have bj:=(O_.1 N).1;have ai:(bk.map fun(x:Nat)=>(x:Int)).length=bk.length:=Z_ _;refine f_ Wa ?_;refine lT (v:=A_ wz.1) E_ ((n.blk 0 rfl).ce rfl) ?_;rcases M.link k z hz with⟨rfl,aj⟩ | ⟨j,s,x,ak,am,t,ao,U⟩
  ·rw[M.zero]at q;injection q with q
   subst q;have ap:y.2=bk.reverse:=by rw[R,aj];simp
   (conv=>whnf);rw[W_ (x:=(bk.length:Int)-1) (by omega)];(conv=>whnf);refine A0.mk [9,10] (fun i:Nat=>[A_ i,A_ ((bk.length:Int)-1-(i:Int))]) (fun i H5=>(i=0∨i+i≤bk.length)∧St H H5 [pB 290 Q (wyL (-1,0)),pS tU8 EI a bk.length c ((Ha bk i).map fun(x:Nat)=>(x:Int))]) (fun i _=>bk.length-i) ?_ ?_
   ·(conv=>whnf);refine⟨0,by simp,.inl rfl,?_⟩;rw[Vv];exact n
   ·clear n;rintro d H5 aq ⟨bm,g⟩;have D:∀p,p<bk.length→((Ha bk d).map fun(x:Nat)=>(x:Int))[p]?=some (((if p<d∨bk.length≤p+d then bk.getD (bk.length-1-p) 0 else bk.getD p 0:Nat)):Int):=fun p hp=>by rw[o_,HJ hp];rfl
    have r:((Ha bk d).map fun(x:Nat)=>(x:Int)).length=bk.length:=by rw[Z_,Fa]
    have A:∀p,bk.getD p 0<256:=fun p=>by
     rw[YaD];cases h:bk[p]? with
     | none=>decide
     | some b=>exact S b (c_ h)
    refine AG.m2 (fun ar=>?_) (fun ar=>?_)
    ·have au:d+d+1<bk.length:=by omega
     obtain⟨ab,rfl⟩:=g.adr 1 rfl (by rw[r];omega);have hj:((bk.length:Int)-1-(d:Int))=((bk.length-1-d:Nat):Int):=by omega
     have aw:(if bk.length-1-d<d∨bk.length≤bk.length-1-d+d then bk.getD (bk.length-1-(bk.length-1-d)) 0 else bk.getD (bk.length-1-d) 0)=bk.getD (bk.length-1-d) 0:=D_ (by omega);have ax:(if d<d∨bk.length≤d+d then bk.getD (bk.length-1-d) 0 else bk.getD d 0)=bk.getD d 0:=D_ (by omega);have V:=D (bk.length-1-d) (by omega);have X:=D d (by omega);rw[aw]at V;rw[ax]at X;have e1:((((Ha bk d).map fun(x:Nat)=>(x:Int)).set d ((bk.getD (bk.length-1-d) 0:Nat):Int)).set (bk.length-1-d) ((bk.getD d 0:Nat):Int))=(Ha bk (d+1)).map fun(x:Nat)=>(x:Int):=by
      rw[←Vu au,List.map_set,List.map_set]
     have B:C_ (fun k=>k<H5.size∧k≠ab) H5 H5:=C_.refl _ _;refine Aq.heldZ (fun k=>k<H5.size∧k≠ab) [15] (sq [0,1,2,3,4,5,6,8,9,10] (.b 7 (.f 11 (sq [12] (.f 13 (sq [14] (.f 15 .e))))) 11 (.f 7 (sq [12] (.f 13 (sq [14] (.f 15 .e))))))) rfl (by kernel_rfl) ?_;rw[hj];refine ixO (j:=bk.length-1-d) CS g 1 rfl V rfl ?_;rintro b6 o6 c6 bn Y ⟨rfl,-⟩;refine ixO (j:=d) CS g 1 rfl X rfl ?_;rintro b7 o7 c7 bo Z ⟨rfl,-⟩;refine⟨?_,?_⟩
     ·refine G_ ct5 Y.one trivial (⟨B,?_⟩);refine G_ ct5 Z.one trivial (⟨B,?_⟩);refine ix CS (by omega) (by omega) ?_;refine AfM (j:=d) (x:=((bk.getD (bk.length-1-d) 0:Nat):Int)) g 1 ct5 rfl rfl (by omega) (by rw[r];omega) rfl (fun H' _=>⟨rfl,K5 (A _)⟩) fun H8 m J ay=>?_;refine⟨J,?_⟩;refine ix CS (by omega) (by omega) ?_;refine GA (j:=bk.length-1-d) (x:=((bk.getD d 0:Nat):Int)) m 1 ct5 rfl rfl (by omega) (by rw[YaH,r];omega) rfl (fun H' _=>⟨rfl,K5 (A _)⟩) fun H9 K=>?_;(conv=>whnf);rw[P_ d (by omega)];(conv=>whnf);rw[W_ (x:=((bk.length-1-d:Nat):Int)-1) (by omega)];refine⟨rfl,d+1,?_,⟨by omega,?_⟩,by omega⟩
      ·simp only[AlG.injEq,Value.int.injEq,true_and,and_true];exact⟨by omega,by omega⟩
      ·rw[←e1];exact K
     ·refine G_ ct5 Z.one trivial (⟨B,?_⟩);refine G_ ct5 Y.one trivial (⟨B,?_⟩);refine ix CS (by omega) (by omega) ?_;refine AfM (j:=d) (x:=((bk.getD (bk.length-1-d) 0:Nat):Int)) g 1 ct5 rfl rfl (by omega) (by rw[r];omega) rfl (fun H' _=>⟨rfl,K5 (A _)⟩) fun H8 m J ay=>?_;refine⟨J,?_⟩;refine ix CS (by omega) (by omega) ?_;refine GA (j:=bk.length-1-d) (x:=((bk.getD d 0:Nat):Int)) m 1 ct5 rfl rfl (by omega) (by rw[YaH,r];omega) rfl (fun H' _=>⟨rfl,K5 (A _)⟩) fun H9 K=>?_;(conv=>whnf);rw[P_ d (by omega)];(conv=>whnf);rw[W_ (x:=((bk.length-1-d:Nat):Int)-1) (by omega)];refine⟨rfl,d+1,?_,⟨by omega,?_⟩,by omega⟩
      ·simp only[AlG.injEq,Value.int.injEq,true_and,and_true];exact⟨by omega,by omega⟩
      ·rw[←e1];exact K
    ·have a0:Ha bk d=bk.reverse:=Yk (by omega);rw[a0]at g;rw[ap];by_cases a1:bk=[]
     ·subst a1;obtain rfl:=T rfl;refine AfO (e:=EI) rfl rfl rfl ?_;(conv=>whnf);exact⟨rfl,g.old⟩
     ·have u5:St H H5 [pS tU8 EI a bk.length c (bk.reverse.map fun(x:Nat)=>(x:Int))]:=g.pick [1] (by decide);refine UP u5 (by simpa using a1) rfl rfl rfl ?_;(conv=>whnf);exact⟨rfl,g.old⟩
  ·rw[ak]at q;injection q with q
   subst q;have⟨wj,a2⟩:=Ac (l:=W) (k:=j) (by rw[M.len];exact(O_.1 t).1);refine f_ AcT ?_;refine lT (v:=.int .u8 (s:Int)) ct5 ((n.blk 0 rfl).ce rfl) ?_;refine Ay CS [.int .u8 (s:Int)] rfl rfl (by decide) (by decide) ?_;intro q5 H5 az bp b0 b4;refine AeX (ys:=[(s:Int)]) (n.skip az b4) 1 CS rfl (b0.cells (o:=0) (cs:=[.int .u8 (s:Int)]) fun j v hv=>by rw[K_];exact hv) (Ty.reps_one ⟨rfl,K5 U⟩) rfl (fun u hu=>by cases Y_.1 hu;rfl) (by rw[ai];simp only[b_,m_];omega) (by decide) fun a6 c6 H6 L _=>?_;have e1:(bk.map fun(x:Nat)=>(x:Int))++[(s:Int)]=(bk++[s]).map fun(x:Nat)=>(x:Int):=by simp
   have e2:(bk.map fun(x:Nat)=>(x:Int)).length+[(s:Int)].length=(bk++[s]).length:=by simp
   rw[e1,e2]at L;rw[e2];refine L_ (cs:=wyL ((j:Int),s)) Ai5 ((L.blk 0 rfl).cells fun j v hv=>by rw[K_];exact hv) trivial ?_;refine Am (wyV (0,0)) (wyL (0,0)) Mc rfl ?_;intro p7 H7 b5 b8 bd be;have bf:=L.box b5 b8 bd be;refine AN (cs:=wyL ((j:Int),s)) bf 2 rfl rfl (I_ _) rfl fun H8 m=>?_;rw[Aw (show(wyL ((j:Int),s)).length=(wyL (0,0)).length from rfl)]at m;refine f_ Wa ?_;refine lT (v:=A_ j) E_ ((m.blk 2 rfl).ce rfl) ?_;refine IB (i:=j) Qr (ho.frame m.old) (Z_ _).symm (O t) rfl ?_;rintro b9 o9 c9 bq bg ⟨-,rfl⟩;refine L_ (cs:=Z' (x.1.x,x.1.y)) Ps bg trivial (UM (a:=(x.1.x,x.1.y)) Td SS (hr x (c_ t)) (a5 m.old) trivial ?_);rw[M.seen t a2];refine AN (cs:=wyL wj) m 2 rfl rfl (I_ _) rfl fun H10 E=>?_;rw[Aw (show(wyL wj).length=(wyL ((j:Int),s)).length from rfl)]at E;exact⟨rfl,(j,bk++[s],a6,c6,p7),by simp,⟨x,wj,t,a2,by rw[R,ao];simp,fun b C=>by
    rcases q_.1 C with C | C
    ·exact S b C
    ·rw[Y_]at C;subst C;exact U,by simp only[J_,b_,m_];omega,fun h=>by simp at h,E.pick [2,1] (by decide)⟩,am⟩
def FJ(ask:Bool→Bool→Bool)(a b:Option AM):Gr:=⟨fun n c=>[⟨0,As a n.x c,As b n.y c⟩],fun n=>ask (AY a n.x) (AY b n.y)⟩
section
variable{ask:Bool→Bool→Bool}{a b:Option AM}
theorem Ag6(d:DS a)(f:DS b){by_:List Nat}(q:∀b∈by_,b<256)(r:by_.length≤256):Q8 (FJ ask a b) by_ 4294967296 1:=by
 have na:=d.n2;have nb:=f.n2;refine AcX (Yu a b) (fun n=>n.x.toNat*65536+n.y.toNat) ⟨rfl,d.zero,f.zero⟩ (fun n c t h g u=>?_) (fun n h=>?_) (fun n h=>?_) (fun n m h k e=>?_) (fun n c=>I_ _) (by decide) (by decide) q r
 ·obtain rfl:=Y_.1 u;exact⟨rfl,d.step _ _ h.2.1 g,f.step _ _ h.2.2 g⟩
 ·obtain⟨i,⟨j,l⟩,o,p⟩:=h;refine⟨?_,?_,?_⟩<;>unfold J'<;>simp only[IntKind.min,IntKind.max,IntKind.signed,IntKind.bits]<;>constructor<;>simp<;>omega
 ·obtain⟨i,⟨j,l⟩,o,p⟩:=h;omega
 ·obtain⟨i,⟨j,l⟩,o,p⟩:=h;obtain⟨A,⟨B,C⟩,D,E⟩:=k;obtain⟨s,x,y⟩:=n;obtain⟨v,w,z⟩:=m;simp only at*;obtain⟨rfl,rfl,rfl⟩:s=v∧x=w∧y=z:=⟨by omega,by omega,by omega⟩;rfl
theorem WY(sa:DS a)(sb:DS b){by_:List Nat}(c:∀b∈by_,b<256):∀n,Dt (FJ ask a b) by_ Az n→Yu a b n:=fun n f=>by
 induction f with
 | refl=>exact⟨rfl,sa.zero,sb.zero⟩
 | step _ d g e=>
   obtain rfl:=Y_.1 g;exact⟨rfl,sa.step _ _ e.2.1 (c _ d),sb.step _ _ e.2.2 (c _ d)⟩
theorem Te(sa:DS a)(sb:DS b){n:Nd}(h:Yu a b n):Hf (n.x,n.y):=by
 obtain⟨c,⟨d,e⟩,f,g⟩:=h;have na:=sa.n2;have nb:=sb.n2;exact⟨FQ ⟨by simp only;omega,by simp only;omega⟩,FQ ⟨by simp only;omega,by simp only;omega⟩⟩
end
section
variable{F:List NW}{W:List (Int×Nat)}
theorem T4{n:Nd}{w:List Nat}{x:Int×Nat}(c:W.length=F.length)(a:∀y∈F,(y.1.x,y.1.y)≠(n.x,n.y)):put (GX F W) (n.x,n.y) (some (wyV x))=GX (F++[(n,w)]) (W++[x]):=by
 funext z;unfold put GX;rw[YcZ];by_cases b:z=(n.x,n.y)
 ·subst b;have:F.findIdx? (fun x=>decide ((x.1.x,x.1.y)=(n.x,n.y)))=none:=by
   rw[Ydu];intro y d;exact j_ (a y d)
  rw[F_ rfl,this];simp[YcQ,←c]
 ·rw[D_ b];cases h:F.findIdx? fun x=>decide ((x.1.x,x.1.y)=z)with
  | some i=>
    have f:i<W.length:=by
     rw[c];exact(YcP.1 h).1
    simp[YaG f]
  | none=>
    have:¬(n.x,n.y)=z:=fun e=>b e.symm;simp[YcQ,this]
theorem XW{z:Int×Int}(a:∀y∈F,(y.1.x,y.1.y)≠z):GX F W z=none:=by
 unfold GX;have:F.findIdx? (fun x=>decide ((x.1.x,x.1.y)=z))=none:=by
  rw[Ydu];intro y b;exact j_ (a y b)
 rw[this];rfl
end
theorem SY:IJ [(Az,[])] [(-1,0)]:=by
 refine⟨rfl,by simp,fun x a=>?_,rfl,fun i y b=>?_⟩
 ·rw[Y_]at a;subst a;rfl
 ·cases i with
  | zero=>cases b;exact .inl ⟨rfl,rfl⟩
  | succ i=>simp at b
section
variable{F:List NW}{W:List (Int×Nat)}
theorem IJ.apart(h:IJ F W){t:Nd}(c:t.s=0)(a:∀y∈F,y.1≠t):∀y∈F,(y.1.x,y.1.y)≠(t.x,t.y):=fun y b e=>by
 refine a y b ?_;have d:=h.s0 y b;obtain⟨⟨s,x,g⟩,w⟩:=y;obtain⟨i,j,f⟩:=t;injection e with e1 e2
 simp only at*;subst e1;subst e2;subst d;subst c;rfl
theorem IJ.add(h:IJ F W){i c:Nat}{x:NW}{t:Nd}(k:F[i]?=some x)(r:c<256)(l:t.s=0)(e:∀y∈F,y.1≠t):IJ (F++[(t,x.2++[c])]) (W++[((i:Int),c)]):=by
 have b:=(O_.1 k).1;have n:=h.len;refine⟨by simp[n],?_,fun y a=>?_,by rw[YaG (by omega)];exact h.zero,fun m y a=>?_⟩
 ·rw[YcB];refine YcH.2 ⟨h.nd,by simp,fun p u q o=>?_⟩;simp only[YaV,Yc8,Y_]at o;subst o;obtain⟨y,a,rfl⟩:=I'.1 u;exact h.apart l e y a
 ·rcases q_.1 a with a | a
  ·exact h.s0 y a
  ·rw[Y_]at a;subst a;exact l
 ·by_cases v:m<F.length
  ·rw[YaG v]at a;rcases h.link m y a with f | ⟨j,d,w,f,z,A,B⟩
   ·exact .inl f
   ·exact .inr ⟨j,d,w,by rw[YaG (by omega)];exact f,z,by rw[YaG (by omega)];exact A,B⟩
  ·have g:=(O_.1 a).1;simp only[J_,h_]at g;obtain rfl:m=F.length:=by omega
   simp at a;subst a;refine .inr ⟨i,c,x,?_,b,by rw[YaG b];exact k,rfl,r⟩;rw[←n];simp
end
theorem FT:(prog.info? 288).bind (·.zero)=some (pkV (0,0)):=by kernel_rfl
def V0(x y:Bool):Bool:=x != y
def Pl(x y:Bool):Bool:=x&& !y
theorem Xj(G:Aa)(x y:Bool):BM prog 113 #[.bool x,.bool y] G (.bool (V0 x y)):=by
 refine Ak.of_vc func113 rfl (call113 _) (YI (by kernel_rfl) ?_);(conv=>whnf);exact⟨rfl,C_.refl _ _⟩
section
variable{S:Nat→Prop}{H:Aa}{va vb:v_}{a b:Option AM}
end
end
section
attribute [local irreducible] Bj AP
end
end Go.Proofs.YtfbghcpdinlmcaaGreatDoor
namespace Go.VC
end Go.VC
namespace Go.Proofs.YtfbghcpdinlmcaaGreatDoor
open Go.VC
section
def AdQ:AM:=Bi [AjA 256] [[1],[1]] [false,true]
attribute [local irreducible] AdQ Bj Bd AP
theorem M5:∀(u:List Nat),Do (AjS u.length 0) u
 | []=>Gc _
 | c::u=>by
   show Do (0::AjS u.length 0) (c::u);unfold Do;rcases Nat.eq_zero_or_pos c with rfl | h
   ·exact .inr ⟨rfl,M5 u⟩
   ·exact .inl h
def TZ(w v:ByteArray):Bool:=decide (w.size<v.size)|| (decide (w.size=v.size)&&Op.bytesLess w.data.toList v.data.toList)
theorem SX:∀{u v:List Nat},u.length=v.length→DT u→DT v→(Op.bytesLess (u.map UInt8.ofNat) (v.map UInt8.ofNat)=true↔¬Do v u)
 | [],[],_,_,_=>by simp[Op.bytesLess,Do]
 | [],_::_,h,_,_=>by simp at h
 | _::_,[],h,_,_=>by simp at h
 | a::u,b::v,h,hu,hv=>by
   have j:=SX (u:=u) (v:=v) (by simpa using h) (fun c f=>hu c (YbY _ f)) (fun c f=>hv c (YbY _ f));have g:=hu a Yca;have i:=hv b Yca;have k:UInt8.ofNat a<UInt8.ofNat b↔a<b:=by
    rw[UInt8.lt_iff_toNat_lt];simp[Ybs g,Ybs i]
   have e2:UInt8.ofNat a=UInt8.ofNat b↔a=b:=by
    rw[←UInt8.toNat_inj];simp[Ybs g,Ybs i]
   simp only[YaV,Op.bytesLess,Bool.or_eq_true,r_,Zzj,beq_iff_eq];have l:Do (b::v) (a::u)↔(b<a∨b=a∧Do v u):=Iff.rfl;rw[k,e2,j,l];constructor
   ·rintro(e | ⟨rfl,e⟩)
    ·rintro(d | ⟨d,-⟩)<;>omega
    ·rintro(d | ⟨-,d⟩)
     ·omega
     ·exact e d
   ·intro e;rcases Ydo a b with d | d | d
    ·exact .inl d
    ·exact .inr ⟨d,fun m=>e (.inr ⟨d.symm,m⟩)⟩
    ·exact absurd (.inl d) e
theorem HN.not_ahead{g:Gr}{w:List Nat}(h:HN g (·=Az) w){s:ByteArray}(hs:Gg g (unB s) Az):TZ s (bA w)=false:=by
 have b:(unB s).length=s.size:=by unfold unB;rw[Z_];rfl
 have i:=h.2 (unB s) (Gf s) ⟨Az,rfl,hs⟩;unfold TZ;rw[QI,V_,Bool.false_or];by_cases a:s.size=w.length
 ·rw[n_ a,Bool.true_and];have d:=h.1.2.2.2 (unB s) (by rw[b];exact a) (Gf s) ⟨Az,rfl,hs⟩;have c:=SX (u:=unB s) (v:=w) (by rw[b];exact a) (Gf s) h.bytes;have e:(unB s).map UInt8.ofNat=s.data.toList:=by rw[←ML,YE]
  rw[e,←ML]at c;exact Ydr.2 fun f=>c.1 f d
 ·rw[j_ a,Bool.false_and]
end
section
attribute [local irreducible] AdQ Bj Bd AP
end
section
attribute [local irreducible] Bj Bd AP
section
variable{K K':Type} [DecidableEq K] [DecidableEq K']{most:Nat}{step:K→Nat→K}{step':K'→Nat→K'}{start:K}{f:K→K'}{I:K→Prop}
def mpF(f:K→K')(p:List K×List Nat):List K'×List Nat:=(p.1.map f,p.2)
def AbQ(I:K→Prop)(s:Option (List K×List Nat)):Prop:=∀F r,s=some (F,r)→∀y∈F,I y
theorem AbV{F:List K}{k:K}(h:∀y∈F,f y=f k→y=k):(atF most F k).map (fun p=>(p.1.map f,p.2))=atF most (F.map f) (f k):=by
 unfold atF;have e:(F.map f).findIdx? (·=f k)=F.findIdx? (·=k):=by
  rw[List.findIdx?_map];exact Fe fun y a=>by
   show decide (f y=f k)=decide (y=k);rw[decide_eq_decide];exact⟨h y a,fun e=>by rw[e]⟩
 rw[e];cases F.findIdx? (·=k)with
 | some i=>rfl
 | none=>
   simp only[Z_];split
   ·simp
   ·rfl
theorem AaH{x:K}{b:Nat}{s:Option (List K×List Nat)}(m:AbQ I s)(j:I (step x b))(a:∀y z,I y→I z→f y=f z→y=z)(c:f (step x b)=step' (f x) b):(CQ most step x s b).map (mpF f)=CQ most step' (f x) (s.map (mpF f)) b∧AbQ I (CQ most step x s b):=by
 cases s with
 | none=>exact⟨rfl,fun F r h=>by cases h⟩
 | some p=>
   have⟨F,r⟩:=p;have l:=m F r rfl;have h:=AbV (most:=most) (f:=f) (F:=F) (k:=step x b) fun y d=>a y _ (l y d) j;have e:(CQ most step' (f x) ((some (F,r)).map (mpF f)) b)=(atF most (F.map f) (step' (f x) b)).map fun q=>(q.1,r++[q.2]):=rfl;rw[e,←c,←h];cases g:atF most F (step x b)with
   | none=>
     have e2:CQ most step x (some (F,r)) b=none:=by
      show(atF most F (step x b)).map _=none;rw[g];rfl
     rw[e2];exact⟨rfl,fun F r h=>by cases h⟩
   | some q=>
     have⟨G,i⟩:=q;have e2:CQ most step x (some (F,r)) b=some (G,r++[i]):=by
      show(atF most F (step x b)).map _=_;rw[g];rfl
     rw[e2];refine⟨rfl,fun F' n e y d=>?_⟩;injection e with e
     injection e with e1 e3
     subst e1;rcases N9 g y d with h | rfl
     ·exact l y h
     ·exact j
theorem PF{x:K}(a:∀y z,I y→I z→f y=f z→y=z):∀(l:List Nat) (s:Option (List K×List Nat)),AbQ I s→(∀b∈l,I (step x b)∧f (step x b)=step' (f x) b)→(l.foldl (CQ most step x) s).map (mpF f)=l.foldl (CQ most step' (f x)) (s.map (mpF f))∧AbQ I (l.foldl (CQ most step x) s)
 | [],s,hs,_=>⟨rfl,hs⟩
 | b::l,s,hs,h=>by
   have⟨d,e⟩:=AaH (most:=most) hs (h b (by simp)).1 a (h b (by simp)).2;rw[Yc1,Yc1,←d];exact PF a l _ e fun c g=>h c (by simp[g])
theorem Qk(a:∀y z,I y→I z→f y=f z→y=z)(h0:I start)(g:∀x b,I x→b<256→I (step x b)∧f (step x b)=step' (f x) b):∀n,(B8 most step (AiO 256) start n).map (fun p=>(p.1.map f,p.2))=B8 most step' (AiO 256) (f start) n∧∀F rows,B8 most step (AiO 256) start n=some (F,rows)→∀y∈F,I y
 | 0=>⟨rfl,fun F rows e y c=>by
   injection e with e
   injection e with e1 e2
   subst e1;rw[Y_.1 c];exact h0⟩
 | n+1=>by
   have⟨i,j⟩:=Qk a h0 g n;rw[B8,B8,←i];cases k:B8 most step (AiO 256) start n with
   | none=>exact⟨rfl,fun F rows e=>by cases e⟩
   | some p=>
     have⟨F,rows⟩:=p;have h:=j F rows k;simp only[YbP,YcK,o_];cases l:F[n]? with
     | none=>exact⟨rfl,fun F' d e y c=>by
       injection e with e
       injection e with e1 e2
       subst e1;exact h y c⟩
     | some x=>
       have m:=h x (c_ l);have⟨o,s⟩:=PF (most:=most) (step:=step) (step':=step') (x:=x) a (AiO 256) (some (F,[])) (fun F' r e y c=>by
        injection e with e
        injection e with e1 e2
        subst e1;exact h y c) fun b t=>g x b m (YaY.1 t)
       simp only[YcK];rw[show(some (F.map f,([]:List Nat)))=(some (F,([]:List Nat))).map (mpF f)from rfl,←o];cases u:(AiO 256).foldl (CQ most step x) (some (F,[]))with
       | none=>exact⟨rfl,fun F rows e=>by cases e⟩
       | some q=>
         have⟨G,r⟩:=q;refine⟨rfl,fun F' d e y c=>?_⟩;injection e with e
         injection e with e1 e2
         subst e1;exact s G r u y c
theorem SA(a:∀y z,I y→I z→f y=f z→y=z)(h0:I start)(c:∀x b,I x→b<256→I (step x b)∧f (step x b)=step' (f x) b):(Fz most step start).map (List.map f)=Fz most step' (f start):=by
 unfold Fz Fy;rw[←(Qk a h0 c most).1];cases B8 most step (AiO 256) start most<;>rfl
end
attribute [local irreducible] Fz
noncomputable instance decL:DecidableEq (List Nat→Bool):=fun a b=>Classical.propDecidable (a=b)
open Classical in
noncomputable def GS(M:PA)(q:Nat)(w:List Nat):Bool:=if Cg w then M.fi (M.run q w)else false
def dvL(L:List Nat→Bool)(b:Nat)(w:List Nat):Bool:=L (b::w)
theorem ST{M:PA}{p q:Nat}:GS M p=GS M q↔M.Eqv p q:=by
 constructor
 ·intro h w a;have:=congrFun h w;unfold GS at this;rwa [F_ a,F_ a]at this
 ·intro h;funext w;unfold GS;by_cases a:Cg w
  ·rw[F_ a,F_ a,h w a]
  ·rw[D_ a,D_ a]
theorem AdB{M:PA}{q b:Nat}(e:b<256):GS M (M.st q b)=dvL (GS M q) b:=by
 funext w;unfold dvL GS;have a:Cg (b::w)↔Cg w:=by
  unfold Cg;constructor
  ·intro h x c;exact h x (by simp[c])
  ·intro h x c;rcases YaP.1 c with rfl | c
   ·exact e
   ·exact h x c
 by_cases d:Cg w
 ·rw[F_ d,F_ (a.2 d)]<;>rfl
 ·rw[D_ d,D_ fun h=>d (a.1 h)]
theorem Wr{M:PA}{q:Nat}:GS M q []=M.fi q:=by
 unfold GS;rw[F_ (show Cg []from fun b a=>by cases a)];rfl
def TX(M:PA)(O:List Nat):Prop:=Fz 65537 dvL (GS M 0)=some (O.map (GS M))
theorem Xr{M:PA}{O:List Nat}{P:Nat→Nat}(g:M.Ok)(l:RW M (Hn M) P)(h:Fz 65537 (cst M P) (P 0)=some (O.map P))(r:∀x∈O,x<M.n):TX M O:=by
 have a:∀{x:Nat},x<M.n→x∈Hn M:=fun h=>YaY.2 h;obtain⟨f,d⟩:∃f:Nat→List Nat→Bool,∀q,q<M.n→f (P q)=GS M q:=by
  refine⟨fun k=>match(AiO M.n).find? (fun q=>P q=k)with
   | some q=>GS M q
   | none=>fun _=>false,fun q c=>?_⟩
  show(match(AiO M.n).find? (fun x=>P x=P q)with
   | some q=>GS M q
   | none=>fun _=>false)=_
  cases i:(AiO M.n).find? (fun x=>P x=P q)with
  | none=>
    have:=Yd4.1 i q (YaY.2 c);simp at this
  | some y=>
    have s:P y=P q:=by simpa using YdA i
    have t:=YaY.1 (Ydw i);exact ST.2 ((l y (a t) q (a c)).1 s)
 have m:=SA (most:=65537) (step:=cst M P) (step':=dvL) (start:=P 0) (f:=f) (I:=fun k=>∃q,q<M.n∧k=P q) (by
  rintro y z ⟨p,o,rfl⟩ ⟨q,c,rfl⟩ e;rw[d p o,d q c]at e;exact(l p (a o) q (a c)).2 (ST.1 e)) ⟨0,g.pos,rfl⟩ (by
  rintro x b ⟨q,c,rfl⟩ j;rw[Uv g l c j,d q c,d _ (g.cl q b c j),AdB j];exact⟨⟨_,g.cl q b c j,rfl⟩,rfl⟩)
 rw[h,d 0 g.pos]at m;unfold TX;rw[←m];simp only[YcK,List.map_map]
 congr 1
 exact YcE fun x i=>d x (r x i)
theorem Pt(ask:Bool→Bool→Bool)(a b:Option AM):∀(w:List Nat) (s x y:Int),Gg (FJ ask a b) w ⟨s,x,y⟩↔ask (AY a (XS a w x)) (AY b (XS b w y))=true
 | [],s,x,y=>Iff.rfl
 | c::w,s,x,y=>by
   rw[Ql,Ql,←Pt ask a b w 0];constructor
   ·rintro⟨t,d,h⟩;rw[Y_.1 d]at h;exact h
   ·intro h;exact⟨_,Y_.2 rfl,h⟩
theorem IP(ask:Bool→Bool→Bool)(a b:Option AM)(w:List Nat):Gg (FJ ask a b) w Az↔ask (Y4 a w) (Y4 b w)=true:=Pt ask a b w 0 0 0
section
variable{ask:Bool→Bool→Bool}{a b:Option AM}{w:List Nat}{ok:Bool}
theorem AbT(h:HM (FJ ask a b) w ok):ask (C4 a (bA w)) (C4 b (bA w))=ok∧(ok=false→w=[]):=by
 cases ok with
 | true=>
   have f:=(h.1 rfl).1;have c:=f.2.1;obtain⟨n,rfl,g⟩:=f.2.2.1;have i:=(IP ask a b w).1 g;rw[L1 c,L1 c];exact⟨i,fun e=>by cases e⟩
 | false=>
   obtain⟨rfl,d⟩:=h.2 rfl;have c:DT []:=fun b c=>by cases c
   rw[L1 c,L1 c];refine⟨Ydr.2 fun e=>d [] c ⟨Az,rfl,(IP ask a b []).2 e⟩,fun _=>rfl⟩
theorem YC(h:HM (FJ ask a b) w ok){s:ByteArray}(d:ask (C4 a s) (C4 b s)=true):ok=true∧TZ s (bA w)=false:=by
 have c:Gg (FJ ask a b) (unB s) Az:=(IP ask a b _).2 (by rw[←L1 (Gf s),←L1 (Gf s),YE];exact d);cases ok with
 | false=>exact absurd ⟨Az,rfl,c⟩ ((h.2 rfl).2 (unB s) (Gf s))
 | true=>exact⟨rfl,(h.1 rfl).not_ahead c⟩
end
end
section
def Cv:AM:=Bi [AjA 256] [[1],[0]] [false,true]
def Ow:AM:=⟨Cv.sets,AjS 256 0,[[0+1],[0+0]],[false,true]⟩
theorem Oy:Bk [AjA 256] [[1],[0]] 2=true:=by rfl
theorem X8:Cv.cell=AjS 256 0:=by kernel_rfl
theorem X7:Cs [AjA 256] [[1],[0]] [false,true]=some Cv:=by
 unfold Cs;rw[show Bk [AjA 256] [[1],[0]] [false,true].length=true from Oy];rfl
attribute [local irreducible] Cv Bj Bd AP
theorem ZT(H:Aa):Ak prog 110 #[] H fun B H'=>C_ (H_ H) H H'∧AZ (H_ H') H' B (some Cv):=by
 refine Ak.of_vc func110 rfl (call110 _) (Ah (F5 0 255 (by decide) (by decide) H) fun H1 g=>?_);rw[It];have C:=Bv g;refine Ay C0 (Ad (AjA 256)) rfl rfl (by decide) (by decide) ?_;intro i H2 D E s t;refine Ay AU [A_ 1] rfl rfl (by decide) (by decide) ?_;intro e H3 F G u j;refine Ay AU [A_ 0] rfl rfl (by decide) (by decide) ?_;intro f H4 I J v d;refine WN EY [.slice (T_ e) 1 1] [.slice (T_ f) 1 1] rfl rfl rfl rfl (by decide) (by decide) ?_;intro l H5 K L w c;refine WN CJ [.bool false] [.bool true] rfl rfl rfl rfl (by decide) (by decide) ?_;intro m H6 M N y b;have n:=w.agr b (show l<m by omega);have o:=(v.agr c (show f<l by omega)).agr b (show f<m by omega);have p:=((u.agr d (show e<f by omega)).agr c (show e<l by omega)).agr b (show e<m by omega);have q:=(((s.agr j (show i<e by omega)).agr d (show i<f by omega)).agr c (show i<l by omega)).agr b (show i<m by omega);have z:C_ (H_ H) H H6:=((((g.trans (t.mono fun k a=>by unfold H_ at a;omega)).trans (j.mono fun k a=>by unfold H_ at a;omega)).trans (d.mono fun k a=>by unfold H_ at a;omega)).trans (c.mono fun k a=>by unfold H_ at a;omega)).trans (b.mono fun k a=>by unfold H_ at a;omega);have O:g_ tI (Yr H H6) H6 (T_ e) 1 [1]:=g_.ofBlk p ⟨by omega,by omega⟩ (Ty.reps_one ⟨rfl,BX (x:=1) (by decide)⟩) rfl (by decide);have P:g_ tI (Yr H H6) H6 (T_ f) 1 [0]:=g_.ofBlk o ⟨by omega,by omega⟩ (Ty.reps_one ⟨rfl,BX (x:=0) (by decide)⟩) rfl (by decide);(conv=>whnf);refine Ae.mk (Wv (T_ i) (T_ l) (T_ m) 1 2 2 [AjA 256] [[1],[0]] [false,true] (Yr H H6) H6 (fun k a=>a.2)
  (g_.ofBlk q ⟨by omega,by omega⟩ (Ty.reps_one rfl) rfl (by decide)) (g_.ofBlk n ⟨by omega,by omega⟩ ⟨[_],[_],rfl,⟨_,_,rfl,O⟩,Ty.reps_one ⟨_,_,rfl,P⟩⟩ rfl (by decide)) (g_.ofBlk y ⟨by omega,by omega⟩ ⟨[_],[_],rfl,rfl,Ty.reps_one rfl⟩ rfl (by decide))) ?_
 rintro R H7 ⟨A,Q,r⟩;rw[show Bk [AjA 256] [[1],[0]] [false,true].length=true from Oy]at r;(conv=>whnf);refine⟨z.trans (A.mono fun k a=>by unfold H_ at*;omega),?_⟩;have h:=r.mono (S':=H_ H7) fun k a=>a.2;simp only[if_true]at h;unfold Cv;exact h
end
end Go.Proofs.YtfbghcpdinlmcaaGreatDoor
namespace Go.VC
end Go.VC
namespace Go.Proofs.YtfbghcpdinlmcaaGreatDoor
open Go.VC
section
attribute [local irreducible] Bj AP
end
section
attribute [local irreducible] Bj AP Bd
theorem K4{s t:Nat→Nat→Bool}(f:∀a,s a a=true)(h:∀b g,b<256→g<256→s b g=t b g):∀b,b≤256→Bd s b=Bd t b
 | 0,_=>by unfold Bd;rfl
 | b+1,hb=>by
   have d:=K4 f h b (by omega);have e:=KX f b;have i:(Bd s b).1.findIdx? (fun g=>s b g)=(Bd t b).1.findIdx? fun g=>t b g:=by
    rw[←d];exact Fe fun g j=>by
     have⟨k,l⟩:=YaI j;exact h b g (by omega) (by have:=(e.first k g l).1;omega)
   cases c:(Bd t b).1.findIdx? fun g=>t b g with
   | some k=>rw[Hz c,Hz (i.trans c),d]
   | none=>rw[Hy c,Hy (i.trans c),d]
theorem NZ{s:Nat→Nat→Bool}(h:∀b,s b 0=true):∀b,Bd s (b+1)=([0],AjS (b+1) 0)
 | 0=>by rw[Hy (by unfold Bd;rfl)];unfold Bd;rfl
 | b+1=>by
   have c:=NZ h b;have a:(Bd s (b+1)).1.findIdx? (fun g=>s (b+1) g)=some 0:=by rw[c];simp[YcQ,h]
   rw[Hz a,c];simp only[List.replicate_succ' (n:=b+1)]
theorem Xe(cells:List (BitVec 256))(next:List (List Int))(final:List Bool):(Ag (Cs cells next final)).length=(Bd (MG (Fk cells next final)) 256).1.length∧
  ∀(k:Nat) x,(Ag (Cs cells next final))[k]?=some x→∀i,i<256→x.getLsbD i=Et (Bd (MG (Fk cells next final)) 256).2 k i:=by
 unfold Cs Fk;split
 ·rename_i hs;have f:∀b g,b<256→g<256→MG (Ed cells next final) b g=Hi next cells b g:=by
   intro b g n o;unfold MG TC Hi;rw[YcN,Ybl,Ybl];have d:(Ed cells next final).next.length=next.length:=by simp[Ed]
   constructor
   ·intro h row a;have⟨q,e⟩:=YaI a;have:=h q (YaY.2 (by rw[d];exact(O_.1 e).1));rwa [EU e n,EU e o]at this
   ·intro h q e;have j:=YaY.1 e;rw[d]at j;have⟨row,a⟩:=Ac j;rw[EU a n,EU a o];exact h row (c_ a)
  rw[K4 (XY _) f 256 (I_ _)];exact Qn hs
 ·have l:∀b,MG Fq b 0=true:=by
   intro b;unfold MG TC;rw[Ybl];intro q e;have t:q<1:=YaY.1 e;obtain rfl:q=0:=by omega
   have p:∀c,FH Fq 0 c=0:=fun c=>by
    have u:Fq.cell.getD c 0=0:=by
     simp only[Fq];rw[YaD,YaO];split<;>rfl
    unfold FH;rw[u];rfl
   show(FH Fq 0 b==FH Fq 0 0)=true;rw[p,p];rfl
  have r:=NZ l 255;rw[show 255+1=256 from rfl]at r;rw[r];refine⟨rfl,fun k x m i s=>?_⟩;simp only[Ag]at m;have v:=(O_.1 m).1;simp only[h_]at v;rw[show k=0 by omega,YcA]at m;cases m;rw[Yar,show k=0 by omega];unfold Et;rw[YaO,F_ s];simp[s]
end
section
attribute [local irreducible] Bj Bd AP Cv
def TB(o:Option AM)(b g:Nat):Bool:=(AiO (stN o)).all fun q=>As o (q:Int) b==As o (q:Int) g
def HQ(sim:Nat→Nat→Bool):List (BitVec 256):=(NC (Bd sim 256).2 (Bd sim 256).1.length).map bvN
theorem Qq(o:Option AM)(a:Nat):TB o a a=true:=by simp[TB]
theorem KQ{s t:Nat→Nat→Bool}(c:∀a,s a a=true)(h:∀b g,b<256→g<256→s b g=t b g):HQ s=HQ t:=by
 unfold HQ;rw[K4 c h 256 (I_ _)]
theorem AhD{o:Option AM}{D:DM}(j:stN o=D.next.length)(a:∀q b:Nat,q<stN o→b<256→As o (q:Int) b=FH D (q:Int) b){b g:Nat}(f:b<256)(i:g<256):TB o b g=MG D b g:=by
 unfold TB MG TC;rw[j,YcN,Ybl,Ybl];constructor<;>intro h q c
 ·have d:=h q c;have e:=YaY.1 c;rw[a q b (by omega) f,a q g (by omega) i]at d;exact d
 ·have d:=h q c;have e:=YaY.1 c;rw[a q b (by omega) f,a q g (by omega) i];exact d
theorem Xf(cells:List (BitVec 256))(next:List (List Int))(final:List Bool):Ag (Cs cells next final)=HQ (TB (Cs cells next final)):=by
 have⟨h,j⟩:=Xe cells next final
 have e:HQ (TB (Cs cells next final))=HQ (MG (Fk cells next final)):=KQ (Qq _) fun b g a m=>AhD (Up _ _ _) (fun q b _ a=>Pz _ _ _ _ a) a m;rw[e];unfold HQ;refine YaJ fun k=>?_;by_cases c:k<(Bd (MG (Fk cells next final)) 256).1.length
 ·have⟨x,d⟩:=Ac (l:=Ag (Cs cells next final)) (k:=k) (by rw[h];exact c);rw[d,o_,Uc c];simp only[YcK]
  congr 1
  refine Yap fun i f=>?_;rw[j k x d i f,MM _ f]
 ·rw[YaL (by omega),YaL (by rw[Z_,Ud];omega)]
def AhN(o:Option AM):List Nat:=Vt (Ag o) (stN o) (paO o).st (paO o).fi
def B9(o:Option AM):Prop:=∃cells next final,o=Cs cells next final
section
variable{o:Option AM}
theorem B9.sim(h:B9 o):Ag o=HQ (TB o):=by
 obtain⟨c,n,f,rfl⟩:=h;exact Xf c n f
theorem B9.ok(h:B9 o):∃a,CM o a:=by
 obtain⟨c,n,f,rfl⟩:=h;exact S1 c n f
theorem B9.steps(h:B9 o):DS o:=by
 obtain⟨c,n,f,rfl⟩:=h;exact(Ac0 c n f).stepOk
end
structure Ys(o:Option AM)(a:Option AM):Prop where
 made:B9 a
 ex:∃O,TX (paO o) O∧MJ (paO o) O∧Q9 (paO o) O (As a) (AY a)∧stN a=O.length
theorem ZB{o:Option AM}{rows:List (List Nat)}{O:List Nat}(c:DS o)(hs:Bk (Ag o) (rows.map AR) (O.map fun(x:Nat)=>AY o (x:Int)).length=true)(a:MJ (paO o) O)
  (b:Q9 (paO o) O (As (some (Bi (Ag o) (rows.map AR) (O.map fun(x:Nat)=>AY o (x:Int))))) (AY (some (Bi (Ag o) (rows.map AR) (O.map fun(x:Nat)=>AY o (x:Int)))))) (d:rows.length=O.length):Ys o (some (Bi (Ag o) (rows.map AR) (O.map fun(x:Nat)=>AY o (x:Int)))):=by
 have e:B9 (some (Bi (Ag o) (rows.map AR) (O.map fun(x:Nat)=>AY o (x:Int)))):=⟨_,_,_,by unfold Cs;rw[F_ hs]⟩;have⟨P,f,g⟩:=id a;refine⟨e,O,Xr (UU c) f g b.lt,a,b,?_⟩;show(Bi (Ag o) (rows.map AR) (O.map fun(x:Nat)=>AY o (x:Int))).next.length=_
 unfold Bi;simp[d]
theorem Ox:Cv=Ow:=by
 have a:Cv.next=[[0+1],[0+0]]:=by unfold Cv;kernel_rfl
 have b:Cv.final=[false,true]:=by unfold Cv;rfl
 unfold Ow;rw[←X8,←a,←b]
theorem PT(b:Nat):Ow.cell.getD b 0=0:=by
 show(AjS 256 0).getD b 0=0;rw[YaD,YaO];split<;>rfl
theorem Oz(b:Nat):As (some Cv) 0 b=1:=by
 rw[Ox];show((Ow.next[0]?).getD []).getD (Ow.cell.getD b 0) 0=1;rw[PT];rfl
theorem UQ(b:Nat):As (some Cv) 1 b=0:=by
 rw[Ox];show((Ow.next[1]?).getD []).getD (Ow.cell.getD b 0) 0=0;rw[PT];rfl
theorem PU:AY (some Cv) 0=false:=by rw[Ox];rfl
theorem PV:AY (some Cv) 1=true:=by rw[Ox];rfl
theorem Ah0:stN (some Cv)=2:=by rw[Ox];rfl
theorem PW:B9 (some Cv):=⟨_,_,_,X7.symm⟩
theorem Tl{w:List Nat}{ok:Bool}(h:HM (FJ V0 (some Cv) none) w ok):w=[0]∧ok=true:=by
 have d:DT [0]:=fun b d=>by simp at d;omega
 have a:∀u,Y4 none u=false:=fun u=>rfl;have i:Gg (FJ V0 (some Cv) none) [0] Az:=(IP _ _ _ _).2 (by
  rw[a];show V0 (AY (some Cv) (As (some Cv) 0 0)) false=true;rw[Oz,PV];rfl)
 have j:HM (FJ V0 (some Cv) none) [0] true:=⟨fun _=>⟨⟨rfl,d,⟨Az,rfl,i⟩,fun u k _ _=>?_⟩,fun u _ e=>?_⟩,fun h=>(by cases h)⟩
 ·exact h.uniq j
 ·have:=M5 u;rw[k]at this;exact this
 ·obtain⟨n,rfl,l⟩:=e;have f:=(IP _ _ _ _).1 l;cases u with
  | nil=>
    rw[a]at f;have g:V0 (AY (some Cv) 0) false=true:=f;rw[PU]at g;cases g
  | cons c u=>show 1≤(c::u).length;simp
theorem Z5:Bd (fun _ _=>true) 256=([0],AjS 256 0):=NZ (fun _=>rfl) 255
theorem Qo:Lp (AjA 256)=[91,94,93]:=by
 have a:BD (AjA 256)=256:=by decide
 have b:∀i,Pm (fun k=>(~~~ (AjA 256)).getLsbD k) i=[]:=fun i=>by
  have:(~~~ (AjA 256)).getLsbD i=false:=by simp
  unfold Pm;simp only[this];rfl
 have c:∀n,HO (fun k=>(~~~ (AjA 256)).getLsbD k) n=[]:=fun n=>by
  induction n with
  | zero=>rfl
  | succ n d=>rw[IT,d,b];rfl
 unfold Lp;rw[D_ (by rw[a];decide),F_ (by rw[a];decide)];rw[F_ (by rw[a];decide),c];rfl
theorem ZU{a:Option AM}(h:Ys (some Cv) a):AhN a=[115,116,97,116,101,115,32,50,10,48,32,91,94,93,62,49,10,49,42,32,91,94,93,62,48,10]:=by
 obtain⟨O,H,-,p,N⟩:=h.ex;obtain⟨P,-,d,I⟩:=S9 (by decide) H;have c:∀x∈O,x<2:=fun x D=>by
  have:=p.lt x D;have e:(paO (some Cv)).n=2:=Ah0;omega
 have u:(paO (some Cv)).fi 0=false:=PU;have v:(paO (some Cv)).fi 1=true:=PV;have J:∀b,(paO (some Cv)).st 0 b=1:=fun b=>by
  show(As (some Cv) 0 b).toNat=1;rw[Oz];rfl
 have Q:∀b,(paO (some Cv)).st 1 b=0:=fun b=>by
  show(As (some Cv) 1 b).toNat=0;rw[UQ];rfl
 have l:∀{x:Nat},x<2→x=0∨x=1:=fun h=>by omega
 have w:O[0]?=some 0:=by
  rw[o_,YdD]at I;have⟨x,D,E⟩:=I;rcases l (c x (c_ D))with rfl | rfl
  ·exact D
  ·have:=congrFun E [];rw[Wr,Wr,u,v]at this;cases this
 have A:O.Nodup:=by
  unfold List.Nodup at d ⊢;rw[Ydz]at d;exact d.imp fun h e=>h (by rw[e])
 have F:O=[0,1]:=by
  obtain⟨t,z,-,e2,k⟩:=p.st 0 0 0 w (by decide);rw[J]at k;have R:z=1:=by
   rcases l (c z (c_ e2))with rfl | rfl
   ·have:=k.fi;rw[u,v]at this;cases this
   ·rfl
  subst R;have m:=c_ e2
  match O,w,m,A,c with
  | [],h,_,_,_=>cases h
  | [x],h,m,_,_=>
    cases h;simp at m
  | [x,y],h,m,_,_=>
    cases h;simp at m;rw[←m]
  | x::y::z::r,h,m,d,c=>
    cases h;exfalso;have H:=c y (by simp);have W:=c z (by simp);simp at d;omega
 subst F;have K:stN a=2:=N;have B:AY a 0=false:=by rw[←u];exact p.fi 0 0 rfl
 have C:AY a 1=true:=by rw[←v];exact p.fi 1 1 rfl
 have o:∀b,b<256→As a 0 b=1:=fun b s=>by
  have⟨t,z,f,e2,k⟩:=p.st 0 b 0 rfl s;have f:As a 0 b=t:=f;rw[f];rw[J]at k
  match t,e2 with
  | 0,e2=>
    cases e2;have:=k.fi;rw[u,v]at this;cases this
  | 1,_=>rfl
  | t+2,e2=>simp at e2
 have st1:∀b,b<256→As a 1 b=0:=fun b s=>by
  have⟨t,z,f,e2,k⟩:=p.st 1 b 1 rfl s;have f:As a 1 b=t:=f;rw[f];rw[Q]at k
  match t,e2 with
  | 0,_=>rfl
  | 1,e2=>
    cases e2;have:=k.fi;rw[u,v]at this;cases this
  | t+2,e2=>simp at e2
 have j:Ag a=[AjA 256]:=by
  rw[h.made.sim,KQ (t:=fun _ _=>true) (Qq a) fun b g s L=>by
   unfold TB;rw[Ybl];intro q M;rw[K]at M;rcases l (YaY.1 M)with rfl | rfl
   ·show(As a 0 b==As a 0 g)=true;rw[o b s,o g L];rfl
   ·show(As a 1 b==As a 1 g)=true;rw[st1 b s,st1 g L];rfl]
  unfold HQ;rw[Z5];show [bvN (Et (AjS 256 0) 0)]=_;refine congrArg (fun x=>[x]) (Yap fun i G=>?_);rw[MM _ G,Yar];unfold Et;rw[YaO,F_ G];simp[G]
 unfold AhN;rw[j,K];have S:(paO a).st 0 (AE (AjA 256) 0).1=1:=by
  show(As a 0 _).toNat=1;rw[o _ (BC _ _)];rfl
 have f:(paO a).st 1 (AE (AjA 256) 0).1=0:=by
  show(As a 1 _).toNat=0;rw[st1 _ (BC _ _)];rfl
 have T:(paO a).fi 0=false:=B;have g1:(paO a).fi 1=true:=C;have U:La [AjA 256] (paO a).st (paO a).fi 0=[48,32,91,94,93,62,49,10]:=by
  unfold La I5;rw[T,Yc6,Yd0];unfold XX;rw[Qo,S,IX (by decide),IX (by decide)];rfl
 have V:La [AjA 256] (paO a).st (paO a).fi 1=[49,42,32,91,94,93,62,48,10]:=by
  unfold La I5;rw[g1,Yc6,Yd0];unfold XX;rw[Qo,f,IX (by decide),IX (by decide)];rfl
 unfold Vt HB F4;rw[show AiO 2=[0,1]from rfl,Yc6,Yc6,Yd0,U,V,IX (by decide)];rfl
end
section
attribute [local irreducible] Bj Bd AP
section
variable{K:Type}{most:Nat}{step:K→Nat→K}{start:K}{P:K→Prop}{fin:K→Bool}{sets:List (BitVec 256)}
structure Nz(step:K→Nat→K)(start:K)(P:K→Prop)(sets:List (BitVec 256)):Prop where
 beg:P start
 st:∀x b,P x→P (step x b)
 sep:∀g b,g<256→b<256→CR sets g b=true→∀x,P x→step x g=step x b
theorem Nz.cov(h:Nz step start P sets):Yq P step (Dn sets):=fun b d f=>by
 have⟨g,g1,g2,a⟩:=HV (cells:=sets) (b:=b) b (KH sets b);have i:g≠b:=fun e=>by rw[e,f]at a;cases a
 exact⟨g,by omega,a,fun x j=>h.sep g b (by omega) d (BG.2 fun c k=>(BG.1 g2 c k).symm) x j⟩
theorem Nz.detA [DecidableEq K](h:Nz step start P sets)(a:1≤most):(Fy most step (CG sets) start).map Prod.fst=Fz most step start:=by
 rw[Il];exact QU h.cov a h.beg h.st
structure Yt(step:K→Nat→K)(fin:K→Bool)(F:List K)(st:Int→Nat→Int)(fi:Int→Bool):Prop where
 st:∀(q b:Nat) (x:K),F[q]?=some x→b<256→∃t:Nat,st (q:Int) b=(t:Int)∧F[t]?=some (step x b)
 fi:∀(q:Nat) (x:K),F[q]?=some x→fi (q:Int)=fin x
theorem AcW [DecidableEq K](h:Nz step start P sets){bs:List Nat}{F:List K}{rows:List (List Nat)}(a:1≤most)(c:Fy most step bs start=some (F,rows)):N3 most step bs start F.length F rows∧∀x∈F,P x:=by
 obtain⟨-,-,-,d⟩:=Fv (P:=P) a h.beg (fun x b e=>h.st x b e) bs most F rows c;exact⟨Jt a F.length F rows (QT a c) fun j f=>f,d⟩
theorem WB{bs:List Nat}{F:List K}{rows:List (List Nat)}(d:N3 most step bs start F.length F rows){q:Nat}{row:List Nat}(e:rows[q]?=some row):row.length=bs.length∧∀t∈row,t<F.length:=by
 have f:=d.cols row (c_ e);refine⟨f,fun t g=>?_⟩;have⟨k,a⟩:=YaI g;have h:=(O_.1 a).1;have⟨b,i⟩:=Ac (l:=bs) (k:=k) (by omega);have c:=(O_.1 e).1;rw[d.rl]at c;have⟨x,j⟩:=Ac (l:=F) (k:=q) c;exact(O_.1 (d.ok q k row b t x e i a j)).1
theorem Ai7 [DecidableEq K](h:Nz step start P sets){F:List K}{rows:List (List Nat)}(D:1≤most)(E:most≤65536)(G:Fy most step (CG sets) start=some (F,rows)):
  Bk (Bz sets) (rows.map AR) F.length=true∧Yt step fin F (As (some (Bi (Bz sets) (rows.map AR) (F.map fin)))) (AY (some (Bi (Bz sets) (rows.map AR) (F.map fin))))∧stN (some (Bi (Bz sets) (rows.map AR) (F.map fin)))=F.length:=by
 have⟨d,H⟩:=AcW h D G;have O:=(O_.1 d.zero).1;have z:=d.len;have j:(rows.map AR).length=F.length:=by rw[Z_,d.rl]
 have m:(CG sets).length=(Bz sets).length:=Z_ _;have hs:Bk (Bz sets) (rows.map AR) F.length=true:=by
  rw[KI];refine⟨⟨by omega,by omega,j⟩,fun b e=>Pu _ e,fun r I=>?_⟩;obtain⟨row,a,rfl⟩:=I'.1 I;have⟨q,J⟩:=YaI a;have⟨A,B⟩:=WB d J;unfold GV;rw[r_,beq_iff_eq,Ybl];refine⟨by unfold AR;rw[Z_,A,m],fun t i=>?_⟩;obtain⟨u,L,rfl⟩:=I'.1 i;have:=B u L;simp only[r_,Zzj];omega
 have n:(F.map fin).length=F.length:=Z_ _;refine⟨hs,⟨fun q b x f e=>?_,fun q x f=>?_⟩,by simp only[stN,Bi,Z_];exact d.rl⟩
 ·have⟨row,a⟩:=Ac (l:=rows) (k:=q) (by rw[d.rl];exact(O_.1 f).1);have⟨A,B⟩:=WB d a;have⟨M,N⟩:=BK hs e;have⟨c,o⟩:=Ac M;have p:=N c o;have⟨t,i⟩:=Ac (l:=row) (k:=Ba (Bz sets) b) (by omega);have v:(CG sets)[Ba (Bz sets) b]?=some (AE c 0).1:=by unfold CG;rw[o_,o];rfl
  have w:=d.ok q _ row _ t x a v i f;have g:=L2.1 (c_ o);have C:=Ii sets;have y:CR sets (AE c 0).1 b=true:=BG.2 fun s hs=>C.same c g _ _ (Gn (C.ne c g)).1 p s hs;refine⟨t,?_,by rw[w,h.sep _ b (BC c 0) e y x (H x (c_ f))]⟩;rw[Er (row:=AR row) (by rw[n];exact hs) (by rw[o_,a];rfl) e];unfold AR;rw[YaD,o_,i];rfl
 ·simp[AY,Bi,f]
end
def Cn(a b:Option AM)(x:Int×Int)(c:Nat):Int×Int:=if c<256 then(As a x.1 c,As b x.2 c)else x
def SP(a b:Option AM)(x:Int×Int):Prop:=(0≤x.1∧x.1<stN a)∧0≤x.2∧x.2<stN b
theorem P4{o:Option AM}{m:List Nat}(h:CM o m){g b:Nat}(n:g<256)(f:b<256)(hs:∀c∈Ag o,c.getLsbD g=c.getLsbD b){q:Int}(h0:0≤q)(i:q<stN o):As o q g=As o q b:=by
 obtain⟨k,c,d,a,-⟩:=h.part b f;have e:c.getLsbD g=true:=by rw[hs c (c_ d)];exact a
 obtain⟨l,j,-⟩:=h.least k c d;rw[(h.keeps k c l g d j n e).2 q h0 i,(h.keeps k c l b d j f a).2 q h0 i]
theorem AiN{a b:Option AM}(m:B9 a)(n:B9 b):Nz (Cn a b) ((0,0):Int×Int) (SP a b) (Ag a++Ag b):=by
 have sa:=m.steps;have sb:=n.steps;have q:=sa.n1;have r:=sb.n1;have⟨la,o⟩:=m.ok;have⟨s,p⟩:=n.ok;refine⟨⟨⟨Ydt _,by omega⟩,Ydt _,by omega⟩,fun x c e=>?_,fun g c f i hs x e=>?_⟩
 ·unfold Cn;split
  ·rename_i h;have j:=sa.step x.1 c e.1 h;have k:=sb.step x.2 c e.2 h;exact⟨j,k⟩
  ·exact e
 ·unfold Cn;rw[F_ f,F_ i];have j:=P4 o f i (fun d l=>(BG.1 hs d (YbV _ l))) e.1.1 e.1.2;have k:=P4 p f i (fun d l=>(BG.1 hs d (Ycz _ l))) e.2.1 e.2.2;rw[j,k]
def prW(a b:Option AM)(most:Nat):Option (List (Int×Int)):=Fz most (Cn a b) (0,0)
end
section
variable{l:List Nat}
end
section
variable{l:List Nat}
end
structure BR where
 p:Nat
 q:Nat
 u:Nat
 es:List Y'
def shE(n:Int)(e:Y'):Y':=⟨e.fr+n,e.to+n,e.sil,if e.sil then 0#256 else e.set⟩
def GD(a:N_):Bool:=(a.has a.start&&a.has a.fin)&&a.edges.all fun e=>a.has e.fr&&a.has e.to
def Rn:ReM→Bool
 | .and_ _ _=>true
 | .minus _ _=>true
 | _=>false
section
variable{σ α β:Type}
def BB(x:σ×Except Int α)(f:α→σ→σ×Except Int β):σ×Except Int β:=match x with
 | (s,.error e)=>(s,.error e)
 | (s,.ok a)=>f a s
def DD(x:σ×Except Int N_)(n:Nat):σ×Except Int BR:=
 BB x fun a s=>if GD a=true then(s,.ok ⟨n+a.start.toNat,n+a.fin.toNat,a.st.toNat,a.edges.map (shE n)⟩)else(s,.error 2)
def Bx(sub:ReM→σ→σ×Except Int N_):ReM→Nat→σ→σ×Except Int BR
 | .eps,n,s=>(s,.ok ⟨n,n+1,2,[AW n (n+1)]⟩)
 | .cls t,n,s=>(s,.ok ⟨n,n+1,2,[D2 n (n+1) t]⟩)
 | .cat a b,n,s=>BB (Bx sub a n s) fun A s1=>BB (Bx sub b (n+A.u) s1) fun C s2=>(s2,.ok ⟨A.p,C.q,A.u+C.u,A.es++C.es++[AW A.q C.p]⟩)
 | .alt a b,n,s=>BB (Bx sub a (n+1) s) fun A s1=>BB (Bx sub b (n+1+A.u) s1) fun C s2=>
   (s2,.ok ⟨n,n+1+A.u+C.u,A.u+C.u+2,A.es++C.es++[AW n A.p,AW n C.p,AW A.q (n+1+A.u+C.u),AW C.q (n+1+A.u+C.u)]⟩)
 | .star a,n,s=>BB (Bx sub a (n+1) s) fun A s1=>(s1,.ok ⟨n,n+1+A.u,A.u+2,A.es++[AW n A.p,AW n (n+1+A.u),AW A.q A.p,AW A.q (n+1+A.u)]⟩)
 | .and_ a b,n,s=>DD (sub (.and_ a b) s) n
 | .minus a b,n,s=>DD (sub (.minus a b) s) n
section
variable{x:σ×Except Int α}{f:α→σ→σ×Except Int β}{s:σ}
theorem C1{a:α}(h:x=(s,.ok a)):BB x f=f a s:=by rw[h];rfl
theorem C5{e:Int}(h:x=(s,.error e)):BB x f=(s,.error e):=by rw[h];rfl
theorem AL{b:β}(h:BB x f=(s,.ok b)):∃c a,x=(c,.ok a)∧f a c=(s,.ok b):=by
 have⟨c,r⟩:=x;cases r with
 | error e=>cases h
 | ok a=>exact⟨c,a,rfl,h⟩
end
end
theorem GE{a:N_}:GD a=true↔a.has a.start=true∧a.has a.fin=true∧∀e∈a.edges,a.has e.fr=true∧a.has e.to=true:=by
 unfold GD;simp only[r_,Ybl,and_assoc]
structure Sa{σ:Type}(sub:ReM→σ→σ×Except Int N_)(E:Nat):Prop where
 len:∀r s s' a,sub r s=(s',.ok a)→a.edges.length≤E
 err:∀r s s' e,sub r s=(s',.error e)→e≠0
theorem BS{σ:Type}{sub:ReM→σ→σ×Except Int N_}{E:Nat}(f:Sa sub E):∀(r:ReM) (n:Nat) (s e:σ) (A:BR),Bx sub r n s=(e,.ok A)→n≤A.p∧A.p<n+A.u∧n≤A.q∧A.q<n+A.u∧A.u≤65536*r.nodes∧A.es.length≤(E+4)*r.nodes
 | .eps,n,s,e,A,h=>by
   cases h;simp only[ReM.nodes,h_];omega
 | .cls t,n,s,e,A,h=>by
   cases h;simp only[ReM.nodes,h_];omega
 | .cat a b,n,s,e,A,h=>by
   have⟨j,A1,d,c⟩:=AL h;have⟨v,A2,k,l⟩:=AL c;cases l;have o:=BS f a _ _ _ _ d;have w:=BS f b _ _ _ _ k;simp only[ReM.nodes,J_,h_,Ycy];omega
 | .alt a b,n,s,e,A,h=>by
   have⟨j,A1,d,c⟩:=AL h;have⟨v,A2,k,l⟩:=AL c;cases l;have o:=BS f a _ _ _ _ d;have w:=BS f b _ _ _ _ k;simp only[ReM.nodes,J_,b_,m_,Ycy];omega
 | .star a,n,s,e,A,h=>by
   have⟨j,A1,d,c⟩:=AL h;cases c;have o:=BS f a _ _ _ _ d;simp only[ReM.nodes,J_,b_,m_,Ycy];omega
 | .and_ a b,n,s,e,A,h=>by
   have⟨j,N,d,c⟩:=AL (show DD _ n=_ from h);have x:=f.len _ _ _ _ d;split at c
   ·rename_i m;cases c;obtain⟨g,i,-⟩:=GE.1 m;have g:=N_.has_iff.1 g;have i:=N_.has_iff.1 i;simp only[ReM.nodes,Z_,Ycy];omega
   ·cases c
 | .minus a b,n,s,e,A,h=>by
   have⟨j,N,d,c⟩:=AL (show DD _ n=_ from h);have x:=f.len _ _ _ _ d;split at c
   ·rename_i m;cases c;obtain⟨g,i,-⟩:=GE.1 m;have g:=N_.has_iff.1 g;have i:=N_.has_iff.1 i;simp only[ReM.nodes,Z_,Ycy];omega
   ·cases c
theorem UV{σ:Type}{sub:ReM→σ→σ×Except Int N_}{E:Nat}(j:Sa sub E):∀(r:ReM) (n:Nat) (s d:σ) (e:Int),Bx sub r n s=(d,.error e)→e≠0:=by
 have g:∀{α β:Type} {x:σ×Except Int α} {f:α→σ→σ×Except Int β} {d:σ} {e:Int},BB x f=(d,.error e)→x=(d,.error e)∨∃i a,x=(i,.ok a)∧f a i=(d,.error e):=by
  intro α β x f d e h;have⟨i,r⟩:=x;cases r with
  | error k=>
    have h:((i,.error k):σ×Except Int β)=(d,.error e):=h;cases h;exact .inl rfl
  | ok a=>exact .inr ⟨i,a,rfl,h⟩
 intro r
 induction r with
 | eps=>intro n s d e h;cases h
 | cls t=>intro n s d e h;cases h
 | cat a b c ihb | alt a b c ihb=>
   intro n s d e h;rcases g (show BB _ _=_ from h)with h | ⟨i,A,-,h⟩
   ·exact c _ _ _ _ h
   ·rcases g h with h | ⟨l,C,-,h⟩
    ·exact ihb _ _ _ _ h
    ·cases h
 | star a c=>
   intro n s d e h;rcases g (show BB _ _=_ from h)with h | ⟨i,A,-,h⟩
   ·exact c _ _ _ _ h
   ·cases h
 | and_ a b c ihb | minus a b c ihb=>
   intro n s d e h;rcases g (show BB _ _=_ from h)with h | ⟨i,A,-,h⟩
   ·exact j.err _ _ _ _ h
   ·split at h
    ·cases h
    ·cases h;decide
section
attribute [local irreducible] Bj Bd AP
inductive PA.Live(d:PA):Nat→Prop
 | fin {q:Nat}:q<d.n→d.fi q=true→d.Live q
 | step {q b:Nat}:q<d.n→b<256→d.Live (d.st q b)→d.Live q
theorem PA.Live.lt{d:PA}{q:Nat}(h:d.Live q):q<d.n:=by cases h<;>assumption
open Classical in
noncomputable def PA.use(d:PA)(q:Nat):Bool:=decide (d.Live q)
theorem PA.use_iff{d:PA}{q:Nat}:d.use q=true↔d.Live q:=by unfold PA.use;simp
theorem PA.use_lt{d:PA}{q:Nat}(h:d.use q=true):q<d.n:=(PA.use_iff.1 h).lt
noncomputable def PA.place(d:PA)(q:Nat):Nat:=((AiO q).filter d.use).length
noncomputable def PA.count(d:PA):Nat:=d.place d.n
noncomputable def PA.set(d:PA)(q t:Nat):BitVec 256:=bvN fun b=>decide (d.st q b=t)
noncomputable def PA.hopsTo(d:PA)(q k:Nat):List Y':=(AiO k).filterMap fun t=>if(d.use t&&(d.set q t != 0#256))=true then some (D2 (d.place q) (d.place t) (d.set q t))else none
noncomputable def PA.endE(d:PA)(q:Nat):List Y':=if d.fi q=true then [AW (d.place q) d.count]else []
noncomputable def PA.edgesTo(d:PA)(k:Nat):List Y':=(AiO k).flatMap fun q=>if d.use q=true then d.hopsTo q d.n++d.endE q else []
noncomputable def AB(d:PA):N_:=if d.use 0=true then⟨d.count+1,0,d.count,d.edgesTo d.n⟩else⟨2,0,1,[]⟩
section
variable{d:PA}
theorem PA.place_succ(q:Nat):d.place (q+1)=d.place q+if d.use q=true then 1 else 0:=by
 unfold PA.place;rw[YcW,List.filter_append,J_];cases h:d.use q<;>simp[h]
theorem PA.place_mono{q t:Nat}(h:q≤t):d.place q≤d.place t:=by
 obtain⟨k,rfl⟩:=Nat.exists_eq_add_of_le h;clear h
 induction k with
 | zero=>exact I_ _
 | succ k a=>rw[←Nat.add_assoc,PA.place_succ];omega
theorem PA.place_lt{q t:Nat}(a:d.use q=true)(h:q<t):d.place q<d.place t:=by
 have b:=PA.place_succ (d:=d) q;rw[F_ a]at b;have c:=PA.place_mono (d:=d) (show q+1≤t from h);omega
theorem PA.place_inj{p q:Nat}(b:d.use p=true)(c:d.use q=true)(h:d.place p=d.place q):p=q:=by
 rcases Ydo p q with a | a | a
 ·have:=PA.place_lt b a;omega
 ·exact a
 ·have:=PA.place_lt c a;omega
theorem PA.place_count{q:Nat}(a:d.use q=true):d.place q<d.count:=PA.place_lt a (PA.use_lt a)
theorem PA.place_le(q:Nat):d.place q≤q:=by
 unfold PA.place;have:=List.length_filter_le d.use (AiO q);rwa [Ydv]at this
theorem PA.count_le:d.count≤d.n:=PA.place_le _
theorem PA.set_bit{q t c:Nat}:(d.set q t).getLsbD c=true↔c<256∧d.st q c=t:=by
 unfold PA.set;constructor
 ·intro h;have a:=BitVec.lt_of_getLsbD h;rw[MM _ a]at h;exact⟨a,by simpa using h⟩
 ·rintro⟨a,h⟩;rw[MM _ a];simpa using h
theorem PA.set_ne{q t c:Nat}(a:c<256)(h:d.st q c=t):d.set q t≠0#256:=fun e=>by
 have:=PA.set_bit.2 ⟨a,h⟩;rw[e]at this;simp at this
theorem PA.mem_edges{e:Y'}:e∈d.edgesTo d.n↔∃q,d.use q=true∧((∃t,d.use t=true∧d.set q t≠0#256∧e=D2 (d.place q) (d.place t) (d.set q t))∨(d.fi q=true∧e=AW (d.place q) d.count)):=by
 unfold PA.edgesTo;rw[YcS];constructor
 ·rintro⟨q,i,a⟩;split at a
  ·rename_i f;refine⟨q,f,?_⟩;rcases q_.1 a with a | a
   ·unfold PA.hopsTo at a;have⟨t,j,b⟩:=Ydi.1 a;split at b
    ·rename_i c;rw[r_,bne_iff_ne]at c;exact .inl ⟨t,c.1,c.2,(AkU.inj b).symm⟩
    ·cases b
   ·unfold PA.endE at a;split at a
    ·rename_i g;exact .inr ⟨g,Y_.1 a⟩
    ·cases a
  ·cases a
 ·rintro⟨q,f,h⟩;refine⟨q,YaY.2 (PA.use_lt f),?_⟩;rw[F_ f];rcases h with⟨t,b,c,rfl⟩ | ⟨b,rfl⟩
  ·refine YbV _ ?_;unfold PA.hopsTo;refine Ydi.2 ⟨t,YaY.2 (PA.use_lt b),?_⟩;rw[F_ (by rw[r_,bne_iff_ne];exact⟨b,c⟩)]
  ·refine Ycz _ ?_;unfold PA.endE;rw[F_ b];exact Y_.2 rfl
theorem PA.run_cons(q b:Nat)(w:List Nat):d.run q (b::w)=d.run (d.st q b) w:=rfl
theorem PA.run_snoc(q b:Nat)(w:List Nat):d.run q (w++[b])=d.st (d.run q w) b:=by unfold PA.run;rw[Ybh];rfl
theorem PA.live_pre(h:d.Ok):∀(w:List Nat) (q:Nat),q<d.n→Cg w→d.Live (d.run q w)→d.Live q
 | [],q,_,_,hl=>hl
 | b::w,q,hq,hw,hl=>.step hq (hw b (by simp)) (PA.live_pre h w _ (h.cl q b hq (hw b (by simp))) (fun x a=>hw x (YbY _ a)) hl)
theorem PA.loose_path(h:d.Ok){l:List Nat}:∀(w:List Nat) (q i:Nat),q<d.n→Cg w→l.drop i=w→d.Live (d.run q w)→Pth (d.edgesTo d.n) l (d.place q:Int) i (d.place (d.run q w):Int) (i+w.length)
 | [],q,i,_,_,_,_=>.refl
 | b::w,q,i,hq,hw,hd,hl=>by
   have e:=hw b (by simp);have a:Cg w:=fun x j=>hw x (YbY _ j);have k:l[i]?=some b:=by
    have:(l.drop i)[0]?=some b:=by rw[hd];rfl
    rwa [Yd5,Nat.add_zero]at this
   have f:l.drop (i+1)=w:=by
    rw[←List.drop_drop,hd];rfl
   have c:=h.cl q b hq e;have g:d.Live (d.st q b):=PA.live_pre h w _ c a hl;have m:d.Live q:=.step hq e g;have o:=PA.loose_path h w (d.st q b) (i+1) c a f hl;have p:D2 (d.place q) (d.place (d.st q b)) (d.set q (d.st q b))∈d.edgesTo d.n:=PA.mem_edges.2 ⟨q,PA.use_iff.2 m,.inl ⟨_,PA.use_iff.2 g,PA.set_ne e rfl,rfl⟩⟩;have p1:Pth (d.edgesTo d.n) l (d.place q:Int) i (d.place (d.st q b):Int) (i+1):=.eat .refl p rfl rfl k (PA.set_bit.2 ⟨e,rfl⟩);have p2:=p1.trans o;rw[show i+1+w.length=i+(b::w).length by simp;omega]at p2;exact p2
theorem PA.loose_inv{l:List Nat}{i:Int}{j:Nat}(w:d.use 0=true)(h:Pth (d.edgesTo d.n) l 0 0 i j):
  j≤l.length∧((∃q,d.use q=true∧i=(d.place q:Int)∧d.run 0 (l.take j)=q)∨(i=(d.count:Int)∧d.fi (d.run 0 (l.take j))=true)):=by
 induction h with
 | refl=>exact⟨t_ _,.inl ⟨0,w,rfl,rfl⟩⟩
 | @sil q1 j e _ h1 h2 b a=>
   have⟨s,a⟩:=a;obtain⟨q,f,⟨t,g,u,rfl⟩ | ⟨g,rfl⟩⟩:=PA.mem_edges.1 h1
   ·cases h2
   ·refine⟨s,.inr ⟨rfl,?_⟩⟩;have b:((d.place q:Nat):Int)=q1:=b;rcases a with⟨p,k,m,e2⟩ | ⟨m,-⟩
    ·have:q=p:=PA.place_inj f k (by omega);rw[e2,←this];exact g
    ·have:=PA.place_count f;omega
 | @eat q1 j c e _ h1 h2 b g u a=>
   have⟨s,a⟩:=a;have o:=(O_.1 g).1;refine⟨o,?_⟩;obtain⟨q,f,⟨t,v,y,rfl⟩ | ⟨v,rfl⟩⟩:=PA.mem_edges.1 h1
   ·have b:((d.place q:Nat):Int)=q1:=b;rcases a with⟨p,k,m,e2⟩ | ⟨m,-⟩
    ·have r:q=p:=PA.place_inj f k (by omega);refine .inl ⟨t,v,rfl,?_⟩;have x:l.take (j+1)=l.take j++[c]:=by rw[List.take_add_one,g];rfl
     rw[x,PA.run_snoc,e2,←r];exact(PA.set_bit.1 u).2
    ·have:=PA.place_count f;omega
   ·cases h2
theorem PN(g:d.n≤65535):(AB d).has (AB d).start=true∧(AB d).has (AB d).fin=true∧∀e∈(AB d).edges,(AB d).has e.fr=true∧(AB d).has e.to=true:=by
 have h:=PA.count_le (d:=d);unfold AB;split
 ·refine⟨N_.has_iff.2 ⟨Ydt _,by show(0:Int)<(d.count:Int)+1;omega,by show(d.count:Int)+1≤65536;omega⟩,N_.has_iff.2 ⟨by show(0:Int)≤(d.count:Int);omega,by show(d.count:Int)<(d.count:Int)+1;omega,by show(d.count:Int)+1≤65536;omega⟩,fun e b=>?_⟩;have a:∀k:Nat,k≤d.count→N_.has ⟨d.count+1,0,d.count,d.edgesTo d.n⟩ (k:Int)=true:=fun k i=>N_.has_iff.2 ⟨by omega,by show(k:Int)<(d.count:Int)+1;omega,by show(d.count:Int)+1≤65536;omega⟩;obtain⟨q,c,⟨t,f,j,rfl⟩ | ⟨f,rfl⟩⟩:=PA.mem_edges.1 b
  ·exact⟨a _ (YdB (PA.place_count c)),a _ (YdB (PA.place_count f))⟩
  ·exact⟨a _ (YdB (PA.place_count c)),a _ (I_ _)⟩
 ·exact⟨by decide,by decide,fun e b=>by cases b⟩
theorem Xu(h:d.Ok)(r:d.n≤65535){w:List Nat}(f:Cg w):WV (AB d) w=true↔d.fi (d.run 0 w)=true:=by
 have⟨s,z,t⟩:=PN r;have g:=PA.run_lt h w 0 h.pos f;rw[KM];constructor
 ·intro u;have a:=Nq (l:=w) (I_ _) (AB d).fin (by rw[Yc0];exact u);by_cases b:d.use 0=true
  ·have e:AB d=⟨d.count+1,0,d.count,d.edgesTo d.n⟩:=F_ b;rw[e]at a;obtain⟨-,⟨q,v,c,-⟩ | ⟨-,c⟩⟩:=PA.loose_inv b a
   ·have c:(d.count:Int)=(d.place q:Int):=c;have:=PA.place_count v;omega
   ·rwa [Yc0]at c
  ·have e:AB d=⟨2,0,1,[]⟩:=D_ b;rw[e]at a;have k:∀q j,Pth [] w 0 0 q j→q=0:=by
    intro q j a;cases a with
    | refl=>rfl
    | sil _ h=>cases h
    | eat _ h=>cases h
   have:=k _ _ a;exact absurd this (by decide)
 ·intro p;have m:d.Live (d.run 0 w):=.fin g p;have x:d.Live 0:=PA.live_pre h w 0 h.pos f m;have b:d.use 0=true:=PA.use_iff.2 x;have e:AB d=⟨d.count+1,0,d.count,d.edgesTo d.n⟩:=F_ b;have p1:=PA.loose_path h (l:=w) w 0 0 h.pos f rfl m;have o:AW (d.place (d.run 0 w)) d.count∈d.edgesTo d.n:=PA.mem_edges.2 ⟨_,PA.use_iff.2 m,.inr ⟨p,rfl⟩⟩;have p2:=p1.trans (Pth.one (l:=w) (i:=0+w.length) o);have y:Pth (AB d).edges w (AB d).start 0 (AB d).fin w.length:=by
   rw[e];rw[K_]at p2;exact p2
  have:=(RJ s (fun e o=>(t e o).2) y).2;rwa [Yc0]at this
end
end
def Us(A C:BR):BR:=⟨A.p,C.q,A.u+C.u,A.es++C.es++[AW A.q C.p]⟩
def Ub(n:Nat)(A C:BR):BR:=⟨n,n+1+A.u+C.u,A.u+C.u+2,A.es++C.es++[AW n A.p,AW n C.p,AW A.q (n+1+A.u+C.u),AW C.q (n+1+A.u+C.u)]⟩
def OS(n:Nat)(A:BR):BR:=⟨n,n+1+A.u,A.u+2,A.es++[AW n A.p,AW n (n+1+A.u),AW A.q A.p,AW A.q (n+1+A.u)]⟩
section
variable{l:List Nat}{a b:ReM}{A C:BR}{n:Nat}
theorem Ag8(D:n≤A.p∧A.p<n+A.u∧n≤A.q∧A.q<n+A.u)(E:(n+A.u)≤C.p∧C.p<(n+A.u)+C.u∧(n+A.u)≤C.q∧C.q<(n+A.u)+C.u)(x:∀e∈A.es,((n:Nat):Int)≤e.fr∧e.fr<((n+A.u:Nat):Int)∧((n:Nat):Int)≤e.to∧e.to<((n+A.u:Nat):Int))(y:∀e∈C.es,(((n+A.u):Nat):Int)≤e.fr∧e.fr<(((n+A.u)+C.u:Nat):Int)∧(((n+A.u):Nat):Int)≤e.to∧e.to<(((n+A.u)+C.u:Nat):Int))(z:∀i j,Pth A.es l (A.p:Int) i (A.q:Int) j↔Mt l a i j)(tb:∀i j,Pth C.es l (C.p:Int) i (C.q:Int) j↔Mt l b i j)(i j:Nat):Pth (Us A C).es l (A.p:Int) i (C.q:Int) j↔Mt l (.cat a b) i j:=by
 have f:∀e,e∈(Us A C).es↔(e∈A.es∨e∈C.es∨e=AW A.q C.p):=fun e=>by
  simp only[Us,q_,Y_,or_assoc]
 constructor
 ·intro r;have s:∀q j,Pth (Us A C).es l (A.p:Int) i q j→
    (V' n (A.u) q∧Pth A.es l (A.p:Int) i q j)∨(V' (n+A.u) (C.u) q∧∃k,Mt l a i k∧Pth C.es l (C.p:Int) k q j):=by
   intro q j r
   induction r with
   | refl=>exact .inl ⟨by unfold V';omega,.refl⟩
   | @sil q j e _ h h2 m g=>
     rcases(f e).1 h with h | h | rfl
     ·have t:=x e h;rcases g with⟨d,g⟩ | ⟨d,-⟩
      ·exact .inl ⟨⟨by omega,by omega⟩,.sil g h h2 m⟩
      ·unfold V' at d;omega
     ·have t:=y e h;rcases g with⟨d,-⟩ | ⟨d,k,o,g⟩
      ·unfold V' at d;omega
      ·exact .inr ⟨⟨by omega,by omega⟩,k,o,.sil g h h2 m⟩
     ·have m:(A.q:Int)=q:=m;rcases g with⟨d,g⟩ | ⟨d,-⟩
      ·rw[←m]at g;exact .inr ⟨⟨by show _≤((C.p:Nat):Int);omega,by show((C.p:Nat):Int)<_;omega⟩,j,(z i j).1 g,.refl⟩
      ·unfold V' at d;omega
   | @eat q j c e _ h h2 m h4 h5 g=>
     rcases(f e).1 h with h | h | rfl
     ·have t:=x e h;rcases g with⟨d,g⟩ | ⟨d,-⟩
      ·exact .inl ⟨⟨by omega,by omega⟩,.eat g h h2 m h4 h5⟩
      ·unfold V' at d;omega
     ·have t:=y e h;rcases g with⟨d,-⟩ | ⟨d,k,o,g⟩
      ·unfold V' at d;omega
      ·exact .inr ⟨⟨by omega,by omega⟩,k,o,.eat g h h2 m h4 h5⟩
     ·cases h2
  rcases s _ _ r with⟨d,-⟩ | ⟨-,k,o,v⟩
  ·have d:V' n (A.u) (C.q:Int):=d;unfold V' at d;omega
  ·exact⟨k,o,(tb k j).1 v⟩
 ·rintro⟨k,B,v⟩;have pa:=((z i k).2 B).mono (es':=(Us A C).es) fun e w=>(f e).2 (.inl w);have pb:=((tb k j).2 v).mono (es':=(Us A C).es) fun e w=>(f e).2 (.inr (.inl w));exact(pa.trans (Pth.one ((f _).2 (.inr (.inr rfl))))).trans pb
theorem Ag2(B:(n+1)≤A.p∧A.p<(n+1)+A.u∧(n+1)≤A.q∧A.q<(n+1)+A.u)(D:(n+1+A.u)≤C.p∧C.p<(n+1+A.u)+C.u∧(n+1+A.u)≤C.q∧C.q<(n+1+A.u)+C.u)(t:∀e∈A.es,(((n+1):Nat):Int)≤e.fr∧e.fr<(((n+1)+A.u:Nat):Int)∧(((n+1):Nat):Int)≤e.to∧e.to<(((n+1)+A.u:Nat):Int))(v:∀e∈C.es,(((n+1+A.u):Nat):Int)≤e.fr∧e.fr<(((n+1+A.u)+C.u:Nat):Int)∧(((n+1+A.u):Nat):Int)≤e.to∧e.to<(((n+1+A.u)+C.u:Nat):Int))(w:∀i j,Pth A.es l (A.p:Int) i (A.q:Int) j↔Mt l a i j)(tb:∀i j,Pth C.es l (C.p:Int) i (C.q:Int) j↔Mt l b i j)(i j:Nat):Pth (Ub n A C).es l (n:Int) i ((n+1+A.u+C.u:Nat):Int) j↔Mt l (.alt a b) i j:=by
 have f:∀e,e∈(Ub n A C).es↔(e∈A.es∨e∈C.es∨e=AW n A.p∨e=AW n C.p∨e=AW A.q (n+1+A.u+C.u)∨e=AW C.q (n+1+A.u+C.u)):=fun e=>by
  simp only[Ub,q_,YaP,Yc4,or_false,or_assoc]
 constructor
 ·intro m;have o:∀q j,Pth (Ub n A C).es l (n:Int) i q j→
    (q=(n:Int)∧i=j)∨(V' (n+1) (A.u) q∧Pth A.es l (A.p:Int) i q j)∨(V' (n+1+A.u) (C.u) q∧Pth C.es l (C.p:Int) i q j)∨(q=((n+1+A.u+C.u:Nat):Int)∧Mt l (.alt a b) i j):=by
   intro q j m
   induction m with
   | refl=>exact .inl ⟨rfl,rfl⟩
   | @sil q j e _ h h2 k g=>
     rcases(f e).1 h with h | h | rfl | rfl | rfl | rfl
     ·have r:=t e h;rcases g with⟨d,-⟩ | ⟨d,g⟩ | ⟨d,-⟩ | ⟨d,-⟩
      ·omega
      ·exact .inr (.inl ⟨⟨by omega,by omega⟩,.sil g h h2 k⟩)
      ·unfold V' at d;omega
      ·omega
     ·have r:=v e h;rcases g with⟨d,-⟩ | ⟨d,-⟩ | ⟨d,g⟩ | ⟨d,-⟩
      ·omega
      ·unfold V' at d;omega
      ·exact .inr (.inr (.inl ⟨⟨by omega,by omega⟩,.sil g h h2 k⟩))
      ·omega
     ·have k:(n:Int)=q:=k;rcases g with⟨d,rfl⟩ | ⟨d,-⟩ | ⟨d,-⟩ | ⟨d,-⟩
      ·exact .inr (.inl ⟨⟨by show _≤((A.p:Nat):Int);omega,by show((A.p:Nat):Int)<_;omega⟩,.refl⟩)
      ·unfold V' at d;omega
      ·unfold V' at d;omega
      ·omega
     ·have k:(n:Int)=q:=k;rcases g with⟨d,rfl⟩ | ⟨d,-⟩ | ⟨d,-⟩ | ⟨d,-⟩
      ·exact .inr (.inr (.inl ⟨⟨by show _≤((C.p:Nat):Int);omega,by show((C.p:Nat):Int)<_;omega⟩,.refl⟩))
      ·unfold V' at d;omega
      ·unfold V' at d;omega
      ·omega
     ·have k:(A.q:Int)=q:=k;rcases g with⟨d,-⟩ | ⟨d,g⟩ | ⟨d,-⟩ | ⟨d,-⟩
      ·omega
      ·rw[←k]at g;exact .inr (.inr (.inr ⟨rfl,.inl ((w i j).1 g)⟩))
      ·unfold V' at d;omega
      ·omega
     ·have k:(C.q:Int)=q:=k;rcases g with⟨d,-⟩ | ⟨d,-⟩ | ⟨d,g⟩ | ⟨d,-⟩
      ·omega
      ·unfold V' at d;omega
      ·rw[←k]at g;exact .inr (.inr (.inr ⟨rfl,.inr ((tb i j).1 g)⟩))
      ·omega
   | @eat q j c e _ h h2 k h4 h5 g=>
     rcases(f e).1 h with h | h | rfl | rfl | rfl | rfl
     ·have r:=t e h;rcases g with⟨d,-⟩ | ⟨d,g⟩ | ⟨d,-⟩ | ⟨d,-⟩
      ·omega
      ·exact .inr (.inl ⟨⟨by omega,by omega⟩,.eat g h h2 k h4 h5⟩)
      ·unfold V' at d;omega
      ·omega
     ·have r:=v e h;rcases g with⟨d,-⟩ | ⟨d,-⟩ | ⟨d,g⟩ | ⟨d,-⟩
      ·omega
      ·unfold V' at d;omega
      ·exact .inr (.inr (.inl ⟨⟨by omega,by omega⟩,.eat g h h2 k h4 h5⟩))
      ·omega
     all_goals cases h2
  rcases o _ _ m with⟨d,-⟩ | ⟨d,-⟩ | ⟨d,-⟩ | ⟨-,x⟩
  ·have d:((n+1+A.u+C.u:Nat):Int)=(n:Int):=d;omega
  ·have d:V' (n+1) (A.u) ((n+1+A.u+C.u:Nat):Int):=d;unfold V' at d;omega
  ·have d:V' (n+1+A.u) (C.u) ((n+1+A.u+C.u:Nat):Int):=d;unfold V' at d;omega
  ·exact x
 ·rintro(y | z)
  ·have pa:=((w i j).2 y).mono (es':=(Ub n A C).es) fun e s=>(f e).2 (.inl s);exact((Pth.one (l:=l) (i:=i) ((f _).2 (.inr (.inr (.inl rfl))))).trans pa).trans (Pth.one ((f _).2 (.inr (.inr (.inr (.inr (.inl rfl)))))))
  ·have pb:=((tb i j).2 z).mono (es':=(Ub n A C).es) fun e s=>(f e).2 (.inr (.inl s));exact((Pth.one (l:=l) (i:=i) ((f _).2 (.inr (.inr (.inr (.inl rfl)))))).trans pb).trans (Pth.one ((f _).2 (.inr (.inr (.inr (.inr (.inr rfl)))))))
end
theorem AeG{l:List Nat}{a:ReM}{A:BR}{n:Nat}(y:(n+1)≤A.p∧A.p<(n+1)+A.u∧(n+1)≤A.q∧A.q<(n+1)+A.u)(v:∀e∈A.es,(((n+1):Nat):Int)≤e.fr∧e.fr<(((n+1)+A.u:Nat):Int)∧(((n+1):Nat):Int)≤e.to∧e.to<(((n+1)+A.u:Nat):Int))(s:∀i j,Pth A.es l (A.p:Int) i (A.q:Int) j↔Mt l a i j)(i j:Nat):Pth (OS n A).es l (n:Int) i ((n+1+A.u:Nat):Int) j↔Mt l (.star a) i j:=by
 have d:∀e,e∈(OS n A).es↔(e∈A.es∨e=AW n A.p∨e=AW n (n+1+A.u)∨e=AW A.q A.p∨e=AW A.q (n+1+A.u)):=fun e=>by
  simp only[OS,q_,YaP,Yc4,or_false,or_assoc]
 constructor
 ·intro r;have o:∀q j,Pth (OS n A).es l (n:Int) i q j→
    (q=(n:Int)∧i=j)∨(V' (n+1) (A.u) q∧∃k,DY (Mt l a) i k∧Pth A.es l (A.p:Int) k q j)∨(q=((n+1+A.u:Nat):Int)∧DY (Mt l a) i j):=by
   intro q j r;have hs:V' (n+1) (A.u) (A.p:Int):=by unfold V';omega
   induction r with
   | refl=>exact .inl ⟨rfl,rfl⟩
   | @sil q j e _ m h2 g f=>
     rcases(d e).1 m with m | rfl | rfl | rfl | rfl
     ·have w:=v e m;rcases f with⟨b,-⟩ | ⟨b,k,h,f⟩ | ⟨b,-⟩
      ·omega
      ·exact .inr (.inl ⟨⟨by omega,by omega⟩,k,h,.sil f m h2 g⟩)
      ·omega
     ·have g:(n:Int)=q:=g;rcases f with⟨b,rfl⟩ | ⟨b,-⟩ | ⟨b,-⟩
      ·exact .inr (.inl ⟨hs,i,.refl,.refl⟩)
      ·unfold V' at b;omega
      ·omega
     ·have g:(n:Int)=q:=g;rcases f with⟨b,rfl⟩ | ⟨b,-⟩ | ⟨b,-⟩
      ·exact .inr (.inr ⟨rfl,.refl⟩)
      ·unfold V' at b;omega
      ·omega
     ·have g:(A.q:Int)=q:=g;rcases f with⟨b,-⟩ | ⟨b,k,h,f⟩ | ⟨b,-⟩
      ·omega
      ·rw[←g]at f;exact .inr (.inl ⟨hs,j,.step h ((s k j).1 f),.refl⟩)
      ·omega
     ·have g:(A.q:Int)=q:=g;rcases f with⟨b,-⟩ | ⟨b,k,h,f⟩ | ⟨b,-⟩
      ·omega
      ·rw[←g]at f;exact .inr (.inr ⟨rfl,.step h ((s k j).1 f)⟩)
      ·omega
   | @eat q j c e _ m h2 g h4 h5 f=>
     rcases(d e).1 m with m | rfl | rfl | rfl | rfl
     ·have w:=v e m;rcases f with⟨b,-⟩ | ⟨b,k,h,f⟩ | ⟨b,-⟩
      ·omega
      ·exact .inr (.inl ⟨⟨by omega,by omega⟩,k,h,.eat f m h2 g h4 h5⟩)
      ·omega
     all_goals cases h2
  rcases o _ _ r with⟨b,-⟩ | ⟨b,-⟩ | ⟨-,t⟩
  ·have b:((n+1+A.u:Nat):Int)=(n:Int):=b;omega
  ·have b:V' (n+1) (A.u) ((n+1+A.u:Nat):Int):=b;unfold V' at b;omega
  ·exact t
 ·intro t;have o:∀k,DY (Mt l a) i k→k=i∨Pth (OS n A).es l (n:Int) i (A.q:Int) k:=by
   intro k h
   induction h with
   | refl=>exact .inl rfl
   | @step k j h hj f=>
     have pa:=((s k j).2 hj).mono (es':=(OS n A).es) fun e x=>(d e).2 (.inl x);rcases f with rfl | f
     ·exact .inr ((Pth.one (l:=l) ((d _).2 (.inr (.inl rfl)))).trans pa)
     ·exact .inr ((f.trans (Pth.one ((d _).2 (.inr (.inr (.inr (.inl rfl))))))).trans pa)
  rcases o j t with rfl | r
  ·exact Pth.one ((d _).2 (.inr (.inr (.inl rfl))))
  ·exact r.trans (Pth.one ((d _).2 (.inr (.inr (.inr (.inr rfl))))))
section
attribute [local irreducible] Bj Bd AP
theorem AdG(m:Nat){n:Int×Int}(h:Hf n):prog.keyLits (m+2) 224 (Z' n)=some [.int .i64 n.1,.int .i64 n.2]:=by
 have a:prog.cellsOf 224=2:=by kernel_rfl
 have b:prog.cellsOf 3=1:=by kernel_rfl
 simp[Program.keyLits,underlying224,underlying3,a,b,Z',W5 h.1,W5 h.2]
theorem AgS{n:Int×Int}(h:Hf n):∃l,keyOf prog 224 (pkV n)=some l:=by
 have a:prog.keyType 224=true:=by kernel_rfl
 have b:prog.cellsOf 224=2:=by kernel_rfl
 have c:(pkV n).formed prog 224=true:=by simp[pkV,Z',Value.formed,underlying224,b]
 obtain⟨m,d⟩:∃m,prog.types.size+1=m+2:=⟨prog.types.size-1,by
  have:decide (1≤prog.types.size)=true:=by kernel_rfl
  have:=of_decide_eq_true this;omega⟩
 refine⟨.string (keyBytes [.int .i64 n.1,.int .i64 n.2]),?_⟩;unfold keyOf;simp only[underlying224,a,c,Yds,if_true];rw[d,show(pkV n).cells.toList=Z' n from rfl,AdG m h];rfl
theorem AfE:II prog 224 Hf pkV:=
 II.ofLaw (deep_law (m:=2) (by decide) (by kernel_rfl) (by kernel_rfl) (by simp[underlying224])) (fun a b h=>W4 h) (fun a h=>AgS h)
theorem AfH:I4 prog 298 224 3 (.int .i64 0):=⟨rfl,rfl⟩
def tLp:Ty (Int×Int) where
 size:=2
 rep _ _ cs x:=cs=Z' x
 len h:=by rw[h];rfl
 frame h _:=h
 mono h _:=h
theorem AaY(x:Int×Int):∀u∈Z' x,u.oneCell'=true:=by
 intro u a;unfold Z' at a;simp only[YaP,Yc4,or_false]at a;rcases a with rfl | rfl<;>rfl
theorem R9:(prog.info? 224).bind (·.zero)=some (pkV (0,0)):=by kernel_rfl
def AfW(x:Int×Int):Prop:=(0≤x.1∧x.1<65536)∧0≤x.2∧x.2<65536
theorem AfW.ok{x:Int×Int}(h:AfW x):Hf x:=⟨FQ h.1,FQ h.2⟩
section
variable{B:Nat→Prop}{H0 H:Aa}{ps:List Pc}{q:Pc}
theorem _root_.Go.VC.B_.front(st:B_ B H0 H (ps++[q])):B_ B H0 H (q::ps):=by
 have c:=List.pairwise_append.1 st.dis;refine⟨st.old,st.lt0,st.size,fun p a=>st.oks p ?_,fun p a=>st.rng p ?_,Ybf.2 ⟨fun p a k d b=>c.2.2 p a q (by simp) k b d,c.1⟩⟩
 ·rcases YaP.1 a with rfl | a
  ·simp
  ·simp[a]
 ·rcases YaP.1 a with rfl | a
  ·simp
  ·simp[a]
theorem _root_.Go.VC.B_.tail(st:B_ B H0 H (q::ps)):B_ B H0 H ps:=
 ⟨st.old,st.lt0,st.size,fun p a=>st.oks p (by simp[a]),fun p a=>st.rng p (by simp[a]),(Ybf.1 st.dis).2⟩
end
abbrev tExP:x_:=301
def Xm(F:List (Int×Int))(s:Int×Int):Option v_:=(F.findIdx? (·=s)).map fun(i:Nat)=>.int .i64 (i:Int)
theorem Zl{F:List (Int×Int)}{k:Int×Int}(a:F.findIdx? (·=k)=none):put (Xm F) k (some (.int .i64 (F.length:Int)))=Xm (F++[k]):=by
 funext s;unfold put Xm;rw[YcZ];by_cases hs:s=k
 ·subst hs;rw[F_ rfl,a];simp[YcQ]
 ·rw[D_ hs];cases h:F.findIdx? (·=s)with
  | some i=>simp
  | none=>
    have:k≠s:=fun e=>hs e.symm;simp[YcQ,this]
section
variable{B:Nat→Prop}{H0 H:Aa}{rest:List Pc}{xb mb fc most:Nat}{fa:Option Addr}{F:List (Int×Int)}{k:Int×Int}
def MA(xb mb:Nat)(fa:Option Addr)(fc most:Nat)(F:List (Int×Int))(rest:List Pc):List Pc:=
 pB tExP xb (exL mb (.slice fa F.length fc) most)::pMW Hf pkV mb (Xm F)::pS tLp 224 fa F.length fc F::rest
theorem Af4{K:v_→Aa→Prop}(st:B_ B H0 H (MA xb mb fa fc most F rest))(S:Hf k)(hm:most≤4096)(W:F.length≤most)
  (X:∀F' i g l H',atF most F k=some (F',i)→B_ B H0 H' (MA xb mb g l most F' rest)→K (.tuple #[A_ i,.bool true]) H')
  (Y:∀H',atF most F k=none→B_ B H0 H' (MA xb mb fa fc most F rest)→K (.tuple #[A_ 0,.bool false]) H'):
  Ae prog 164 #[U_ xb,pkV k] H K:=by
 refine Ae.mk (R:=fun r H'=>(∃(F':List (Int×Int)) (i:Nat) (g:Option Addr) (l:Nat),r= .tuple #[A_ i,.bool true]∧atF most F k=some (F',i)∧B_ B H0 H' (MA xb mb g l most F' rest))∨(r= .tuple #[A_ 0,.bool false]∧atF most F k=none∧B_ B H0 H' (MA xb mb fa fc most F rest))) ?_ fun r H' h=>by
  rcases h with⟨F',i,g,l,rfl,G,I⟩ | ⟨rfl,G,I⟩
  ·exact X F' i g l H' G I
  ·exact Y H' G I
 unfold MA at st;refine Ak.of_vc func164 rfl (call164 _) (Ct (Z' k) rfl ?_);intro D Hk J L t u;have b:=(st.box J L t u).front;clear st t u;have c:=b.blk 1 rfl;have w:Be Hk D 0 (Z' k):=(b.blk 0 rfl).cells fun j v x=>by rw[K_];exact x
 refine Aq.lex rfl (by kernel_rfl) (f_ Wb ?_);refine G_ (v:=.map (some mb)) Af6 (by rw[c.cell];rfl) trivial ?_;refine L_ (cs:=Z' k) N7 w trivial (Jj (a:=k) AfH AfE S (b.mapW 2 rfl) trivial ?_);rw[show Xm F k=(F.findIdx? (·=k)).map fun(i:Nat)=>.int .i64 (i:Int)from rfl];cases E:F.findIdx? (·=k)with
 | some i=>
   (conv=>whnf);exact .inl ⟨F,i,fa,fc,rfl,by unfold atF;rw[E],b.tail⟩
 | none=>
   refine Aq.lex rfl (by kernel_rfl) (f_ GR ?_);refine G_ (v:=.slice fa F.length fc) Mi (by rw[c.cell];rfl) trivial ?_;refine f_ AcU ?_;refine G_ (v:=A_ most) E_ (by rw[c.cell];rfl) trivial ?_;by_cases y:F.length<most
   ·have M:decide ((most:Int)≤(F.length:Int))=false:=V_;(conv=>whnf);rw[M];refine Aq.heldZ (H_ Hk) [10] (sq [0,1,2,3,4,5,6,7,8,9] (.f 10 .e)) rfl (by kernel_rfl) (f_ Wb ?_);refine G_ (v:=.map (some mb)) Af6 (by rw[c.cell];rfl) c.lt ?_;refine L_ (cs:=Z' k) N7 w (b.blk 0 rfl).lt (f_ GR ?_);refine G_ (v:=.slice fa F.length fc) Mi (by rw[c.cell];rfl) c.lt ?_;refine Jk (a:=k) b 2 AfH AfE S rfl (Zl E) fun H1 st1=>?_;have N:=st1.blk 1 rfl;have O:Be H1 D 0 (Z' k):=(st1.blk 0 rfl).cells fun j v x=>by rw[K_];exact x
    refine Aq.heldZ (fun j=>j=xb∨j=D) [10] (sq [0,1,2,3,4,5] (.f 6 (.f 7 (sq [8,9] (.f 10 .e))))) rfl (by kernel_rfl) (f_ GR ?_);refine G_ (v:=.slice fa F.length fc) Mi (by rw[N.cell];rfl) (.inl rfl) ?_;refine L_ (cs:=Z' k) N7 O (.inr rfl) (Ay WF (Z' k) rfl rfl (by decide) (by decide) ?_);intro Z H11 z T A m;have U:=(st1.blk 1 rfl).lt;have V:=(st1.blk 0 rfl).lt;refine⟨m.mono fun j C=>?_,?_⟩
    ·rcases C with rfl | rfl<;>omega
    have n:=st1.skip z m;have P:=n.apart2 (i:=1) (j:=3) rfl rfl (by decide);have Q:=n.apart2 (i:=0) (j:=3) rfl rfl (by decide);refine QF (ys:=[k]) n 3 WF rfl (A.cells fun j v x=>by rw[K_];exact x) (Ty.reps_one (show tLp.rep none_ H11 (Z' k) k from rfl)) rfl (AaY k) (by simp only[h_];omega) (by decide) fun p q H12 o s=>?_;rw[show F.length+[k].length=(F++[k]).length by simp]at o ⊢;refine⟨(m.mono fun j C=>?_).trans (s.mono fun j C=>?_),?_⟩
    ·rcases C with rfl | rfl<;>omega
    ·rcases C with rfl | rfl
     ·exact⟨by omega,fun h=>P _ rfl (.inl h)⟩
     ·exact⟨by omega,fun h=>Q _ rfl (.inl h)⟩
    refine f_ GR (Bh o 1 Mi rfl (show 1<3 by decide) rfl fun H13 d=>?_);replace d:B_ B H0 H13 (pB 224 D (Z' k)::MA xb mb p q most (F++[k]) rest):=d;refine f_ GR ?_;refine lT (v:=.slice p (F++[k]).length q) Mi ((d.blk 1 rfl).ce rfl) ?_;have w1:IntKind.wrap .i64 (((F++[k]).length:Int)-1)=(F.length:Int):=by
     rw[show(F++[k]).length=F.length+1 by simp,w64 (by omega) (by omega)];omega
    (conv=>whnf);rw[w1];(conv=>whnf);exact .inl ⟨F++[k],F.length,p,q,rfl,by unfold atF;rw[E];simp only;rw[F_ y],d.tail⟩
   ·have M:decide ((most:Int)≤(F.length:Int))=true:=e_;(conv=>whnf);rw[M];(conv=>whnf);exact .inr ⟨rfl,by unfold atF;rw[E];simp only;rw[D_ y],b.tail⟩
end
structure Ny(S:Nat→Prop)(H:Aa)(pa pb:Nat)(va vb:v_)(a b:Option AM):Prop where
 spa:S pa
 spb:S pb
 ca:Be H pa 0 [va]
 cb:Be H pb 0 [vb]
 va:AZ S H va a
 vb:AZ S H vb b
theorem Ny.frame{S:Nat→Prop}{H H':Aa}{pa pb:Nat}{va vb:v_}{a b:Option AM}(h:Ny S H pa pb va vb a b)(k:C_ S H H'):Ny S H' pa pb va vb a b:=
 ⟨h.spa,h.spb,h.ca.eq (k _ h.spa),h.cb.eq (k _ h.spb),h.va.frame k,h.vb.frame k⟩
section
variable{S:Nat→Prop}{H:Aa}{pa pb pf:Nat}{va vb:v_}{a b:Option AM}{x:Int×Int}{c:Nat}{ends:Bool→Bool→Bool}{f:FuncId}
theorem AeJ(p:∀k,S k→k<H.size)(h:Ny S H pa pb va vb a b)(r:c<256):
  BM prog 120 #[pkV x,.int .u8 (c:Int),U_ pa,U_ pb] H (pkV (Cn a b x c)):=by
 have e:Cn a b x c=(As a x.1 c,As b x.2 c):=F_ r;rw[e];refine Ak.of_vc func120 rfl (call120 _) (Ct (Z' x) rfl ?_);intro F H1 s t u w;have st1:=(St.nil H).box s t u w;refine Am (pkV (0,0)) (Z' (0,0)) R9 rfl ?_;intro G H2 y z A B;have d:=st1.box y z A B;have C:=h.frame (d.old.mono p);have q:=d.blk 0 rfl;have i:∀k,S k→k<H2.size:=fun k n=>d.up (p k n);refine Aq.heldZ (H_ H2) [11] (sq [0,1,2,3,5,6,7,8] (.f 4 (.f 9 (sq [10] (.f 11 .e))))) rfl (by kernel_rfl) (G_ (v:=va) Pf (C.ca 0 _ rfl) (i _ h.spa) (f_ VU ?_));refine G_ (v:=A_ x.1) E_ (by rw[q.cell];rfl) q.lt ?_;refine G_ (v:=vb) Pf (C.cb 0 _ rfl) (i _ h.spb) (f_ VV ?_);refine G_ (v:=A_ x.2) E_ (by rw[q.cell];rfl) q.lt ?_;refine Ah (F6 i C.va r) fun H3 g=>?_;have l:=d.call g;refine⟨g,?_⟩;refine Ah (F6 (fun k n=>l.up (p k n)) (h.vb.frame (l.old.mono p)) r) fun H4 o=>?_;have D:=l.call o;refine⟨g.trans (o.mono fun k n=>Ar g n),?_⟩;refine Ax underlying224 rfl (pkV (0,0)) R9 (Z' (As a x.1 c,As b x.2 c)) rfl (AN (cs:=Z' (As a x.1 c,As b x.2 c)) D 1 rfl rfl (I_ _) rfl fun H5 m=>?_);rw[Aw (show(Z' (As a x.1 c,As b x.2 c)).length=(Z' (0,0)).length from rfl)]at m;refine L_ (cs:=Z' (As a x.1 c,As b x.2 c)) N7 ((m.blk 1 rfl).cells fun j v E=>by rw[K_];exact E) trivial ?_;exact⟨rfl,m.old⟩
theorem Zt(p:∀k,S k→k<H.size)(h:Ny S H pa pb va vb a b)(i:S pf)(r:Be H pf 0 [.func (.func f) #[] #[]])(C:∀(G:Aa) (x y:Bool),BM prog f #[.bool x,.bool y] G (.bool (ends x y))):
  BM prog 121 #[pkV x,U_ pf,U_ pa,U_ pb] H (.bool (ends (AY a x.1) (AY b x.2))):=by
 refine Ak.of_vc func121 rfl (call121 _) (Ct (Z' x) rfl ?_);intro D H1 s t u w;have st1:=(St.nil H).box s t u w;have z:=h.frame (st1.old.mono p);have q:=st1.blk 0 rfl;have d:∀k,S k→k<H1.size:=fun k j=>st1.up (p k j);refine Aq.heldZ (H_ H1) [] (sq [0,1,2,3,5,6,7] (.f 4 (.f 8 (.f 9 (.f 10 .e))))) rfl (by kernel_rfl) (G_ (v:=.func (.func f) #[] #[]) AiD ((r.eq (st1.old _ (p _ i))) 0 _ rfl) (d _ i) (G_ (v:=va) Pf (z.ca 0 _ rfl) (d _ h.spa) (f_ VU ?_)));refine G_ (v:=A_ x.1) E_ (by rw[q.cell];rfl) q.lt ?_;refine G_ (v:=vb) Pf (z.cb 0 _ rfl) (d _ h.spb) (f_ VV ?_);refine G_ (v:=A_ x.2) E_ (by rw[q.cell];rfl) q.lt ?_;refine Ah (FN z.va) fun H3 c=>?_;have l:=st1.call c;refine⟨c,?_⟩;refine Ah (FN (h.vb.frame (l.old.mono p))) fun H4 m=>?_;have A:=l.call m;have g:=c.trans (m.mono fun k j=>Ar c j);refine⟨g,?_⟩;refine Ah (C H4 _ _) fun H5 n=>?_;have B:=A.call n;have o:=g.trans (n.mono fun k j=>Ar g j);refine⟨o,?_⟩;(conv=>whnf);refine⟨o,?_⟩;(conv=>whnf);exact⟨rfl,B.old⟩
theorem AbY{K:Type} [DecidableEq K]{most:Nat}{F F':List K}{k:K}{i:Nat}(h:atF most F k=some (F',i))(b:F.length≤most):F'.length≤most∧i<most:=by
 unfold atF at h;split at h
 ·rename_i j a;injection h with h;injection h with h1 h2;subst h1;subst h2
  have:=(YcP.1 a).1;omega
 ·split at h
  ·injection h with h;injection h with h1 h2;subst h1;subst h2
   simp only[J_,b_,m_];omega
  ·cases h
def ExpP(a b:Option AM)(ends:Bool→Bool→Bool)(most:Nat)(cs:List (BitVec 256))(l0:Int×Int)(H H':Aa)(r:v_):Prop:=C_ (H_ H) H H'∧
 match Fy most (Cn a b) (Br cs) l0 with
 | none=>r= .tuple #[.pointer none,.bool false]
 | some (F,rows)=>∃v,r= .tuple #[v,.bool true]∧AZ (fun k=>H.size≤k∧k<H'.size) H' v (if Bk cs (rows.map AR) F.length then some (Bi cs (rows.map AR) (F.map fun x=>ends (AY a x.1) (AY b x.2)))else none)
theorem U3{ca:Option Addr}{cc most:Nat}{cs:List (BitVec 256)}{l0:Int×Int}(X:∀k,S k→k<H.size)(aj:Ny S H pa pb va vb a b)(ak:S pf)(c1:Be H pf 0 [.func (.func f) #[] #[]])(hf:∀(G:Aa) (x y:Bool),BM prog f #[.bool x,.bool y] G (.bool (ends x y)))
  (am:g_ Cp S H ca cc cs) (db:cs.length≤256) (sa:DS a) (sb:DS b) (ao:SP a b l0) (dc:1≤most) (hm:most≤4096):
  Ak prog 122 #[pkV l0,.slice ca cs.length cc,.func (.func 120) #[] #[U_ pa,U_ pb],.func (.func 121) #[] #[U_ pf,U_ pa,U_ pb],A_ most] H fun r H'=>ExpP a b ends most cs l0 H H' r:=by
 have ap:∀x,SP a b x→AfW x:=fun x s=>by
  have w:=sa.n2;have h2:=sb.n2;obtain⟨⟨x1,x2⟩,x3,x4⟩:=s;exact⟨⟨x1,by omega⟩,x3,by omega⟩
 have aq:∀x c,SP a b x→SP a b (Cn a b x c):=fun x c s=>by
  unfold Cn;split
  ·rename_i h;exact⟨sa.step x.1 c s.1 h,sb.step x.2 c s.2 h⟩
  ·exact s
 have c2:∀x∈[l0],SP a b x:=fun x s=>by rw[Y_]at s;subst s;exact ao
 refine Ak.of_vc func122 rfl (call122 _) (Ct (Z' l0) rfl ?_);intro c3 H0' ar c4 au aw;have c5:=(St.nil H).box ar c4 au aw;refine LL (Ok:=Hf) (enc:=pkV) fun mb H1 c6 c7 ax c8=>?_;have st1:=c5.mapNewW c6 c7 ax c8;refine Ax underlying301 rfl (.agg #[.map none,.slice none 0 0,A_ 0]) rfl (exL mb (.slice none 0 0) most) rfl (Ct (exL mb (.slice none 0 0) most) rfl ?_);intro xb H2 c9 cd ce cg;have ay:=(st1.box c9 cd ce cg).nils tLp 224;have ch:Be H2 c3 0 (Z' l0):=(ay.blk 0 rfl).cells fun j v hv=>by rw[K_];exact hv
 have cj:St H H2 (MA xb mb none 0 most [] []):=ay.pick [2,1,3] (by decide);have Y:atF most ([]:List (Int×Int)) l0=some ([l0],0):=by
  unfold atF;rw[List.findIdx?_nil];simp only;rw[F_ (by simp only[m_];omega)];rfl
 refine L_ (cs:=Z' l0) N7 ch trivial (Af4 cj (ap l0 ao).ok hm (t_ _) (fun F' i az b0 H3 w ck=>?_) (fun H3 w _=>?_))
 ·rw[Y]at w;injection w with w
  injection w with w h2
  subst w;subst h2;have cm:St H H3 (MA xb mb az b0 most [l0] [pN (tSl u_) none_ 41 none 0 0 [],pS AQ 4 none 0 0 []]):=(ck.nils (tSl u_) 41).nils AQ 4;(conv=>whnf);refine A0.mk [15,16,17] (fun x:Nat×List (Int×Int)×List (List Nat)×Option Addr×Nat×Option Addr×Nat=>match x with | (i,F,rows,na,nc,Z,bc)=>[.slice na i nc,.slice Z i bc,A_ i])
   (fun x H4=>match x with | (i,F,rows,na,nc,Z,bc)=>i≤F.length∧F.length≤most∧(∀x∈F,SP a b x)∧rows.length=i∧B8 most (Cn a b) (Br cs) l0 i=some (F,rows)∧∃Sx fa fc,St H H4 (MA xb mb fa fc most F [pN (tSl u_) Sx 41 na i nc (rows.map AR),pS AQ 4 Z i bc ((F.take i).map fun x=>ends (AY a x.1) (AY b x.2))])) (fun x _=>most-x.1) ?_ ?_
  ·(conv=>whnf);exact⟨(0,[l0],[],none,0,none,0),rfl,t_ _,by simp only[b_,m_];omega,c2,rfl,rfl,none_,az,b0,cm⟩
  ·rintro⟨i,F,rows,na,nc,Z,bc⟩ H4 co ⟨de,b4,b5,a3,a0,Sx,fa,fc,m⟩;have cp:=m.blk 0 rfl;refine f_ GR ?_;refine G_ (v:=.slice fa F.length fc) Mi (by rw[cp.cell];rfl) trivial ?_;refine AG.m2 (fun hz=>?_) (fun hz=>?_)
   ·have⟨x,s⟩:=Ac (l:=F) (k:=i) (by omega);have b6:=b5 x (c_ s);have o:B8 most (Cn a b) (Br cs) l0 (i+1)=((Br cs).foldl (CQ most (Cn a b) x) (some (F,[]))).map fun r=>(r.1,rows++[r.2]):=by
     show(B8 most (Cn a b) (Br cs) l0 i).bind _=_;rw[a0];simp only[YbP,s]
    refine D3 AU rfl (by omega) (by omega) (by omega) (by omega) ?_;intro rb H6 cq b7 b9 a4;rw[U']at b9;rw[U',show(0:Int).toNat=0 from rfl];have a5:=m.newCap (T:=u_) (cap:=cs.length) cq b7 b9 a4 (by simp[GB]) (by unfold maxLen;omega);(conv=>whnf);refine A0.mk [18,51] (fun y:Nat×List (Int×Int)×List Nat×Option Addr×Nat=>match y with | (j,F',row,ra,rc)=>[.slice ra row.length rc,A_ j])
     (fun y H7=>match y with | (j,F',row,ra,rc)=>j≤cs.length∧F'.length≤most∧(∀x∈F',SP a b x)∧F <+: F'∧row.length=j∧((Br cs).take j).foldl (CQ most (Cn a b) x) (some (F,[]))=some (F',row)∧∃fa fc,St H H7 (MA xb mb fa fc most F' [pN (tSl u_) Sx 41 na i nc (rows.map AR),pS AQ 4 Z i bc ((F.take i).map fun x=>ends (AY a x.1) (AY b x.2)),pS u_ 3 ra row.length rc (AR row)])) (fun y _=>cs.length-y.1) ?_ ?_
    ·(conv=>whnf);exact⟨(0,F,[],some ⟨rb,0,none⟩,cs.length),rfl,t_ _,b4,b5,YcI _,rfl,rfl,fa,fc,a5⟩
    ·rintro⟨j,F',row,ra,rc⟩ H7 cr ⟨hj,J,a1,z,a6,K,E,I,L⟩;refine AG.m2 (fun ct=>?_) (fun ct=>?_)
     ·have⟨c,hc⟩:=Ac (l:=cs) (k:=j) (by omega);have cu:=IV hc;have bd:=BC c 0;have A:=ED z s;refine ixr (i:=j) C0 (am.frame (L.old.mono X)) hc rfl ?_;rintro b8 o8 df dg cw rfl;refine L_ (cs:=Ad c) AT cw trivial (Am (Bt 0) (Ad 0) rfl rfl ?_);intro sx H8 cx cy cz d0;have a7:=L.box cx cy cz d0;refine AN (cs:=Ad c) a7 6 rfl rfl (I_ _) rfl fun H9 a8=>?_;rw[Aw (show(Ad c).length=(Ad 0).length from rfl)]at a8;refine L_ (cs:=Ad c) AT ((a8.blk 6 rfl).cells fun j v hv=>by rw[K_];exact hv) trivial ?_;refine Ah (LM c 0 (by decide) H9) fun H10 be=>?_;have q:=a8.call be;have bf:=q.blk 0 rfl;refine f_ GR ?_;refine G_ (v:=.slice E F'.length I) Mi (by rw[bf.cell];rfl) trivial ?_;have a9:=q.view 2 rfl;refine IB (i:=i) WF a9 rfl A rfl ?_;rintro d1 d2 d3 bg M rfl;refine lN (cs:=Z' x) N7 M ?_;have bh:∀k,S k→k<H10.size:=fun k B=>q.up (X k B);refine Ah (AeJ (S:=S) bh (aj.frame (q.old.mono X)) bd) fun H11 bi=>?_;have N:=q.call bi;replace N:St H H11 (MA xb mb E I most F' [pN (tSl u_) Sx 41 na i nc (rows.map AR),pS AQ 4 Z i bc ((F.take i).map fun x=>ends (AY a x.1) (AY b x.2)),pS u_ 3 ra row.length rc (AR row)]):=N.pick [0,1,2,3,4,5] (by decide);have p:((Br cs).take (j+1)).foldl (CQ most (Cn a b) x) (some (F,[]))=(atF most F' (Cn a b x (AE c 0).1)).map fun r=>(r.1,row++[r.2]):=by
       rw[Af cu,Ybh,K];rfl
      refine Af4 N (ap _ (aq x _ b6)).ok hm J (fun F2 t bj bm H12 g O=>?_) (fun H12 g O=>?_)
      ·have⟨d4,dh⟩:=AbY g J;rw[g]at p;refine Ay AU [A_ t] rfl rfl (by decide) (by decide) ?_;intro d5 H13 P bn Q C;refine IN (x:=(t:Int)) (O.skip P C) 5 AU rfl Q ⟨rfl,FQ ⟨by omega,by omega⟩⟩ rfl (by unfold AR;rw[Z_];omega) (by decide) fun ab ae H14 d _=>?_;have e1:(AR row).length+1=(row++[t]).length:=by unfold AR;simp
       have e2:AR row++[(t:Int)]=AR (row++[t]):=by unfold AR;simp
       rw[e1,e2]at d;rw[e1];(conv=>whnf);rw[P_ j (by omega)];exact⟨rfl,(j+1,F2,row++[t],ab,ae),by simp,⟨by omega,d4,fun y hy=>(N9 g y hy).elim (a1 y) fun e=>by rw[e];exact aq x _ b6,z.trans (by
        unfold atF at g;split at g
        ·injection g with h;injection h with w h2;subst w;exact YcI _
        ·split at g
         ·injection g with h;injection h with w h2;subst w;exact Ydy _ _
         ·cases g),by simp[a6],p,bj,bm,d⟩,by simp only;omega⟩
      ·rw[g]at p;have ag:(Br cs).foldl (CQ most (Cn a b) x) (some (F,[]))=none:=by
        have h3:=(YcC (j+1) (Br cs)).symm;rw[h3,Ybh,p];exact HG x _
       have R:Fy most (Cn a b) (Br cs) l0=none:=P9 (n:=i) (by rw[o,ag];rfl) (by omega);(conv=>whnf);refine⟨O.old,?_⟩;rw[R]
     ·obtain rfl:j=cs.length:=by omega
      have ah:(Br cs).foldl (CQ most (Cn a b) x) (some (F,[]))=some (F',row):=by
       rw[←K,List.take_of_length_le (by unfold Br;rw[Z_];exact I_ _)]
      rw[ah]at o;simp only[YcK]at o;have A:=ED z s;have d6:(AR row).length=row.length:=by unfold AR;rw[Z_]
      have D:(rows.map AR).length=i:=by rw[Z_];exact a3
      have bo:((F'.take (i+1)).map fun x=>ends (AY a x.1) (AY b x.2))=((F.take i).map fun x=>ends (AY a x.1) (AY b x.2))++[ends (AY a x.1) (AY b x.2)]:=by
       obtain⟨t,rfl⟩:=z;rw[Ydx (by omega),Af s,YcB];rfl
      have U:((F.take i).map fun x=>ends (AY a x.1) (AY b x.2)).length=i:=by rw[Z_,YaW];omega
      obtain⟨di,dj,er,ai,-⟩:=(L.at_ 5 rfl).1.view (S':=a_ (.slice ra row.length rc)) (fun b hb=>hb) (fun b hb=>hb.elim);injection er with er1 er2 er3
      subst er1;subst er3;have a7:St H H7 (pN (tSl u_) (fun k=>Sx k∨a_ (.slice ra row.length rc) k) 41 na i nc (rows.map AR)::[pB tExP xb (exL mb (.slice E F'.length I) most),pMW Hf pkV mb (Xm F'),pS tLp 224 E F'.length I F',pS AQ 4 Z i bc ((F.take i).map fun x=>ends (AY a x.1) (AY b x.2))]):=B_.absorb (L.pick [3,5,0,1,2,4] (by decide));refine Ay EY [.slice ra row.length rc] rfl rfl (by decide) (by decide) ?_;intro d5 H13 P bn Q C;have bp:=a7.skip P C;have W:g_ u_ (fun k=>Sx k∨a_ (.slice ra row.length rc) k) H13 ra rc (AR row):=(ai.frame (C.mono fun k B=>by
       have:=(L.in_ 5 rfl (.inl B)).2;omega)).mono fun k B=>.inr B
      refine YB (row:=AR row) bp EY (Q.cells fun j v hv=>by rw[K_];exact hv) ⟨ra,rc,by rw[d6],W⟩ rfl (fun u hu=>by cases Y_.1 hu;rfl) (by rw[D];omega) (by decide) fun ab ae H14 d=>?_;rw[D]at d ⊢;have bq:=d.blk 1 rfl;refine f_ GR ?_;refine G_ (v:=.slice E F'.length I) Mi (by rw[bq.cell];rfl) trivial ?_;refine IB (i:=i) WF (d.view 3 rfl) rfl A rfl ?_;rintro d1 d2 d3 bg M rfl;refine lN (cs:=Z' x) N7 M ?_;have br:∀k,S k→k<H14.size:=fun k B=>d.up (X k B);refine Ah (Zt (S:=S) br (aj.frame (d.old.mono X)) ak (c1.eq (d.old pf (X pf ak))) hf) fun H15 bu=>?_;have bv:=d.call bu;refine Ay CJ [.bool (ends (AY a x.1) (AY b x.2))] rfl rfl (by decide) (by decide) ?_;intro dk H16 bw da bx bz;refine IN (x:=ends (AY a x.1) (AY b x.2)) (bv.skip bw bz) 4 CJ rfl bx rfl rfl (by rw[U];omega) (by decide) fun d7 d8 H17 V _=>?_;rw[U,←bo]at V;rw[U];(conv=>whnf);rw[P_ i (by omega)];refine⟨rfl,(i+1,F',rows++[row],ab,ae,d7,d8),by simp,⟨?_,J,a1,by simp[a3],o,(fun k=>Sx k∨a_ (.slice ra row.length rc) k),E,I,?_⟩,by simp only;omega⟩
      ·have:=(O_.1 A).1;omega
      ·have e5:rows.map AR++[AR row]=(rows++[row]).map AR:=by simp
       rw[e5]at V;exact V.pick [1,2,3,0,4] (by decide)
   ·obtain rfl:i=F.length:=by omega
    rw[Yc0]at m;have D:(rows.map AR).length=F.length:=by rw[Z_];exact a3
    have R:=L7 a0 rfl b4;have a2:=Wv ca na Z cc nc bc cs (rows.map AR) (F.map fun x=>ends (AY a x.1) (AY b x.2)) (H_ H4) H4 (fun k B=>B) ((am.frame (m.old.mono X)).mono fun k B=>m.up (X k B)) (m.view 3 rfl) (m.view 4 rfl);rw[D,Z_]at a2;refine Ae.mk a2 ?_;rintro v H6 ⟨a4,b7,d9⟩;have a5:=m.call a4;(conv=>whnf);refine⟨a5.old,?_⟩;rw[R];exact⟨v,rfl,d9.mono fun k B=>⟨YbA (Bv m.old) B.1,B.2⟩⟩
 ·rw[Y]at w;cases w
end
def AfT(a b:Option AM)(ends:Bool→Bool→Bool)(F:List (Int×Int))(p:Option AM):Prop:=
 B9 p∧Yt (Cn a b) (fun x:Int×Int=>ends (AY a x.1) (AY b x.2)) F (As p) (AY p)∧stN p=F.length
def Mf(a b:Option AM)(ends:Bool→Bool→Bool)(m:Int)(H H':Aa)(r:v_):Prop:=
 if m<1∨4096<m then r= .tuple #[.pointer none,A_ 2]else
 match prW a b m.toNat with
 | none=>r= .tuple #[.pointer none,A_ 40]
 | some F=>∃v A,r= .tuple #[v,A_ 0]∧AZ (fun k=>H.size≤k∧k<H'.size) H' v (some A)∧AfT a b ends F (some A)
theorem Sk{S:Nat→Prop}{H:Aa}{v:v_}{o:Option AM}(h:AZ S H v o):v.cells=[v].toArray:=by
 cases o with
 | none=>obtain rfl:=h;rfl
 | some A=>obtain⟨p,rfl,-⟩:=h;rfl
section
variable{S:Nat→Prop}{H:Aa}{va vb:v_}{a b:Option AM}{ends:Bool→Bool→Bool}{f:FuncId}{m:Int}
theorem Qd(hS:∀k,S k→k<H.size)(q:AZ S H va a)(s:AZ S H vb b)(ha:B9 a)(V:B9 b)(hf:∀(G:Aa) (x y:Bool),BM prog f #[.bool x,.bool y] G (.bool (ends x y))):
  Ak prog 57 #[va,vb,A_ m,.func (.func f) #[] #[]] H fun r H'=>C_ (H_ H) H H'∧Mf a b ends m H H' r:=by
 have sa:=ha.steps;have sb:=V.steps;have ar:=Ht q;have au:=Ht s;have W:0<(Ag b).length:=by
  have⟨ls,h⟩:=V.ok;exact P3 h
 refine Ak.of_vc func57 rfl (call57 _) (Ct [va] (Sk q) ?_);intro pa H1 X Y Z a0;have st1:=(St.nil H).box X Y Z a0;refine Ct [vb] (Sk s) ?_;intro pb H2 M a1 a2 a5;have a6:=st1.box M a1 a2 a5;refine Ct [.func (.func f) #[] #[]] rfl ?_;intro pf H3 a7 a8 a9 ab;have c:=a6.box a7 a8 a9 ab;unfold Mf;by_cases D:m<1
 ·have T:decide (m<1)=true:=n_ D;(conv=>whnf);rw[T];(conv=>whnf);exact⟨c.old,by rw[F_ (.inl D)]⟩
 ·have T:decide (m<1)=false:=j_ D;by_cases E:4096<m
  ·have d2:decide (m>4096)=true:=n_ E;(conv=>whnf);rw[T];(conv=>whnf);rw[d2];(conv=>whnf);exact⟨c.old,by rw[F_ (.inr E)]⟩
  ·have d2:decide (m>4096)=false:=j_ E;obtain⟨n,rfl⟩:=Int.eq_ofNat_of_zero_le (show 0≤m by omega);have I:1≤n:=by omega
   have ae:n≤4096:=by omega
   (conv=>whnf);rw[T];(conv=>whnf);rw[d2];have u:∀{G:Aa} {ps:List Pc},St H3 G ps→C_ S H G:=fun st=>(c.old.trans (st.old.mono fun k o=>Ar c.old o)).mono hS;have J:∀{G:Aa} {ps:List Pc},St H3 G ps→∀k,S k→k<G.size:=fun st k o=>Ar st.old (c.up (hS k o));have K:=St.nil H3;refine Aq.heldZ (H_ H3) [] (sq [0,2] (.f 1 (.f 3 (.f 4 (.f 5 (.f 6 .e)))))) rfl (by kernel_rfl) ?_;refine G_ (v:=va) Pf ((c.blk 0 rfl).ce rfl) (c.blk 0 rfl).lt ?_;refine G_ (v:=vb) Pf ((c.blk 1 rfl).ce rfl) (c.blk 1 rfl).lt ?_;refine Ae.mk (HR (J K) (q.frame (u K))) ?_;rintro _ G1 ⟨ag,-,ah⟩;obtain⟨aa,ac,rfl,w⟩:=K.got ag ah;refine⟨w.old,?_⟩;refine Ae.mk (HR (J w) (s.frame (u w))) ?_;rintro _ G2 ⟨ai,-,aj⟩;obtain⟨ba,bc,rfl,N⟩:=w.got ai aj;refine⟨N.old,?_⟩;refine AeY N 0 1 C0 rfl rfl W Ma (by omega) (by decide) fun a3 c3 G3 A _=>(⟨A.old,?_⟩);obtain⟨sets,g⟩:∃sets,sets=Ag a++Ag b:=⟨_,rfl⟩;have O:(Ag a).length+(Ag b).length=sets.length:=by rw[g,J_]
   rw[O,←g]at A;rw[O];refine Ae.mk (Kq (S:=H_ G3) (fun k o=>o) (A.view 0 rfl) (by omega)) ?_;rintro _ G4 ⟨ak,a4,c4,rfl,h4⟩;have d:=A.call ak;refine⟨d.old,?_⟩;(conv=>whnf);refine⟨d.old,?_⟩;have am:=reps_len sets;have i:=AiN ha V;rw[←g]at i;have b1:=(c.blk 0 rfl).agr d.old (c.blk 0 rfl).lt;have b2:=(c.blk 1 rfl).agr d.old (c.blk 1 rfl).lt;have b3:=(c.blk 2 rfl).agr d.old (c.blk 2 rfl).lt;have cl:∀{p t:Nat} {l:List v_},Q_ G4 p t l→Be G4 p 0 l:=fun h=>h.cells fun j v U=>by rw[K_];exact U
   have hold:∀k,S k→H_ G4 k:=fun k o=>J d k o;have P:Ny (H_ G4) G4 pa pb va vb a b:=⟨b1.lt,b2.lt,cl b1,cl b2,(q.frame (u d)).mono hold,(s.frame (u d)).mono hold⟩;refine Ax underlying224 rfl (pkV (0,0)) R9 (Z' (0,0)) rfl (Ae.mk (U3 (S:=H_ G4) (l0:=(0,0)) (most:=n) (fun k o=>o) P b3.lt (cl b3) hf h4 am sa sb i.beg I ae) ?_);rintro r G5 ⟨ao,L⟩;have ap:=d.call ao;have C:C_ (H_ H) H G5:=c.old.trans (ap.old.mono fun k o=>Ar c.old o);rw[show Br (Bz sets)=CG sets from rfl]at L;have B:=i.detA I;have Q:prW a b ((n:Int)).toNat=Fz n (Cn a b) (0,0):=by rw[U'];rfl
   cases hd:Fy n (Cn a b) (CG sets) (0,0)with
   | none=>
     rw[hd]at L B;simp only at L;subst L;(conv=>whnf);refine⟨C,?_⟩;rw[D_ (by omega),Q,←B]<;>rfl
   | some z=>
     have⟨F,rows⟩:=z;rw[hd]at L B;obtain⟨v,rfl,U⟩:=L;have⟨R,hL,hN⟩:=Ai7 (fin:=fun x:Int×Int=>ends (AY a x.1) (AY b x.2)) i I (by omega) hd;rw[F_ R]at U;(conv=>whnf);refine⟨C,?_⟩;rw[D_ (by omega),Q,←B];have aw:=Bv c.old;have aq:=Bv d.old;exact⟨v,_,rfl,U.mono fun k o=>⟨by omega,o.2⟩,⟨Bz sets,rows.map AR,F.map fun x=>ends (AY a x.1) (AY b x.2),by
      unfold Cs;rw[Z_,F_ R]⟩,hL,hN⟩
def Pd(x y:Bool):Bool:=x&&y
theorem AdI(G:Aa)(x y:Bool):BM prog 58 #[.bool x,.bool y] G (.bool (Pd x y)):=by
 refine Ak.of_vc func58 rfl (call58 _) ?_;cases x<;>((conv=>whnf);exact⟨rfl,C_.refl _ _⟩)
theorem AdE(G:Aa)(x y:Bool):BM prog 60 #[.bool x,.bool y] G (.bool (Pl x y)):=by
 refine Ak.of_vc func60 rfl (call60 _) ?_;cases x<;>((conv=>whnf);exact⟨rfl,C_.refl _ _⟩)
theorem Mv{H':Aa}{r:v_}(h:Mf a b ends m H H' r):∃x y,r= .tuple #[x,y]:=by
 unfold Mf at h;split at h
 ·exact⟨_,_,h⟩
 ·split at h
  ·exact⟨_,_,h⟩
  ·obtain⟨v,A,h,-⟩:=h;exact⟨_,_,h⟩
theorem AdJ(g:∀k,S k→k<H.size)(c:AZ S H va a)(d:AZ S H vb b)(h:B9 a)(i:B9 b):
  Ak prog 21 #[va,vb,A_ m] H fun r H'=>C_ (H_ H) H H'∧Mf a b Pd m H H' r:=by
 refine Ak.of_vc func21 rfl (call21 _) (Ae.mk (Qd g c d h i AdI) ?_);rintro r H1 ⟨e,f⟩;obtain⟨x,y,rfl⟩:=Mv f;(conv=>whnf);exact⟨e,f⟩
theorem AdF(g:∀k,S k→k<H.size)(c:AZ S H va a)(d:AZ S H vb b)(h:B9 a)(i:B9 b):
  Ak prog 23 #[va,vb,A_ m] H fun r H'=>C_ (H_ H) H H'∧Mf a b Pl m H H' r:=by
 refine Ak.of_vc func23 rfl (call23 _) (Ae.mk (Qd g c d h i AdE) ?_);rintro r H1 ⟨e,f⟩;obtain⟨x,y,rfl⟩:=Mv f;(conv=>whnf);exact⟨e,f⟩
end
end
theorem L9{S:Nat→Prop}{H:Aa}{v:v_}{a:N_}{b:Int}(h:NfV S H v a)(l:b<1∨4096<b):
  BM prog 38 #[v,A_ b] H (.tuple #[.pointer none,A_ 2]):=by
 refine Ak.of_vc func38 rfl (call38 _) (R3 h fun m n c o=>?_);subst c;intro p H1 j d e f;have st1:=(St.nil H).box j d e f;by_cases i:b<1
 ·have g:decide (b<(1:Int))=true:=n_ i;(conv=>whnf);rw[g];(conv=>whnf);exact⟨rfl,st1.old⟩
 ·have g:decide (b<(1:Int))=false:=j_ i;have k:decide ((4096:Int)<b)=true:=e_;(conv=>whnf);rw[g];(conv=>whnf);rw[k];(conv=>whnf);exact⟨rfl,st1.old⟩
section
attribute [local irreducible] Bj Bd AP
noncomputable def KR(a:N_)(b:Int):Except Int (List (List Int)):=if b<1∨4096<b then .error 2 else match Zd a b.toNat with
 | none=>.error 40
 | some F=>.ok F
theorem Zb{a:N_}{b:Int}(h:b<1∨4096<b):KR a b= .error 2:=by unfold KR;rw[F_ h]
theorem Ac9{a:N_}{b:Nat}(c:1≤b)(d:b≤4096):KR a (b:Int)=match Zd a b with
 | none=>.error 40
 | some F=>.ok F:=by
 unfold KR;rw[D_ (by omega),U']
theorem Zc{a:N_}{b e:Int}(h:KR a b= .error e):e≠0∧0≤e∧e≤40:=by
 unfold KR at h;split at h
 ·injection h with h;omega
 ·split at h
  ·injection h with h;omega
  ·cases h
theorem AcA{a:N_}{b:Int}{F:List (List Int)}(h:KR a b= .ok F):∃m:Nat,b=(m:Int)∧1≤m∧m≤4096∧Zd a m=some F:=by
 unfold KR at h;split at h
 ·cases h
 ·rename_i d;refine⟨b.toNat,by omega,by omega,by omega,?_⟩;split at h
  ·cases h
  ·rename_i F' c;injection h with h
   rw[c,h]
end
section
attribute [local irreducible] Bj Bd AP Fz
section
variable{K:Type} [DecidableEq K]{step:K→Nat→K}{fin:K→Bool}{F:List K}
def paF(step:K→Nat→K)(fin:K→Bool)(F:List K):PA:=⟨F.length,fun q b=>((F[q]?).bind fun x=>F.findIdx? (·=step x b)).getD 0,fun q=>((F[q]?).map fin).getD false⟩
structure N4(step:K→Nat→K)(F:List K):Prop where
 nd:F.Nodup
 pos:1≤F.length
 cl:∀x∈F,∀b,b<256→step x b∈F
omit [DecidableEq K]in
theorem ZS{F:List K}(a:F.Nodup){t u:Nat}{x:K}(f:F[t]?=some x)(g:F[u]?=some x):t=u:=by
 have⟨b,c⟩:=O_.1 f;have⟨d,e⟩:=O_.1 g;rcases Ydo t u with h | h | h
 ·exact absurd (c.trans e.symm) (Ya9.1 a t u b d h)
 ·exact h
 ·exact absurd (e.trans c.symm) (Ya9.1 a u t d b h)
theorem SH{x:K}(h:x∈F):∃i,F.findIdx? (·=x)=some i∧F[i]?=some x:=by
 cases a:F.findIdx? (·=x)with
 | none=>rw[Ydu]at a;have:=a x h;simp at this
 | some i=>
   obtain⟨b,c,-⟩:=YcP.1 a;exact⟨i,rfl,by rw[N' b];simpa using c⟩
theorem UT(h:N4 step F){q b:Nat}{x:K}(a:F[q]?=some x)(c:b<256):F[(paF step fin F).st q b]?=some (step x b):=by
 have⟨i,d,f⟩:=SH (h.cl x (c_ a) b c);have e:(paF step fin F).st q b=i:=by
  show((F[q]?).bind fun x=>F.findIdx? (·=step x b)).getD 0=i;rw[a];show(F.findIdx? (·=step x b)).getD 0=i;rw[d];rfl
 rw[e];exact f
theorem US{q:Nat}{x:K}(a:F[q]?=some x):(paF step fin F).fi q=fin x:=by
 show((F[q]?).map fin).getD false=fin x;rw[a];rfl
theorem ZZ(h:N4 step F):(paF step fin F).Ok:=⟨h.pos,fun q b a c=>by
 have⟨x,d⟩:=Ac (l:=F) (k:=q) a;exact(O_.1 (UT (fin:=fin) h d c)).1⟩
theorem R7(h:N4 step F):∀(w:List Nat) (q:Nat) (x:K),Cg w→F[q]?=some x→F[(paF step fin F).run q w]?=some (w.foldl step x)
 | [],q,x,_,hx=>hx
 | b::w,q,x,hw,hx=>by
   rw[PA.run_cons];exact R7 h w _ _ (fun c a=>hw c (YbY _ a)) (UT h hx (hw b (by simp)))
theorem Ns{most:Nat}{start:K}(c:1≤most)(h:Fz most step start=some F):N4 step F∧F[0]?=some start∧F.length≤most:=by
 have⟨m,n,o,p⟩:=S9 c h;refine⟨⟨o,m,?_⟩,p,n⟩;unfold Fz at h;cases d:Fy most step (AiO 256) start with
 | none=>rw[d]at h;cases h
 | some z=>
   have⟨G,rows⟩:=z;rw[d]at h;simp only[YcK,AkU.injEq]at h;subst h;have e:=Jt c G.length G rows (QT c d) fun j r=>r;intro x s b g;have⟨q,i⟩:=YaI s;have⟨row,a⟩:=Ac (l:=rows) (k:=q) (by rw[e.rl];exact(O_.1 i).1);have f:=e.cols row (c_ a);have⟨t,u⟩:=Ac (l:=row) (k:=b) (by rw[f];simpa using g);exact c_ (e.ok q b row b t x a (YaR g) u i)
theorem SV{K':Type}{step':K'→Nat→K'}{fin':K'→Bool}{f:K→K'}(h:N4 step F)(c:∀x∈F,∀y∈F,f x=f y→x=y)(g:∀x∈F,∀b,b<256→step' (f x) b=f (step x b))(i:∀x∈F,fin' (f x)=fin x){s1:Int→Nat→Int}{f1:Int→Bool}
  (j:∀(q b:Nat) (x:K'),(F.map f)[q]?=some x→b<256→∃t:Nat,s1 (q:Int) b=(t:Int)∧(F.map f)[t]?=some (step' x b)) (m:∀(q:Nat) (x:K'),(F.map f)[q]?=some x→f1 (q:Int)=fin' x):
  (∀q b:Nat,q<F.length→b<256→s1 (q:Int) b=((paF step fin F).st q b:Int))∧∀q:Nat,q<F.length→f1 (q:Int)=(paF step fin F).fi q:=by
 constructor
 ·intro q b n e;have⟨x,a⟩:=Ac (l:=F) (k:=q) n;have d:=c_ a;have⟨t,r,e2⟩:=j q b (f x) (by rw[o_,a];rfl) e;rw[o_]at e2;have⟨y,o,p⟩:=YdD.1 e2;rw[g x d b e]at p;have s:y=step x b:=c y (c_ o) _ (h.cl x d b e) p;rw[s]at o;rw[r,ZS h.nd o (UT (fin:=fin) h a e)]
 ·intro q n;have⟨x,a⟩:=Ac (l:=F) (k:=q) n;rw[m q (f x) (by rw[o_,a];rfl),i x (c_ a),US a]
end
structure Fx(o:Option AM)(d:PA):Prop where
 n:stN o=d.n
 st:∀q b:Nat,q<d.n→b<256→As o (q:Int) b=(d.st q b:Int)
 fi:∀q:Nat,q<d.n→AY o (q:Int)=d.fi q
theorem Fx.run{o:Option AM}{d:PA}(h:Fx o d)(a:d.Ok):∀(w:List Nat) (q:Nat),q<d.n→Cg w→w.foldl (As o) (q:Int)=(d.run q w:Int)
 | [],q,_,_=>rfl
 | b::w,q,hq,hw=>by
   have e:=hw b (by simp);rw[Yc1,h.st q b hq e,PA.run_cons];exact Fx.run h a w _ (a.cl q b hq e) fun c f=>hw c (YbY _ f)
noncomputable def L8(b:Int)(a:N_):Except Int PA:=match KR a b with
 | .error e=>.error e
 | .ok F=>.ok (paF (BT a) (fun X=>decide (a.fin∈X)) F)
def I7(d1 d2:PA)(x:Nat×Nat)(c:Nat):Nat×Nat:=if c<256 then(d1.st x.1 c,d2.st x.2 c)else x
def prN(d1 d2:PA)(m:Nat):Option (List (Nat×Nat)):=Fz m (I7 d1 d2) (0,0)
def AcG(ends:Bool→Bool→Bool)(d1 d2:PA)(x:Nat×Nat):Bool:=ends (d1.fi x.1) (d2.fi x.2)
def prX(b:Int)(ends:Bool→Bool→Bool)(d1 d2:PA):Except Int PA:=if b<1∨4096<b then .error 2 else match prN d1 d2 b.toNat with
 | none=>.error 40
 | some F=>.ok (paF (I7 d1 d2) (AcG ends d1 d2) F)
noncomputable def FM(b:Int)(x:Nat×Except Int BR):Nat×Except Int PA:=BB x fun A s=>if 65536<A.u then(s,.error 40)else match L8 b ⟨A.u,A.p,A.q,A.es⟩with
 | .error e=>(s,.error e)
 | .ok d=>(max s d.n,.ok d)
noncomputable def DO(b:Int)(ends:Bool→Bool→Bool)(f g:Nat→Nat×Except Int PA)(s:Nat):Nat×Except Int N_:=BB (f s) fun d1 s1=>BB (g s1) fun d2 s2=>match prX b ends d1 d2 with
 | .error e=>(s2,.error e)
 | .ok d=>(max s2 d.n,.ok (AB d))
noncomputable def BL(b:Int):ReM→Nat→Nat→Nat×Except Int BR
 | .eps,n,s=>(s,.ok ⟨n,n+1,2,[AW n (n+1)]⟩)
 | .cls t,n,s=>(s,.ok ⟨n,n+1,2,[D2 n (n+1) t]⟩)
 | .cat x y,n,s=>BB (BL b x n s) fun A s1=>BB (BL b y (n+A.u) s1) fun C s2=>(s2,.ok (Us A C))
 | .alt x y,n,s=>BB (BL b x (n+1) s) fun A s1=>BB (BL b y (n+1+A.u) s1) fun C s2=>(s2,.ok (Ub n A C))
 | .star x,n,s=>BB (BL b x (n+1) s) fun A s1=>(s1,.ok (OS n A))
 | .and_ x y,n,s=>DD (DO b Pd (fun s=>FM b (BL b x 0 s)) (fun s=>FM b (BL b y 0 s)) s) n
 | .minus x y,n,s=>DD (DO b Pl (fun s=>FM b (BL b x 0 s)) (fun s=>FM b (BL b y 0 s)) s) n
noncomputable def LZ(b:Int):ReM→Nat→Nat×Except Int N_
 | .and_ x y,s=>DO b Pd (fun s=>FM b (BL b x 0 s)) (fun s=>FM b (BL b y 0 s)) s
 | .minus x y,s=>DO b Pl (fun s=>FM b (BL b x 0 s)) (fun s=>FM b (BL b y 0 s)) s
 | _,s=>(s,.error 2)
noncomputable def BN(b:Int)(r:ReM)(s:Nat):Nat×Except Int PA:=FM b (BL b r 0 s)
theorem Ef(b:Int):∀(r:ReM) (n s:Nat),BL b r n s=Bx (LZ b) r n s
 | .eps,n,s=>rfl
 | .cls t,n,s=>rfl
 | .cat x y,n,s=>by
   simp only[BL,Bx];rw[Ef b x n s]
   congr 1
   funext A s1;rw[Ef b y _ s1];rfl
 | .alt x y,n,s=>by
   simp only[BL,Bx];rw[Ef b x _ s]
   congr 1
   funext A s1;rw[Ef b y _ s1];rfl
 | .star x,n,s=>by
   simp only[BL,Bx];rw[Ef b x _ s];rfl
 | .and_ x y,n,s=>rfl
 | .minus x y,n,s=>rfl
theorem VJ{b:Int}{a:N_}{d:PA}(h:L8 b a= .ok d):∃F,KR a b= .ok F∧d=paF (BT a) (fun X=>decide (a.fin∈X)) F∧N4 (BT a) F∧F[0]?=some (M8 a)∧d.Ok∧(d.n:Int)≤b∧d.n≤4096:=by
 unfold L8 at h;cases c:KR a b with
 | error e=>rw[c]at h;cases h
 | ok F=>
   rw[c]at h;injection h with h
   obtain⟨m,rfl,g,k,i⟩:=AcA c;have⟨f,j,l⟩:=Ns g i;subst h;exact⟨F,rfl,rfl,f,j,ZZ f,by show(F.length:Int)≤(m:Int);omega,by show F.length≤4096;omega⟩
theorem SB{b:Int}{a:N_}{e:Int}(h:L8 b a= .error e):KR a b= .error e∧e≠0:=by
 unfold L8 at h;cases c:KR a b with
 | error d=>rw[c]at h;injection h with h;subst h;exact⟨rfl,(Zc c).1⟩
 | ok F=>rw[c]at h;cases h
section
variable{b:Int}{ends:Bool→Bool→Bool}
theorem O7{a c d:PA}(h:prX b ends a c= .ok d):∃F,prN a c b.toNat=some F∧d=paF (I7 a c) (AcG ends a c) F∧N4 (I7 a c) F∧F[0]?=some (0,0)∧d.Ok∧(d.n:Int)≤b∧d.n≤4096∧1≤b∧b≤4096:=by
 unfold prX at h;split at h
 ·cases h
 ·rename_i i;cases e:prN a c b.toNat with
  | none=>rw[e]at h;cases h
  | some F=>
    rw[e]at h;injection h with h
    have⟨f,g,j⟩:=Ns (by omega) e;subst h;exact⟨F,rfl,rfl,f,g,ZZ f,by show(F.length:Int)≤b;omega,by show F.length≤4096;omega,by omega,by omega⟩
theorem Np{a c:PA}{e:Int}(h:prX b ends a c= .error e):e=2∨e=40:=by
 unfold prX at h;split at h
 ·injection h with h;exact .inl h.symm
 ·cases d:prN a c b.toNat with
  | none=>rw[d]at h;injection h with h;exact .inr h.symm
  | some F=>rw[d]at h;cases h
end
theorem PA.edges_len(d:PA)(h:d.n≤4096):(d.edgesTo d.n).length≤16785408:=by
 have a:∀q k,(d.hopsTo q k).length≤k:=fun q k=>by
  unfold PA.hopsTo;have:=List.length_filterMap_le (fun t=>if(d.use t&&(d.set q t != 0#256))=true then some (D2 (d.place q) (d.place t) (d.set q t))else none) (AiO k);rwa [Ydv]at this
 have b:∀q,(d.endE q).length≤1:=fun q=>by unfold PA.endE;split<;>simp
 have c:∀k,(d.edgesTo k).length≤k*4097:=fun k=>by
  induction k with
  | zero=>simp[PA.edgesTo]
  | succ k f=>
    have e:d.edgesTo (k+1)=d.edgesTo k++(if d.use k=true then d.hopsTo k d.n++d.endE k else []):=by
     unfold PA.edgesTo;rw[YcW,YcV];simp
    rw[e,J_];have:=a k d.n;have:=b k;have:(if d.use k=true then d.hopsTo k d.n++d.endE k else []).length≤4097:=by
     split
     ·rw[J_];omega
     ·simp
    omega
 have:=c d.n;omega
theorem LG{d:PA}(h:d.n≤4096):(AB d).edges.length≤33554432:=by
 unfold AB;split
 ·exact YbA (PA.edges_len d h) (by decide)
 ·simp
theorem Bu{σ α β:Type}{x:σ×Except Int α}{f:α→σ→σ×Except Int β}{s:σ}{e:Int}(h:BB x f=(s,.error e)):x=(s,.error e)∨∃b a,x=(b,.ok a)∧f a b=(s,.error e):=by
 have⟨b,r⟩:=x;cases r with
 | error c=>
   have h:((b,.error c):σ×Except Int β)=(s,.error e):=h;cases h;exact .inl rfl
 | ok a=>exact .inr ⟨b,a,rfl,h⟩
theorem OO{b:Int}{ends:Bool→Bool→Bool}{f g:Nat→Nat×Except Int PA}{s m:Nat}{N:N_}(h:DO b ends f g s=(m,.ok N)):∃i a j c d,f s=(i,.ok a)∧g i=(j,.ok c)∧prX b ends a c= .ok d∧N=AB d∧m=max j d.n:=by
 have⟨i,a,o,p⟩:=AL h;have⟨j,c,q,k⟩:=AL p;cases l:prX b ends a c with
 | error e=>simp only[l]at k;cases k
 | ok d=>simp only[l]at k;cases k;exact⟨i,a,j,c,d,o,q,l,rfl,rfl⟩
theorem VP{b:Int}{x:Nat×Except Int BR}{g:Nat}{d:PA}(h:FM b x=(g,.ok d)):∃c A,x=(c,.ok A)∧A.u≤65536∧L8 b ⟨A.u,A.p,A.q,A.es⟩= .ok d∧g=max c d.n:=by
 have⟨c,A,i,a⟩:=AL h;split at a
 ·cases a
 ·rename_i j;cases f:L8 b ⟨A.u,A.p,A.q,A.es⟩with
  | error e=>simp only[f]at a;cases a
  | ok d=>simp only[f]at a;cases a;exact⟨c,A,i,by omega,f,rfl⟩
theorem TF(b:Int){ends:Bool→Bool→Bool}{f g:Nat→Nat×Except Int PA}{n s a:Nat}{e:Int}(c:∀s a e,f s=(a,.error e)→e≠0)(d:∀s a e,g s=(a,.error e)→e≠0)(h:DD (DO b ends f g s) n=(a,.error e)):e≠0:=by
 rcases Bu (show BB _ _=_ from h)with h | ⟨i,N,-,h⟩
 ·rcases Bu (show BB _ _=_ from h)with h | ⟨i,k,-,h⟩
  ·exact c _ _ _ h
  ·rcases Bu h with h | ⟨l,m,-,h⟩
   ·exact d _ _ _ h
   ·split at h
    ·rename_i j;cases h;rcases Np j with h | h<;>omega
    ·cases h
 ·split at h
  ·cases h
  ·cases h;decide
mutual
theorem Ge(b:Int):∀(r:ReM) (n s a:Nat) (e:Int),BL b r n s=(a,.error e)→e≠0
 | .eps,n,s,a,e,h=>by cases h
 | .cls t,n,s,a,e,h=>by cases h
 | .cat x y,n,s,a,e,h=>by
   simp only[BL]at h;rcases Bu h with h | ⟨c,A,-,h⟩
   ·exact Ge b x _ _ _ _ h
   ·rcases Bu h with h | ⟨d,C,-,h⟩
    ·exact Ge b y _ _ _ _ h
    ·cases h
 | .alt x y,n,s,a,e,h=>by
   simp only[BL]at h;rcases Bu h with h | ⟨c,A,-,h⟩
   ·exact Ge b x _ _ _ _ h
   ·rcases Bu h with h | ⟨d,C,-,h⟩
    ·exact Ge b y _ _ _ _ h
    ·cases h
 | .star x,n,s,a,e,h=>by
   simp only[BL]at h;rcases Bu h with h | ⟨c,A,-,h⟩
   ·exact Ge b x _ _ _ _ h
   ·cases h
 | .and_ x y,n,s,a,e,h=>by
   simp only[BL]at h;exact TF b (fun s a e=>BO b x s a e) (fun s a e=>BO b y s a e) h
 | .minus x y,n,s,a,e,h=>by
   simp only[BL]at h;exact TF b (fun s a e=>BO b x s a e) (fun s a e=>BO b y s a e) h
theorem BO(b:Int):∀(r:ReM) (s c:Nat) (e:Int),BN b r s=(c,.error e)→e≠0:=fun r s c e h=>by
 rcases Bu (show BB _ _=_ from h)with h | ⟨f,A,-,h⟩
 ·exact Ge b r _ _ _ _ h
 ·split at h
  ·cases h;decide
  ·cases a:L8 b ⟨A.u,A.p,A.q,A.es⟩with
   | error e=>simp only[a]at h;cases h;exact(SB a).2
   | ok d=>simp only[a]at h;cases h
end
theorem FB{l:List Nat}:∀{r:ReM} {i j:Nat},Mt l r i j→i≤j∧(j≤l.length∨j=i)
 | .eps,i,j,h=>by rw[show i=j from h];exact⟨I_ _,.inr rfl⟩
 | .cls s,i,j,⟨c,h1,_,h3⟩=>by have:=(O_.1 h1).1;omega
 | .cat a b,i,j,⟨k,h1,d⟩=>by have:=FB h1;have:=FB d;omega
 | .alt a b,i,j,h=>by
   rcases h with h | h
   ·exact FB h
   ·exact FB h
 | .star a,i,j,h=>by
   replace h:DY (Mt l a) i j:=h
   induction h with
   | refl=>exact⟨I_ _,.inr rfl⟩
   | step _ d e=>have:=FB d;omega
 | .and_ a b,i,j,h=>FB h.1
 | .minus a b,i,j,h=>FB h.1
theorem Yx{es:List Y'}{l:List Nat}{p q:Int}{i j:Nat}(h:Pth es l p i q j):i≤j∧(j≤l.length∨j=i):=by
 induction h with
 | refl=>exact⟨I_ _,.inr rfl⟩
 | sil _ _ _ _ a=>exact a
 | eat _ _ _ _ b _ a=>have:=(O_.1 b).1;omega
def L0(w l:List Nat)(d m:Nat):Prop:=∀k,k<m→w[k]?=l[k+d]?
theorem DF{w l:List Nat}{d m:Nat}(n:L0 w l d m):∀{r:ReM} {i j:Nat},i≤j→j≤m→(Mt w r i j↔Mt l r (i+d) (j+d))
 | .eps,i,j,hi,f=>by
   show i=j↔i+d=j+d;omega
 | .cls s,i,j,hi,f=>by
   constructor
   ·rintro⟨c,o,g,rfl⟩;exact⟨c,by rw[←n i (by omega)];exact o,g,by omega⟩
   ·rintro⟨c,o,g,y⟩;obtain rfl:j=i+1:=by omega
    exact⟨c,by rw[n i (by omega)];exact o,g,rfl⟩
 | .cat a b,i,j,hi,f=>by
   constructor
   ·rintro⟨k,o,g⟩;have v:=(FB o).1;have q:=(FB g).1;exact⟨k+d,(DF n v (by omega)).1 o,(DF n q f).1 g⟩
   ·rintro⟨k,o,g⟩;have v:=(FB o).1;have q:=(FB g).1;obtain⟨p,rfl⟩:∃p,k=p+d:=⟨k-d,by omega⟩;exact⟨p,(DF n (by omega) (by omega)).2 o,(DF n (by omega) f).2 g⟩
 | .alt a b,i,j,hi,f=>or_congr (DF n hi f) (DF n hi f)
 | .star a,i,j,hi,f=>by
   constructor
   ·intro h;replace h:DY (Mt w a) i j:=h;show DY (Mt l a) (i+d) (j+d);clear hi
    induction h with
    | refl=>exact .refl
    | @step k j o g t=>
      have q:=(FB g).1;exact .step (t (by omega)) ((DF n q f).1 g)
   ·intro h;replace h:DY (Mt l a) (i+d) (j+d):=h;show DY (Mt w a) i j;have x:∀u,DY (Mt l a) (i+d) u→∀j,u=j+d→j≤m→DY (Mt w a) i j:=by
     intro u h
     induction h with
     | refl=>intro j e _;obtain rfl:i=j:=by omega
             exact .refl
     | @step k u o g t=>
       intro j e f;subst e;have q:=(FB g).1;have v:i+d≤k:=by
        clear t g q
        induction o with
        | refl=>exact I_ _
        | step _ g t=>have:=(FB g).1;omega
       obtain⟨p,rfl⟩:∃p,k=p+d:=⟨k-d,by omega⟩;exact .step (t p rfl (by omega)) ((DF n (by omega) f).2 g)
    exact x _ h j rfl f
 | .and_ a b,i,j,hi,f=>and_congr (DF n hi f) (DF n hi f)
 | .minus a b,i,j,hi,f=>and_congr (DF n hi f) (not_congr (DF n hi f))
theorem Yy{es:List Y'}{w l:List Nat}{d m:Nat}(s:L0 w l d m){p q:Int}{i j:Nat}(n:j≤m):Pth es w p i q j↔Pth es l p (i+d) q (j+d):=by
 constructor
 ·intro h
  induction h with
  | refl=>exact .refl
  | sil _ a b f g=>exact .sil (g n) a b f
  | @eat q j c e _ a b f h4 h5 g=>
    have:=Pth.eat (g (by omega)) a b f (by rw[←s j (by omega)];exact h4) h5;rwa [show j+d+1=j+1+d by omega]at this
 ·intro h;have r:∀q o,Pth es l p (i+d) q o→∀j,o=j+d→j≤m→Pth es w p i q j:=by
   intro q o h
   induction h with
   | refl=>
     intro j e _;obtain rfl:i=j:=by omega
     exact .refl
   | sil _ a b f g=>exact fun j e n=>.sil (g j e n) a b f
   | @eat q o c e h0 a b f h4 h5 g=>
     intro j t n;have u:=(Yx h0).1;obtain⟨k,rfl⟩:∃k,j=k+1:=⟨j-1,by omega⟩;obtain rfl:o=k+d:=by omega
     exact .eat (g k rfl (by omega)) a b f (by rw[s k (by omega)];exact h4) h5
  exact r _ _ h j rfl n
theorem L0.of(l:List Nat)(i j:Nat)(a:i≤j)(c:j≤l.length∨j=i):L0 ((l.drop i).take (j-i)) l i (j-i)∧((l.drop i).take (j-i)).length=j-i:=by
 refine⟨fun k b=>?_,?_⟩
 ·rw[YaK,F_ b,Yd5,Nat.add_comm]
 ·rw[YaW,List.length_drop];omega
theorem AfY{es:List Y'}{l:List Nat}{p q:Int}{i j:Nat}(n:Int):Pth (es.map (shE n)) l (p+n) i (q+n) j↔Pth es l p i q j:=by
 have hs:∀e:Y',(shE n e).sil=e.sil:=fun e=>rfl;constructor
 ·intro h;have k:∀x j,Pth (es.map (shE n)) l (p+n) i x j→∃q,x=q+n∧Pth es l p i q j:=by
   intro x j h
   induction h with
   | refl=>exact⟨p,rfl,.refl⟩
   | sil _ f a d b=>
     obtain⟨q,rfl,b⟩:=b;obtain⟨e,m,rfl⟩:=I'.1 f;have d:e.fr+n=q+n:=d;exact⟨e.to,rfl,.sil b m a (by omega)⟩
   | eat _ f a d o g b=>
     obtain⟨q,rfl,b⟩:=b;obtain⟨e,m,rfl⟩:=I'.1 f;have d:e.fr+n=q+n:=d;have a:e.sil=false:=a;have r:(shE n e).set=e.set:=by unfold shE;rw[a];rfl
     rw[r]at g;exact⟨e.to,rfl,.eat b m a (by omega) o g⟩
  have⟨s,e,t⟩:=k _ _ h;obtain rfl:q=s:=by omega
  exact t
 ·intro h
  induction h with
  | refl=>exact .refl
  | sil _ f a d b=>exact .sil (e:=shE n _) b (Yd3 f) a (by show _+n=_+n;rw[d])
  | @eat q j c e _ f a d o g b=>
    have r:(shE n e).set=e.set:=by unfold shE;rw[a];rfl
    exact .eat (e:=shE n e) b (Yd3 f) a (by show e.fr+n=_+n;rw[d]) o (by rw[r];exact g)
theorem M2{σ:Type}{x:σ×Except Int N_}{n:Nat}{c:σ}{A:BR}(h:DD x n=(c,.ok A)):∀e∈A.es,((n:Nat):Int)≤e.fr∧e.fr<((n+A.u:Nat):Int)∧((n:Nat):Int)≤e.to∧e.to<((n+A.u:Nat):Int):=by
 intro e d;have⟨j,N,l,a⟩:=AL h;split at a
 ·rename_i f;cases a;obtain⟨-,-,g⟩:=GE.1 f;obtain⟨i,b,rfl⟩:=I'.1 d;have k:=g i b;have m:=N_.has_iff.1 k.1;have o:=N_.has_iff.1 k.2;simp only[shE];omega
 ·cases a
theorem DI{σ:Type}{sub:ReM→σ→σ×Except Int N_}{E:Nat}(d:Sa sub E):∀(r:ReM) (n:Nat) (s f:σ) (A:BR),Bx sub r n s=(f,.ok A)→∀e∈A.es,((n:Nat):Int)≤e.fr∧e.fr<((n+A.u:Nat):Int)∧((n:Nat):Int)≤e.to∧e.to<((n+A.u:Nat):Int)
 | .eps,n,s,f,A,h,e,c=>by
   cases h;rcases Y_.1 c with rfl;simp only[AW];omega
 | .cls t,n,s,f,A,h,e,c=>by
   cases h;rcases Y_.1 c with rfl;simp only[D2];omega
 | .cat a b,n,s,f,A,h,e,c=>by
   have⟨l,A1,g,i⟩:=AL h;have⟨o,A2,j,k⟩:=AL i;cases k;have m:=BS d a _ _ _ _ g;have p:=BS d b _ _ _ _ j;simp only[q_,Y_]at c;rcases c with(c | c) | rfl
   ·have:=DI d a _ _ _ _ g e c;dsimp only;omega
   ·have:=DI d b _ _ _ _ j e c;dsimp only;omega
   ·simp only[AW];omega
 | .alt a b,n,s,f,A,h,e,c=>by
   have⟨l,A1,g,i⟩:=AL h;have⟨o,A2,j,k⟩:=AL i;cases k;have m:=BS d a _ _ _ _ g;have p:=BS d b _ _ _ _ j;simp only[q_,YaP,Yc4,or_false]at c;rcases c with(c | c) | rfl | rfl | rfl | rfl
   ·have:=DI d a _ _ _ _ g e c;dsimp only;omega
   ·have:=DI d b _ _ _ _ j e c;dsimp only;omega
   all_goals simp only[AW];omega
 | .star a,n,s,f,A,h,e,c=>by
   have⟨l,A1,g,i⟩:=AL h;cases i;have m:=BS d a _ _ _ _ g;simp only[q_,YaP,Yc4,or_false]at c;rcases c with c | rfl | rfl | rfl | rfl
   ·have:=DI d a _ _ _ _ g e c;dsimp only;omega
   all_goals simp only[AW];omega
 | .and_ a b,n,s,f,A,h,e,c=>M2 (show DD _ n=_ from h) e c
 | .minus a b,n,s,f,A,h,e,c=>M2 (show DD _ n=_ from h) e c
theorem XJ(a:N_)(w:List Nat):w.foldl (BT a) (M8 a)=UZ a w:=by
 have c:∀k,k≤w.length→(w.take k).foldl (BT a) (M8 a)=UZ a (w.take k):=by
  intro k
  induction k with
  | zero=>intro _;rfl
  | succ k f=>
    intro g;obtain⟨b,d⟩:∃b,w[k]?=some b:=⟨_,N' (by omega)⟩;have e:(fun q=>q∈UZ a (w.take k))=MC a (w.take k):=funext fun q=>propext (Tt a _ q);have hs:BT a (UZ a (w.take k)) b=UZ a (w.take (k+1)):=by
     unfold BT;rw[e,←LT,←Af d];rfl
    rw[←hs,←f (by omega),Af d,Ybh];rfl
 have:=c w.length (I_ _);rwa [Yc0]at this
theorem Ze{b:Int}{a:N_}{d:PA}(h:L8 b a= .ok d){w:List Nat}(e:Cg w):d.fi (d.run 0 w)=WV a w:=by
 obtain⟨F,i,rfl,f,g,j,-,-⟩:=VJ h;have c:=R7 (fin:=fun X=>decide (a.fin∈X)) f w 0 _ e g;rw[XJ]at c;rw[US c];show decide (a.fin∈UZ a w)=WV a w;rw[YcN,Zzj,KM,Tt]
theorem Qw(a b:PA):∀(w:List Nat) (x:Nat×Nat),Cg w→w.foldl (I7 a b) x=(a.run x.1 w,b.run x.2 w)
 | [],x,_=>rfl
 | c::w,x,hw=>by
   have d:=hw c (by simp);rw[Yc1,Qw a b w _ fun y e=>hw y (YbY _ e)];unfold I7;rw[F_ d]<;>rfl
theorem AdZ{b:Int}{ends:Bool→Bool→Bool}{a c d:PA}(h:prX b ends a c= .ok d){w:List Nat}(e:Cg w):d.fi (d.run 0 w)=ends (a.fi (a.run 0 w)) (c.fi (c.run 0 w)):=by
 obtain⟨F,j,rfl,g,i,k,-,-,-,-⟩:=O7 h;have f:=R7 (fin:=AcG ends a c) g w 0 _ e i;rw[Qw _ _ _ _ e]at f;rw[US f];rfl
theorem AbN{A:BR}{w:List Nat}(c:A.u≤65536)(d:A.p<A.u)(f:A.q<A.u)(b:∀e∈A.es,(0:Int)≤e.fr∧e.fr<(A.u:Int)∧(0:Int)≤e.to∧e.to<(A.u:Int)):WV ⟨A.u,A.p,A.q,A.es⟩ w=true↔Pth A.es w (A.p:Int) 0 (A.q:Int) w.length:=by
 rw[KM];constructor
 ·intro h;exact Nq (a:=⟨A.u,A.p,A.q,A.es⟩) (I_ _) _ (by rw[Yc0];exact h)
 ·intro h;have:=(RJ (a:=⟨A.u,A.p,A.q,A.es⟩) (N_.has_iff.2 ⟨by show(0:Int)≤(A.p:Int);omega,by show(A.p:Int)<(A.u:Int);omega,by show(A.u:Int)≤65536;omega⟩) (fun e h=>N_.has_iff.2 ⟨(b e h).2.2.1,(b e h).2.2.2,by show(A.u:Int)≤65536;omega⟩) h).2;rwa [Yc0]at this
theorem Xw{d:PA}(h:d.Ok)(j:d.n≤4096){w:List Nat}(a:Cg w):Pth (AB d).edges w (AB d).start 0 (AB d).fin w.length↔d.fi (d.run 0 w)=true:=by
 rw[←Xu h (by omega) a,KM];have⟨b,k,c⟩:=PN (d:=d) (by omega);constructor
 ·intro f;have:=(RJ b (fun e g=>(c e g).2) f).2;rwa [Yc0]at this
 ·intro i;exact Nq (I_ _) _ (by rw[Yc0];exact i)
theorem Xv(d:PA):(AB d).start=(((AB d).start.toNat:Nat):Int)∧(AB d).fin=(((AB d).fin.toNat:Nat):Int):=by
 unfold AB;split
 ·exact⟨rfl,by show(d.count:Int)=((d.count:Int).toNat:Int);omega⟩
 ·exact⟨rfl,rfl⟩
theorem J8(b:Int):Sa (LZ b) 33554432:=by
 have i:∀{ends:Bool→Bool→Bool} {f g:Nat→Nat×Except Int PA} {s c:Nat} {N:N_},DO b ends f g s=(c,.ok N)→N.edges.length≤33554432:=fun h=>by
  obtain⟨k,l,m,n,d,u,v,o,rfl,w⟩:=OO h;exact LG (O7 o).choose_spec.2.2.2.2.2.2.1
 have j:∀{ends:Bool→Bool→Bool} {f g:Nat→Nat×Except Int PA} {s c:Nat} {e:Int},(∀s c e,f s=(c,.error e)→e≠0)→(∀s c e,g s=(c,.error e)→e≠0)→DO b ends f g s=(c,.error e)→e≠0:=fun p q h=>by
  rcases Bu h with h | ⟨k,l,-,h⟩
  ·exact p _ _ _ h
  ·rcases Bu h with h | ⟨m,n,-,h⟩
   ·exact q _ _ _ h
   ·split at h
    ·rename_i t;cases h;rcases Np t with h | h<;>omega
    ·cases h
 refine⟨fun r s c a h=>?_,fun r s c e h=>?_⟩
 ·cases r with
  | and_ x y=>exact i (show DO b Pd (fun s=>FM b (BL b x 0 s)) (fun s=>FM b (BL b y 0 s)) _=_ from h)
  | minus x y=>exact i (show DO b Pl (fun s=>FM b (BL b x 0 s)) (fun s=>FM b (BL b y 0 s)) _=_ from h)
  | _=>cases h
 ·cases r with
  | and_ x y=>exact j (fun s c e h=>BO b x s c e h) (fun s c e h=>BO b y s c e h) (show DO b Pd (fun s=>FM b (BL b x 0 s)) (fun s=>FM b (BL b y 0 s)) _=_ from h)
  | minus x y=>exact j (fun s c e h=>BO b x s c e h) (fun s c e h=>BO b y s c e h) (show DO b Pl (fun s=>FM b (BL b x 0 s)) (fun s=>FM b (BL b y 0 s)) _=_ from h)
  | _=>cases h;decide
section
variable{b:Int}{r:ReM}{n s a:Nat}{A:BR}
theorem HE(h:BL b r n s=(a,.ok A)):n≤A.p∧A.p<n+A.u∧n≤A.q∧A.q<n+A.u:=by
 rw[Ef]at h;have:=BS (J8 b) r n s a A h;omega
theorem Ew(h:BL b r n s=(a,.ok A)):∀e∈A.es,((n:Nat):Int)≤e.fr∧e.fr<((n+A.u:Nat):Int)∧((n:Nat):Int)≤e.to∧e.to<((n+A.u:Nat):Int):=by
 rw[Ef]at h;exact DI (J8 b) r n s a A h
end
theorem Jb{b:Int}{r:ReM}{s a:Nat}{d:PA}(h:FM b (BL b r 0 s)=(a,.ok d)){w:List Nat}(f:Cg w)(g:∀(s a:Nat) (A:BR),BL b r 0 s=(a,.ok A)→∀i j,Pth A.es w (A.p:Int) i (A.q:Int) j↔Mt w r i j):d.fi (d.run 0 w)=true↔Mt w r 0 w.length:=by
 have⟨o,A,c,k,l,t⟩:=VP h;have u:=HE c;have m:=Ew c;rw[Ze l f,AbN k (by omega) (by omega) (fun e n=>by have:=m e n;omega)];exact g _ _ _ c 0 w.length
theorem WD{b:Int}{ends:Bool→Bool→Bool}{f g:Nat→Nat×Except Int PA}{n s o:Nat}{A:BR}{P Q:List Nat→Prop}(h:DD (DO b ends f g s) n=(o,.ok A))(G:∀s o d,f s=(o,.ok d)→∀w,Cg w→(d.fi (d.run 0 w)=true↔P w))(H:∀s o d,g s=(o,.ok d)→∀w,Cg w→(d.fi (d.run 0 w)=true↔Q w))
  (l:List Nat) (I:Cg l) (i j:Nat):Pth A.es l (A.p:Int) i (A.q:Int) j↔i≤j∧(j≤l.length∨j=i)∧∃x y,(x=true↔P ((l.drop i).take (j-i)))∧(y=true↔Q ((l.drop i).take (j-i)))∧ends x y=true:=by
 have⟨W,N,J,z⟩:=AL h;obtain⟨X,C,Y,D,d,K,L,E,rfl,-⟩:=OO J;obtain⟨-,-,-,-,-,B,-,M,-,-⟩:=O7 E;have⟨O,e2⟩:=Xv d;split at z
 ·rename_i Z;cases z;dsimp only;rw[show((n+(AB d).start.toNat:Nat):Int)=(AB d).start+(n:Int) by rw[O];omega,show((n+(AB d).fin.toNat:Nat):Int)=(AB d).fin+(n:Int) by rw[e2];omega,AfY];have a:∀(k:i≤j) (F:j≤l.length∨j=i),Pth (AB d).edges l (AB d).start i (AB d).fin j↔∃x y,(x=true↔P ((l.drop i).take (j-i)))∧(y=true↔Q ((l.drop i).take (j-i)))∧ends x y=true:=by
   intro k F;have⟨m,e⟩:=L0.of l i j k F;have r:Cg ((l.drop i).take (j-i)):=fun c R=>I c (List.mem_of_mem_drop (Ydg R));generalize (l.drop i).take (j-i)=w at m e r;have t:=Yy (es:=(AB d).edges) m (p:=(AB d).start) (q:=(AB d).fin) (i:=0) (j:=j-i) (I_ _);rw[K_,YdC k,←e]at t;rw[←t,Xw B M r,AdZ E r];have p1:=G _ _ _ K w r;have p2:=H _ _ _ L w r;constructor
   ·intro h;exact⟨_,_,p1,p2,h⟩
   ·rintro⟨x,y,S,T,h⟩;have U:C.fi (C.run 0 w)=x:=by rw[YcN,p1,S]
    have V:D.fi (D.run 0 w)=y:=by rw[YcN,p2,T]
    rw[U,V];exact h
  constructor
  ·intro m;have⟨u,v⟩:=Yx m;exact⟨u,v,(a u v).1 m⟩
  ·rintro⟨u,v,m⟩;exact(a u v).2 m
 ·cases z
theorem Hl{l:List Nat}{r:ReM}{i j:Nat}(a:i≤j)(c:j≤l.length∨j=i):Mt ((l.drop i).take (j-i)) r 0 ((l.drop i).take (j-i)).length↔Mt l r i j:=by
 have⟨d,b⟩:=L0.of l i j a c;rw[b];have:=DF d (r:=r) (i:=0) (j:=j-i) (t_ _) (I_ _);rw[K_,YdC a]at this;exact this
theorem Eg(b:Int):∀(r:ReM) (n s e:Nat) (A:BR),BL b r n s=(e,.ok A)→∀(l:List Nat),Cg l→∀i j,Pth A.es l (A.p:Int) i (A.q:Int) j↔Mt l r i j
 | .eps,n,s,e,A,h,l,hl,i,j=>by cases h;exact GC l .eps rfl n i j
 | .cls t,n,s,e,A,h,l,hl,i,j=>by cases h;exact GC l (.cls t) rfl n i j
 | .cat x y,n,s,e,A,h,l,hl,i,j=>by
   have⟨C,A1,a,f⟩:=AL (show BB _ _=_ from h);have⟨D,A2,c,B⟩:=AL f;cases B;exact Ag8 (HE a) (HE c) (Ew a) (Ew c) (Eg b x _ _ _ _ a l hl) (Eg b y _ _ _ _ c l hl) i j
 | .alt x y,n,s,e,A,h,l,hl,i,j=>by
   have⟨C,A1,a,f⟩:=AL (show BB _ _=_ from h);have⟨D,A2,c,B⟩:=AL f;cases B;exact Ag2 (HE a) (HE c) (Ew a) (Ew c) (Eg b x _ _ _ _ a l hl) (Eg b y _ _ _ _ c l hl) i j
 | .star x,n,s,e,A,h,l,hl,i,j=>by
   have⟨C,A1,a,f⟩:=AL (show BB _ _=_ from h);cases f;exact AeG (HE a) (Ew a) (Eg b x _ _ _ _ a l hl) i j
 | .and_ x y,n,s,e,A,h,l,hl,i,j=>by
   rw[WD (P:=fun w=>Mt w x 0 w.length) (Q:=fun w=>Mt w y 0 w.length) (show DD (DO b Pd _ _ s) n=_ from h) (fun s e d o w g=>Jb o g fun s e A z=>Eg b x _ _ _ _ z w g) (fun s e d o w g=>Jb o g fun s e A z=>Eg b y _ _ _ _ z w g) l hl i j];constructor
   ·rintro⟨k,m,u,v,a,f,c⟩;rw[Hl k m]at a f;have c:(u&&v)=true:=c;rw[r_]at c;exact⟨a.1 c.1,f.1 c.2⟩
   ·rintro⟨a,f⟩;have⟨k,m⟩:=FB a;exact⟨k,m,true,true,by rw[Hl k m];simp[a],by rw[Hl k m];simp[f],rfl⟩
 | .minus x y,n,s,e,A,h,l,hl,i,j=>by
   rw[WD (P:=fun w=>Mt w x 0 w.length) (Q:=fun w=>Mt w y 0 w.length) (show DD (DO b Pl _ _ s) n=_ from h) (fun s e d o w g=>Jb o g fun s e A z=>Eg b x _ _ _ _ z w g) (fun s e d o w g=>Jb o g fun s e A z=>Eg b y _ _ _ _ z w g) l hl i j];constructor
   ·rintro⟨k,m,u,v,a,f,c⟩;rw[Hl k m]at a f;have c:(u&& !v)=true:=c;rw[r_]at c;refine⟨a.1 c.1,fun B=>?_⟩;rw[f.2 B]at c;exact absurd c.2 (by decide)
   ·rintro⟨a,f⟩;have⟨k,m⟩:=FB a;exact⟨k,m,true,false,by rw[Hl k m];simp[a],by rw[Hl k m];simp[f],rfl⟩
section
variable{b:Int}{r:ReM}{s a:Nat}{d:PA}
theorem Ur(h:BN b r s=(a,.ok d)){w:List Nat}(c:Cg w):d.fi (d.run 0 w)=true↔Mt w r 0 w.length:=
 Jb h c fun s a A e=>Eg b r _ _ _ _ e w c
theorem Hs(h:BN b r s=(a,.ok d)):d.Ok∧(d.n:Int)≤b∧d.n≤4096:=by
 have⟨i,A,j,k,c,l⟩:=VP h;obtain⟨F,-,-,-,-,e,f,g⟩:=VJ c;exact⟨e,f,g⟩
end
end
end Go.Proofs.YtfbghcpdinlmcaaGreatDoor
