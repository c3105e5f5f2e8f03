import Derived.Test.YtjbnocjgdmnkoaaGreatDoorKBy5
import Derived.Laws.Strings
set_option maxHeartbeats 100000000
open Bool renaming noConfusion -> ApV
open List renaming replicate -> Aq4
set_option maxRecDepth 100000
open Go.Proofs.Tryz
open Go renaming Value -> v_, TypeId -> x_, World -> y_, Program -> w_
open Option renaming some -> zY, none -> zV
open Bool renaming true -> zW, false -> zU
open Decidable renaming decide -> zT
set_option linter.unusedVariables false
set_option linter.unusedSimpArgs false
set_option linter.defProp false
namespace Go.Proofs.YtjbnocjgdmnkoaaGreatDoor
variable{p b c g:Nat}{n:Option ReM}{t w:ByteArray}{B C:Nat->Prop}{H H0 H':Aa}{qs:List Pc}{q:Pc}{ts:List Tk}{f:AF}{os:List Int}{fs:List AF}{K:v_->Prop}{T:x_}{v0:v_}{u:List v_}{p' N:Int}
abbrev F3:=Nat×Nat×List Nat
def l_{α β:Type}(x:F3 ⊕ α)(f:α->F3 ⊕ β):F3 ⊕ β:=match x with
 | .inl e=>.inl e
 | .inr a=>f a
def zS(c p:Nat):Option (List Nat)->F3 ⊕ Unit | some w=>.inl (c,p,w)| none=>.inr ()
def uP(x:Bool)(c p:Nat):F3 ⊕ Unit:=if x then .inr ()else .inl (c,p,[])
noncomputable def bld(b:Nat)(r:ReM)(p:Nat):F3 ⊕ Unit:=if Br r<=b then .inr ()else .inl (40,p,[])
inductive QuM where
 | nil
 | mk (t:Tm) (o i:ReM) (a b:QuM)
def QuM.o:QuM->ReM | .nil=>.eps | .mk _ o _ _ _=>o
def QuM.i:QuM->ReM | .nil=>.eps | .mk _ _ i _ _=>i
inductive LnM where
 | nil
 | mk (t:Tm) (s v:ReM) (q:QuM) (a b:LnM)
def LnM.s:LnM->ReM | .nil=>.eps | .mk _ s _ _ _ _=>s
def LnM.v:LnM->ReM | .nil=>.eps | .mk _ _ v _ _ _=>v
def Tm.lop:Tm->LO | .le _ op _ _ _ _ _=>op | _=>.copy
def EU:LnM->Bool | .nil=>zU | .mk t _ _ _ a b=>match t.lop with | .left=>zW | .chain=>EU a | _=>EU a|| EU b
def Cl:LnM->Bool | .nil=>zU | .mk t _ _ _ a b=>match t.lop with | .right=>zW | .chain=>Cl b | _=>Cl a|| Cl b
def GQ:LnM->Bool | .nil=>zU | .mk t _ _ _ a b=>match t.lop with | .key=>zW | .chain=>GQ b | _=>GQ a|| GQ b
noncomputable def Db:QuM->Nat | .nil=>0 | .mk _ o i a b=>max (max (max (Br o) (Br i)) (Db a)) (Db b)
noncomputable def Bq:LnM->Nat | .nil=>0 | .mk _ s v q a b=>max (max (max (max (Br s) (Br v)) (Db q)) (Bq a)) (Bq b)
def lO(s:BitVec 256):BitVec 256:=(List.range 26).foldl (λo k=>if s.getLsbD (97+k)then o ||| AR (65+k) (65+k)else o) (s &&& ~~~ AR 65 90)
def FQ:ReM->ReM | .cls s=>.cls (lO s)| .cat a b=>.cat (FQ a) (FQ b)| .alt a b=>.alt (FQ a) (FQ b)| .and_ a b=>.and_ (FQ a) (FQ b)| .minus a b=>.minus (FQ a) (FQ b)| .star a=>.star (FQ a)| .eps=>.eps
def HO:∀r:ReM,(FQ r).nodes=r.nodes | .cls s | .eps=>rfl | .cat a b | .alt a b | .and_ a b | .minus a b=>by unfold FQ ReM.nodes;rw[HO a,HO b]| .star a=>by unfold FQ ReM.nodes;rw[HO a]
def YT:Option AM:=DE [~~~ AR 65 90,AR 65 90] [[0,1],[1,1]] [zU,zW]
noncomputable def mW(r:ReM):Option (List Nat):=Gx (FC (MD r) YT)
def nO(n:Option ReM):ReM:=n.getD .eps
noncomputable def oL(p:Nat)(op:CO)(n:Option ReM)(to:ByteArray)(A C:QuM):F3 ⊕ (ReM×ReM):=match op with
 | .id=>.inr (nO n,nO n)
 | .norm=>.inr (nO n,AH (zI to))
 | .fold=>.inr (FQ (nO n),nO n)
 | .cat=>l_ (zS 81 p (ME A.o C.o)) λ_=>l_ (zS 82 p (ME A.i C.i)) λ_=>.inr (.cat A.o C.o,.cat A.i C.i)
 | .alt=>l_ (zS 85 p (JI A.o C.o)) λ_=>.inr (.alt A.o C.o,.alt A.i C.i)
 | .star=>l_ (zS 83 p (iterW A.o)) λ_=>l_ (zS 84 p (iterW A.i)) λ_=>.inr (.star A.o,.star A.i)
noncomputable def mG(p:Nat)(op:CO)(back:ByteArray)(o i:ReM):F3 ⊕ Unit:=match op with
 | .norm=>uP (Kf o back) 80 p
 | .fold=>zS 90 p (mW i)
 | _=>.inr ()
noncomputable def D5(b:Nat):Tm->F3 ⊕ QuM | .ca p op n to back x y=>l_ (D5 b x) λA=>l_ (D5 b y) λC=>l_ (oL p op n to A C) λr=>l_ (bld b r.1 p) λ_=>l_ (bld b r.2 p) λ_=>l_ (mG p op back r.1 r.2) λ_=>.inr (.mk (.ca p op n to back x y) r.1 r.2 A C)| _=>.inr .nil
noncomputable def typ(b p:Nat)(s v:ReM):F3 ⊕ (ReM×ReM):=l_ (bld b s p) λ_=>l_ (bld b v p) λ_=>.inr (s,v)
noncomputable def catT(b p:Nat)(s v1 v2:ReM)(A C:LnM):F3 ⊕ (ReM×ReM):=l_ (zS 81 p (ME A.s C.s)) λ_=>l_ (zS 82 p (ME v1 v2)) λ_=>typ b p s (.cat v1 v2)
noncomputable def zR(b p:Nat)(op:LO)(n:Option ReM)(w:ByteArray)(q:QuM)(A C:LnM):F3 ⊕ (ReM×ReM):=match op with
 | .copy | .key=>typ b p (nO n) (nO n)
 | .del=>l_ (typ b p (nO n) .eps) λr=>l_ (uP (Kf (nO n) w) 80 p) λ_=>.inr r
 | .ins=>typ b p .eps (AH (zI w))
 | .alt=>l_ (zS 85 p (JI A.s C.s)) λ_=>l_ (if Cl A|| Cl C|| GQ A|| GQ C then zS 86 p (JI A.v C.v)else .inr ()) λ_=>typ b p (.alt A.s C.s) (.alt A.v C.v)
 | .cat=>catT b p (.cat A.s C.s) A.v C.v A C
 | .swap=>catT b p (.cat A.s C.s) C.v A.v A C
 | .star | .keyed=>l_ (zS 83 p (iterW A.s)) λ_=>l_ (zS 84 p (iterW A.v)) λ_=>typ b p (.star A.s) (.star A.v)
 | .left=>l_ (zS 89 p (NH q.i A.s)) λ_=>.inr (q.o,A.v)
 | .right=>l_ (zS 89 p (NH q.i A.v)) λ_=>.inr (A.s,q.o)
 | .default_=>l_ (uP (Kf A.s w) 80 p) λ_=>.inr (A.s,A.v)
 | .chain=>l_ (zS 87 p (NH A.v C.s)) λ_=>l_ (uP (!(Cl A|| EU C)) 88 p) λ_=>.inr (A.s,C.v)
def LO.isLeft:LO->Bool | .left=>zW | _=>zU
def LO.isRight:LO->Bool | .right=>zW | _=>zU
noncomputable def uC(b:Nat)(x:Bool)(t:Tm):F3 ⊕ QuM:=if x then D5 b t else .inr .nil
noncomputable def Dg(b:Nat):Tm->F3 ⊕ LnM | .le p op n w q x y=>l_ (uC b op.isLeft q) λQ1=>l_ (Dg b x) λA=>l_ (Dg b y) λC=>l_ (uC b op.isRight q) λQ2=>l_ (zR b p op n w (if op.isLeft then Q1 else Q2) A C) λr=> .inr (.mk (.le p op n w q x y) r.1 r.2 (if op.isLeft then Q1 else Q2) A C)| _=>.inr .nil
def Tm.wf:Tm->Bool | .ca _ op n _ _ a b=>(match op with | .id | .fold | .norm=>n.isSome | .star=>a.isCa | _=>a.isCa&&b.isCa)&&a.wf&&b.wf | .le _ op n _ q a b=>(match op with | .copy | .key | .del=>n.isSome | .ins=>zW | .left | .right=>q.isCa&&a.isLe | .default_ | .star | .keyed=>a.isLe | _=>a.isLe&&b.isLe)&&q.wf&&a.wf&&b.wf | _=>zW
noncomputable def Gt(b:Int)(t:Tm):F3 ⊕ LnM:=if b<1\/4096<b then .inl (2,0,[])else match t with
 | .le .. =>Dg b.toNat t
 | .ca p .. | .txt p _ | .rx p _=>.inl (72,p,[])
 | .nil=>.inl (2,0,[])
noncomputable def CI(t:ByteArray)(b:Int):F3 ⊕ LnM:=match HY t with
 | .inl e=>.inl (e.1,e.2,[])
 | .inr x=>Gt b x
section
variable{α β:Type}{x:F3 ⊕ α}{f:α->F3 ⊕ β}
def Ax{c:β}(h:l_ x f= .inr c):∃a,x= .inr a/\f a= .inr c:=by cases x with|inl e=>cases h|inr a=>exact⟨a,rfl,h⟩
def Cd{a:α}(h:x= .inr a):l_ x f=f a:=by rw[h];rfl
end
def CT{α:Type}(f:Nat->F3 ⊕ α):Prop:=∀b c,b<=c->(∀p w,f b≠ .inl (40,p,w))->f c=f b
def CT.const{α:Type}(x:F3 ⊕ α):CT λ_=>x:=λ_ _ _ _=>rfl
def CT.bind{α β:Type}{f:Nat->F3 ⊕ α}{g:Nat->α->F3 ⊕ β}(j:CT f)(l:∀a,CT λb=>g b a):CT λb=>l_ (f b) (g b):=λb c d h=>by
 have e:=j b c d λp w k=>h p w (by show l_ (f b) (g b)=_;rw[k];rfl);show l_ (f c) (g c)=l_ (f b) (g b);rw[e];cases m:f b with
 | inl e=>rfl
 | inr a=>exact l a b c d λp w k=>h p w (by show l_ (f b) (g b)=_;rw[m];exact k)
def CT.bld(r:ReM)(p:Nat):CT λb=>bld b r p:=λb c a h=>by
 show Go.Proofs.YtjbnocjgdmnkoaaGreatDoor.bld c r p=Go.Proofs.YtjbnocjgdmnkoaaGreatDoor.bld b r p;unfold Go.Proofs.YtjbnocjgdmnkoaaGreatDoor.bld;by_cases d:Br r<=b
 ·rw[H_ d,H_ (V' d a)]
 ·exact absurd (G_ d) (h p [])
def CT.typ(p:Nat)(s v:ReM):CT λb=>typ b p s v:=(CT.bld s p).bind λ_=>(CT.bld v p).bind λ_=>CT.const _
def Ly:∀t:Tm,CT λb=>D5 b t | .txt .. | .rx .. | .le .. | .nil=>λ_ _ _ _=>rfl | .ca p op n to a x y=>by simp only[D5];exact(Ly x).bind λA=>(Ly y).bind λC=>(CT.const _).bind λr=>(CT.bld _ _).bind λ_=>(CT.bld _ _).bind λ_=>(CT.const _).bind λ_=>CT.const _
def CT.catT(p:Nat)(s a c:ReM)(A C:LnM):CT λb=>catT b p s a c A C:=(CT.const _).bind λ_=>(CT.const _).bind λ_=>CT.typ _ _ _
def ZK(p:Nat)(op:LO)(n:Option ReM)(w:ByteArray)(q:QuM)(A C:LnM):CT λb=>zR b p op n w q A C:=by
 cases op;case copy | key | ins=>exact CT.typ _ _ _
 case del=>exact(CT.typ _ _ _).bind λ_=>CT.const _
 case cat | swap=>exact CT.catT _ _ _ _ _ _
 case left | right | default_ | chain=>exact CT.const _
 case alt | star | keyed=>exact(CT.const _).bind λ_=>(CT.const _).bind λ_=>CT.typ _ _ _
def Tq(x:Bool)(t:Tm):CT λb=>uC b x t:=by cases x;{exact CT.const _};exact Ly t
def Lw:∀t:Tm,CT λb=>Dg b t | .txt .. | .rx .. | .ca .. | .nil=>λ_ _ _ _=>rfl | .le p op n w q x y=>by simp only[Dg];exact(Tq _ q).bind λQ1=>(Lw x).bind λA=>(Lw y).bind λC=>(Tq _ q).bind λQ2=>(ZK _ _ _ _ _ _ _).bind λr=>CT.const _
def QA{r:ReM}{u:Unit}(h:bld b r p= .inr u):Br r<=b:=by unfold bld at h;split at h;{assumption};cases h
def Q9{r:ReM}(h:Br r<=b):bld b r p= .inr ():=H_ h
def OP{s v:ReM}{r:ReM×ReM}(h:typ b p s v= .inr r):r=(s,v)/\Br s<=b/\Br v<=b:=by obtain⟨_,a,c⟩:=Ax h;obtain⟨_,d,e⟩:=Ax c;cases e;exact⟨rfl,QA a,QA d⟩
def RO{s v:ReM}(h:Br s<=b)(k:Br v<=b):typ b p s v= .inr (s,v):=by unfold typ;rw[Q9 h,Q9 k];rfl
variable{Q:QuM}
def K9{t:Tm}(h:D5 b t= .inr Q)(a:t.isCa=zW):∃o i A C,Q= .mk t o i A C:=by
 cases t<;>first | cases a | skip
 simp only[D5]at h;obtain⟨A,-,h⟩:=Ax h;obtain⟨C,-,h⟩:=Ax h;obtain⟨r,-,h⟩:=Ax h;obtain⟨_,-,h⟩:=Ax h;obtain⟨_,-,h⟩:=Ax h;obtain⟨_,-,h⟩:=Ax h;cases h;exact⟨_,_,_,_,rfl⟩
def Jc{t:Tm}{L:LnM}(h:Dg b t= .inr L)(a:t.isLe=zW):∃s v q A C,L= .mk t s v q A C:=by
 cases t<;>first | cases a | skip
 simp only[Dg]at h;obtain⟨A,-,h⟩:=Ax h;obtain⟨C,-,h⟩:=Ax h;obtain⟨_,-,h⟩:=Ax h;obtain⟨_,-,h⟩:=Ax h;obtain⟨r,-,h⟩:=Ax h;cases h;exact⟨_,_,_,_,_,rfl⟩
def Lz:∀{t:Tm} {b:Nat} {Q:QuM},D5 b t= .inr Q->Db Q<=b/\∀c,Db Q<=c->D5 c t= .inr Q | .txt ..,b,Q,h | .rx ..,b,Q,h | .le ..,b,Q,h | .nil,b,Q,h=>by cases h;exact⟨V_ _,λ_ _=>rfl⟩ | .ca p op n to back x y,b,Q,h=>by simp only[D5]at h ⊢;have⟨A,a,h⟩:=Ax h;have⟨C,d,h⟩:=Ax h;have⟨r,e,h⟩:=Ax h;obtain⟨_,f,h⟩:=Ax h;obtain⟨_,g,h⟩:=Ax h;obtain⟨_,j,h⟩:=Ax h;cases h;have k:=Lz a;have l:=Lz d;have q:=QA f;have u:=QA g;refine⟨by unfold Db;omega,λc m=>?_⟩;unfold Db at m;rw[Cd (k.2 c zO),Cd (l.2 c zO),Cd e,Cd (Q9 zO),Cd (Q9 zO),Cd j]
def AeR(Q:QuM)(h:Q≠ .nil):Br Q.o<=Db Q/\Br Q.i<=Db Q:=by cases Q with|nil=>exact absurd rfl h|mk t o i a b=>unfold Db;exact⟨by show Br o<=_;omega,by show Br i<=_;omega⟩
def Rs(L:LnM)(h:L≠ .nil):Br L.s<=Bq L/\Br L.v<=Bq L:=by cases L with|nil=>exact absurd rfl h|mk t s v q a b=>unfold Bq;exact⟨by show Br s<=_;omega,by show Br v<=_;omega⟩
def ZL{op:LO}{q:QuM}{A C:LnM}{r:ReM×ReM}{N:Nat}(t:∀r,(Br r=Br A.s\/Br r=Br A.v)->(match op with | .copy | .key | .del | .ins=>False | _=>True)->Br r<=N)(y:(match op with | .chain=>True | _=>False)->Br C.v<=N)(u:(match op with | .left | .right=>True | _=>False)->Br q.o<=N) (e:N<=b) (h:zR b p op n w q A C= .inr r):max (Br r.1) (Br r.2)<=b/\∀c,N<=c->Br r.1<=c->Br r.2<=c->zR c p op n w q A C= .inr r:=by
 have hs:=t _ (.inl rfl);have x:=t _ (.inr rfl);cases op;all_goals simp only[zR,catT]at h ⊢
 (case copy | key | ins=>obtain⟨rfl,a,d⟩:=OP h;exact⟨rK.2 ⟨a,d⟩,λc _ a d=>RO a d⟩);(case del=>have⟨z,a,d⟩:=Ax h;obtain⟨_,j,k⟩:=Ax d;cases k;obtain⟨rfl,l,m⟩:=OP a;exact⟨rK.2 ⟨l,m⟩,λc _ f g=>by rw[Cd (RO f g),Cd j]⟩);(case alt | cat | swap | star | keyed=>obtain⟨_,a,d⟩:=Ax h;obtain⟨_,j,k⟩:=Ax d;obtain⟨rfl,l,m⟩:=OP k;exact⟨rK.2 ⟨l,m⟩,λc _ f g=>by rw[Cd a,Cd j,RO f g]⟩);(case left=>obtain⟨_,a,d⟩:=Ax h;cases d;exact⟨rK.2 ⟨V' (u zA) e,V' (x zA) e⟩,λc _ f g=>by rw[Cd a]⟩);(case right=>obtain⟨_,a,d⟩:=Ax h;cases d;exact⟨rK.2 ⟨V' (hs zA) e,V' (u zA) e⟩,λc _ f g=>by rw[Cd a]⟩);(case default_=>obtain⟨_,a,d⟩:=Ax h;cases d;exact⟨rK.2 ⟨V' (hs zA) e,V' (x zA) e⟩,λc _ f g=>by rw[Cd a]⟩);(case chain=>obtain⟨_,a,d⟩:=Ax h;obtain⟨_,j,k⟩:=Ax d;cases k;exact⟨rK.2 ⟨V' (hs zA) e,V' (y zA) e⟩,λc _ f g=>by rw[Cd a,Cd j]⟩)
def Tr{x:Bool}{t:Tm}(h:uC b x t= .inr Q):Db Q<=b/\∀c,Db Q<=c->uC c x t= .inr Q:=by cases x;{cases h;exact⟨V_ _,λ_ _=>rfl⟩};exact Lz h
def Lx:∀{t:Tm} {b:Nat} {L:LnM},t.wf=zW->Dg b t= .inr L->Bq L<=b/\∀c,Bq L<=c->Dg c t= .inr L
 | .txt ..,b,L,_,h | .rx ..,b,L,_,h | .ca ..,b,L,_,h | .nil,b,L,_,h=>by cases h;exact⟨V_ _,λ_ _=>rfl⟩
 | .le p op n w q x y,b,L,hw,h=>by
   simp only[Dg]at h ⊢;have⟨Q1,g,h⟩:=Ax h;have⟨A,u,h⟩:=Ax h;have⟨C,z,h⟩:=Ax h;have⟨Q2,j,h⟩:=Ax h;have⟨r,B,h⟩:=Ax h;cases h;unfold Tm.wf at hw;simp only[Bool.and_eq_true]at hw;obtain⟨⟨⟨a,F⟩,k⟩,l⟩:=hw;have D:=Tr g;have G:=Lx k u;have H:=Lx l z;have E:=Tr j;obtain⟨Q,d⟩:∃Q,(if op.isLeft then Q1 else Q2)=Q:=⟨_,rfl⟩;have I:Db Q1<=Db Q/\Db Q2<=Db Q:=by
    rw[<-d];cases op<;>first
     | (cases g;cases j;exact⟨I_ _,I_ _⟩)
     | (cases j;exact⟨I_ _,V_ _⟩)
     | (cases g;exact⟨V_ _,I_ _⟩)
   have J:Db Q<=b:=by
    rw[<-d];split
    ·exact D.1
    ·exact E.1
   rw[d]at B ⊢;have K:=ZL (N:=max (Db Q) (max (Bq A) (Bq C))) (λT M f=>by
    have O:A≠ .nil:=by
     have⟨s,v,P,A',C',e⟩:=Jc u (by cases op<;>first | exact f.elim | (simp at a;exact a) | (simp at a;exact a.1) | (simp at a;exact a.2));rw[e];exact nofun
    have:=Rs A O;rcases M with e | e<;>omega) (λf=>by
    have R:C≠ .nil:=by
     have⟨s,v,P,A',C',e⟩:=Jc z (by cases op<;>first | exact f.elim | (simp at a;exact a.2));rw[e];exact nofun
    have:=Rs C R;omega) (λf=>by
    have m:Q≠ .nil:=by
     rw[<-d];cases op<;>first | exact f.elim | skip
     ·have⟨o,i,A',C',e⟩:=K9 (show D5 b q= .inr Q1 from g) (by simp at a;exact a.1);rw[show(if LO.isLeft .left=zW then Q1 else Q2)=Q1 from rfl,e];exact nofun
     ·have⟨o,i,A',C',e⟩:=K9 (show D5 b q= .inr Q2 from j) (by simp at a;exact a.1);rw[show(if LO.isLeft .right=zW then Q1 else Q2)=Q2 from rfl,e];exact nofun
    have:=AeR Q m;omega) zO B
   refine⟨by unfold Bq;omega,λc S=>?_⟩;unfold Bq at S;rw[Cd (D.2 c zO),Cd (G.2 c zO),Cd (H.2 c zO),Cd (E.2 c zO),d,Cd (K.2 c zO zO zO)]
section
variable{ps:List Pc}
def D_.thn(a:D_ B H0 H ps)(b:D_ B H H' qs):D_ B H0 H' qs:=⟨a.old.trans b.old,a.lt0,V' a.size b.size,b.oks,b.rng,b.dis⟩
def D_.rot{p:Pc}(a:D_ B H0 H (ps++[p])):D_ B H0 H (p::ps):=⟨a.old,a.lt0,a.size,λq b=>a.oks q (by simp at b ⊢;exact b.symm),λq b=>a.rng q (by simp at b ⊢;exact b.symm),vE.2 ⟨λq b k d c=>(vW.1 a.dis).2.2 q b p (Q_.2 rfl) k c d,(vW.1 a.dis).1⟩⟩
def D_.tl{p:Pc}(a:D_ B H0 H (p::ps)):D_ B H0 H ps:=⟨a.old,a.lt0,a.size,λq b=>a.oks q (yD _ b),λq b=>a.rng q (yD _ b),(vE.1 a.dis).2⟩
def D_.swp{p:Pc}(b:D_ B H0 H (p::q::ps)):D_ B H0 H (q::p::ps):=have e:∀{r},r∈q::p::ps->r∈p::q::ps:=λh=>by simp only[J']at h ⊢;rcases h with h | h | h<;>simp[h]
 have d:=vE.1 b.dis;have f:=vE.1 d.2
 ⟨b.old,b.lt0,b.size,λr a=>b.oks r (e a),λr a=>b.rng r (e a),vE.2 ⟨λr a k g c=>by
  rcases J'.1 a with rfl | a
  ·exact d.1 q (yN ..) k c g
  ·exact f.1 r a k g c,vE.2 ⟨λr a=>d.1 r (yD _ a),f.2⟩⟩⟩
def D_.keep{p:Pc}(a:D_ B H0 H (p::ps)):D_ (λk=>B k\/p.foot k) H H ps:=⟨A_.refl _ _,λk b=>b.elim a.up λh=>(a.rng p (yN ..) k h).2,I_ _,a.tl.oks,λq c k b=>⟨λh=>h.elim (a.tl.rng q c k b).1 λd=>(vE.1 a.dis).1 q c k d b,(a.tl.rng q c k b).2⟩,a.tl.dis⟩
end
def D_.give{B':Nat->Prop}{ps:List Pc}(a:D_ B H0 H ps)(e:∀k,B' k->B k)(p:Pc)(g:p.ok H0)(d:∀k,p.foot k->B k/\¬B' k):D_ B' H0 H (p::ps):=⟨a.old.mono e,λk b=>a.lt0 k (e k b),a.size,λq c=>by
  rcases J'.1 c with rfl | c
  ·exact q.fr (a.old.mono λk b=>(d k b).1) g
  ·exact a.oks q c,λq c k b=>by
  rcases J'.1 c with rfl | c
  ·exact⟨(d k b).2,a.up (d k b).1⟩
  ·exact⟨λh=>(a.rng q c k b).1 (e k h),(a.rng q c k b).2⟩,vE.2 ⟨λq c k b f=>(a.rng q c k f).1 (d k b).1,a.dis⟩⟩
open Go.Lib
def NX:AT prog 67 #[.int .u8 (c:Int)] H (.bool (KK c)):=by refine Am.of_vc func67 rfl (call67 _) ?_;cases a:((c:Int)==95)<;>cases b:zT ((97:Int)<=c)<;>cases d:zT ((c:Int)<=122)<;>cases e:zT ((65:Int)<=c)<;>cases f:zT ((c:Int)<=90);(all_goals (repeat ((conv=>whnf);first | rw[a] | rw[b] | rw[d] | rw[e] | rw[f]));refine⟨congrArg Value.bool ?_,A_.refl _ _⟩;simp at a b d e f;unfold KK;first | (rw[eq_comm,yL];omega) | (rw[eq_comm,qC];omega))
def Wc:AT prog 68 #[.int .u8 (c:Int)] H (.bool (uA c)):=by refine Am.of_vc func68 rfl (call68 _) ?_;cases a:zT ((48:Int)<=c)<;>cases b:zT ((c:Int)<=57);(all_goals (repeat ((conv=>whnf);first | rw[a] | rw[b]));refine⟨congrArg Value.bool ?_,A_.refl _ _⟩;simp at a b;unfold uA;first | (rw[eq_comm,yL];omega) | (rw[eq_comm,qC];omega))
def Gd:AT prog 109 #[.int .u8 (c:Int)] H (.bool (uZ c)):=by refine Am.of_vc func109 rfl (call109 _) ?_;cases a:zT ((32:Int)<=c)<;>cases b:zT ((c:Int)<=126);(all_goals (repeat ((conv=>whnf);first | rw[a] | rw[b]));refine⟨congrArg Value.bool ?_,A_.refl _ _⟩;simp at a b;unfold uZ;first | (rw[eq_comm,yL];omega) | (rw[eq_comm,qC];omega))
abbrev mH(t:ByteArray)(i:Nat)(v:v_)(c p:Int):List v_:=[.string t,B_ i,v,B_ c,B_ p,.string ⟨#[]⟩]
abbrev pSk(s:Nat)(t:ByteArray)(i:Nat)(v:v_)(c p:Int):Pc:=pB 118 s (mH t i v c p)
section
variable{B S:Nat->Prop}{H0 H:Aa}{qs:List Pc}{s i:Nat}{t:ByteArray}{v:v_}{c p:Int}
def wV{K:v_->Prop}(a:D_ B H0 H (pSk s t i v c p::qs))(k:K (.string t))(b:S s:=by exact zA):A8 prog (Instr.loadAt 9 (J_ s)) S H K:=C_ ((a.blk 0 rfl).cellE rfl) b k
def yK{K:v_->Prop}(a:D_ B H0 H (pSk s t i v c p::qs))(k:K (.int .i64 (i:Int)))(b:S s:=by exact zA):A8 prog (Instr.loadAt 3 (.pointer (zY ⟨s,1,zV⟩))) S H K:=C_ ((a.blk 0 rfl).cellE rfl) b k
def vB{K:Aa->Prop}(j:Nat)(b:D_ B H0 H (pSk s t i v c p::qs))(k:∀H',D_ B H0 H' (pSk s t j v c p::qs)->K H'):BK prog (Instr.storeAt 3 (.pointer (zY ⟨s,1,zV⟩)) (.int .i64 (j:Int))) H K:=Bc b 0 rfl zZ rfl λH' a=>k H' a
def sF(a:D_ B H0 H (pSk s t i v c p::qs)):AT prog 38 #[J_ s] H (.bool (zT (t.size<=i))):=by
 refine Am.of_vc func38 rfl (call38 _) (Ap.lex rfl zX ?_);repeat ((conv=>whnf);first | refine E_ ?_ | refine wV a ?_ | refine yK a ?_)
 refine⟨?_,A_.refl _ _⟩;congr 1;rw[decide_eq_decide];omega
def bD{n:Nat}(h:bt t i=10\/t.size<=i):BZ t n zW i=BZ t n zU i:=by cases n with|zero=>rfl|succ n=>unfold BZ;by_cases a:t.size<=i;{rw[H_ a,H_ a]};rw[G_ a,G_ a,h.resolve_right a]<;>rfl
def iU(T:t.size<=4096)(N:i<=t.size)(E:D_ B H H (pSk s t i v c p::qs)):Am prog 37 #[J_ s] H λr H'=>r= .tuple #[]/\D_ B H H' (pSk s t (BZ t (t.size-i) zU i) v c p::qs):=by
 refine Am.of_vc func37 rfl (call37 _) (AD.mk [] (λ_:Nat=>[]) (λj G=>j<=t.size/\(∃n,t.size<=j+n/\BZ t (t.size-i) zU i=BZ t n zU j)/\D_ B H G (pSk s t j v c p::qs)) (λj _=>t.size-j) ⟨i,rfl,N,⟨_,zO,rfl⟩,E⟩ ?_);rintro j G w ⟨O,⟨n,f,e⟩,d⟩;refine Af (sF d) λG1 a1=>?_;have q:=d.call a1;by_cases g:t.size<=j;{rw[a_ g];have:BZ t n zU j=j:=by{cases n<;>unfold BZ<;>first | rfl | exact H_ g};(conv=>whnf);exact⟨rfl,by rw[e,this];exact q⟩};rw[b_ g];have⟨b,F,I,P⟩:=CY (vO g);obtain⟨m,rfl⟩:∃m,n=m+1:=⟨n-1,zO⟩;refine Ap.lex rfl zX ?_;repeat ((conv=>whnf);first | refine E_ ?_ | refine wV q ?_ | refine yK q ?_ | refine En Ek rfl F ?_)
 rw[<-I];by_cases y:bt t j=35;{have J:((bt t j:Int)==35)=zW:=by{rw[y];rfl};(conv=>whnf);rw[J];refine AD.mk [] (λ_:Nat=>[]) (λk G=>j<=k/\k<=t.size/\(∃n,t.size<=k+n/\BZ t (t.size-i) zU i=BZ t n zW k)/\D_ B H G (pSk s t k v c p::qs)) (λk _=>t.size-k) ⟨j,rfl,I_ _,O,⟨m+1,f,?_⟩,q⟩ ?_;{rw[e];unfold BZ;rw[G_ g,G_ g,y]<;>rfl};rintro k G w ⟨Q,R,⟨n,f,e⟩,d⟩;refine Ap.quiet (F_ G) rfl zX (Ei (λH' S=>sF (d.call S)) ?_);have fin:∀{G2:Aa},bt t k=10\/t.size<=k->A_ (F_ G) G G2->j<k/\k<=t.size/\(∃n,t.size<=k+n/\BZ t (t.size-i) zU i=BZ t n zU k)/\D_ B H G2 (pSk s t k v c p::qs):=λh a=>by{have:j≠k:=λx=>by{subst x;omega};exact⟨zO,R,⟨n,f,by rw[e,bD h]⟩,d.call a⟩};by_cases z:t.size<=k;{rw[a_ z];(conv=>whnf);intro G2 a2;have:=fin (.inr z) a2;(conv=>whnf);exact⟨rfl,k,rfl,this.2,zO⟩};rw[b_ z];have⟨b,F,I,P⟩:=CY (vO z);(repeat ((conv=>whnf);first | refine E_ ?_ | refine wV d ?_ (d.in_ 0 rfl rfl).2 | refine yK d ?_ (d.in_ 0 rfl rfl).2 | refine En Ek rfl F ?_));rw[<-I];by_cases K:bt t k=10;{have l:((bt t k:Int) != 10)=zU:=by{rw[K];rfl};(conv=>whnf);rw[l];(conv=>whnf);intro G2 a2;have:=fin (.inl K) a2;(conv=>whnf);exact⟨rfl,k,rfl,this.2,zO⟩};have l:((bt t k:Int) != 10)=zW:=bne_iff_ne.2 zO;(conv=>whnf);rw[l];(conv=>whnf);intro G2 a2;have M:=d.call a2;(repeat ((conv=>whnf);first | rw[S_ k zO] | refine E_ ?_ | refine yK M ?_));refine vB (k+1) M λG3 L=>?_;(conv=>whnf);refine⟨rfl,k+1,rfl,⟨zO,zO,⟨n-1,zO,?_⟩,L⟩,zO⟩;obtain⟨m,rfl⟩:∃m,n=m+1:=⟨n-1,zO⟩;rw[e];show(if t.size<=k then k else BZ t m (bt t k != 10) (k+1))=_;rw[G_ z,bne_iff_ne.2 K]<;>rfl};have J:((bt t j:Int)==35)=zU:=Dl y;(conv=>whnf);rw[J];by_cases u:pV (bt t j)=zW;{have:∀{G2:Aa},D_ B H G2 (pSk s t (j+1) v c p::qs)->(j+1<=t.size/\(∃n,t.size<=j+1+n/\BZ t (t.size-i) zU i=BZ t n zU (j+1))/\D_ B H G2 (pSk s t (j+1) v c p::qs))/\t.size-(j+1)<t.size-j:=λE=>by{refine⟨⟨zO,⟨m,zO,?_⟩,E⟩,zO⟩;rw[e];show(if t.size<=j then j else if bt t j=35 then _ else if pV (bt t j)then BZ t m zU (j+1)else j)=_;rw[G_ g,G_ y,H_ u]};cases l:((bt t j:Int)==32)<;>cases A:((bt t j:Int)==9)<;>cases C:((bt t j:Int)==10)<;>cases D:((bt t j:Int)==13);(all_goals repeat ((conv=>whnf);first | refine AC.run ?_ | rw[l] | rw[A] | rw[C] | rw[D] | rw[S_ j zO] | refine E_ ?_ | refine yK q ?_ | refine vB (j+1) q λG3 L=>?_ | exact⟨rfl,j+1,rfl,this L⟩));simp at l A C D;unfold pV at u;simp at u;omega};have f:bt t j≠32/\bt t j≠9/\bt t j≠10/\bt t j≠13:=by unfold pV at u;simp at u;omega
 have l:((bt t j:Int)==32)=zU:=Dl f.1;have A:((bt t j:Int)==9)=zU:=Dl f.2.1;have C:((bt t j:Int)==10)=zU:=Dl f.2.2.1;have D:((bt t j:Int)==13)=zU:=Dl f.2.2.2;repeat ((conv=>whnf);first | refine AC.run ?_ | rw[l] | rw[A] | rw[C] | rw[D])
 have:BZ t (m+1) zU j=j:=by unfold BZ;rw[G_ g,G_ y,G_ u]<;>rfl
 exact⟨rfl,by rw[e,this];exact q⟩
def KY{c2 p2:Int}(a:D_ B H H (pSk s t i v c p::qs)):Am prog 69 #[J_ s,B_ c2,B_ p2] H λr H'=>r= .bool zU/\D_ B H H' (pSk s t i v c2 p2::qs):=by refine Am.of_vc func69 rfl (call69 _) (Ad underlying24 rfl _ rfl [B_ c2,B_ p2,.string ⟨#[]⟩] rfl (E_ ?_));refine AB (cs:=[B_ c2,B_ p2,.string ⟨#[]⟩]) a 0 rfl rfl zZ rfl λH1 b=>?_;(conv=>whnf);exact⟨rfl,b⟩
def zK(k:Tk):List v_:=[B_ k.k,B_ k.p,.string k.s]
def tTk:Ty Tk where
 size:=3
 rep _ _ cs k:=cs=zK k
 len h:=by rw[h];rfl
 frame h _:=h
 mono h _:=h
abbrev pTk(a:Option Addr)(n:Nat)(ts:List Tk):Pc:=pS tTk 122 a ts.length n ts
structure ScS(B:Nat->Prop)(H0 H:Aa)(s:Nat)(t:ByteArray)(i:Nat)(ts:List Tk)(c p:Int):Prop where
 ex:∃a n,D_ B H0 H [pSk s t i (.slice a ts.length n) c p,pTk a n ts]
def Qc{ts:List Tk}{k p2:Nat}{x:ByteArray}(z:ts.length<=1000000)(h:ScS B H H s t i ts c p):Am prog 40 #[J_ s,B_ k,B_ p2,.string x] H λr H'=>r= .bool zW/\ScS B H H' s t i (ts++[⟨k,p2,x⟩]) c p:=by have⟨a,n,e⟩:=h;refine Am.of_vc func40 rfl (call40 _) (E_ ?_);refine C_ ((e.blk 0 rfl).cellE rfl) zA (Ad underlying122 rfl _ rfl (zK ⟨k,p2,x⟩) rfl (Az qQ (zK ⟨k,p2,x⟩) rfl rfl zQ zQ ?_));intro y H1 f g b d;have l:=e.skip f d;refine Uj (ys:=[⟨k,p2,x⟩]) l 1 qQ rfl (b.cells (o:=0) (cs:=zK ⟨k,p2,x⟩) λj v m=>by rw[N_];exact m) (Ty.reps_one (T:=tTk) (x:=⟨k,p2,x⟩) rfl) rfl (by simp[zK,Value.oneCell']) (by simp only[U_,i_];omega) zQ λa2 q H2 u _=>?_;refine E_ ?_;refine Bc u 0 rfl zZ rfl λH3 w=>?_;(conv=>whnf);exact⟨rfl,a2,q,by unfold pTk;rw[M_];exact w⟩
end
def AdY:∀c,c<256->indexByte [48,49,50,51,52,53,54,55,56,57,97,98,99,100,101,102] (UInt8.ofNat c)=match X3 c with | none=>(-1:Int) | some d=>(d:Int):=by decide+kernel
def SO:∀c,c<256->(zT (0<=indexByte [61,59,40,41,123,125,44,124,38,45,46,126,42,43,63] (UInt8.ofNat c))=zT (c∈ZQ)):=by decide+kernel
def Zn{s i:Nat}{v:v_}{c p:Int}(S:t.size<=4096)(T:i<t.size)(I:D_ B H H (pSk s t i v c p::qs)):Am prog 110 #[J_ s] H λr H'=> r= .tuple #[.int .u8 (((Gv t i).1.getD 0:Nat):Int),.bool (Gv t i).1.isSome]/\D_ B H H' (pSk s t (Gv t i).2 v c p::qs):=by
 refine Am.of_vc func110 rfl (call110 _) ?_;repeat ((conv=>whnf);first | rw[S_ i zO] | refine E_ ?_ | refine yK I ?_)
 refine vB (i+1) I λH1 J=>(Af (sF J) λH2 a2=>?_);have l:=J.call a2;unfold Gv;by_cases q:t.size<=i+1;{rw[a_ q,H_ q];(conv=>whnf);exact⟨rfl,l⟩};rw[b_ q,G_ q];have⟨b,A,u,K⟩:=CY (vO q);refine Ap.lex rfl zX ?_;repeat ((conv=>whnf);first | refine E_ ?_ | refine wV l ?_ | refine yK l ?_ | refine En Ek rfl A ?_)
 rw[<-u];by_cases a:bt t (i+1)=120;{
 have h:((bt t (i+1):Int)==110)=zU:=by rw[a];rfl
 have k:((bt t (i+1):Int)==114)=zU:=by rw[a];rfl
 have w:((bt t (i+1):Int)==116)=zU:=by rw[a];rfl
 have y:((bt t (i+1):Int)==34)=zU:=by rw[a];rfl
 have z:((bt t (i+1):Int)==92)=zU:=by rw[a];rfl
 have C:((bt t (i+1):Int)==120)=zW:=by rw[a];rfl
 rw[H_ a];repeat ((conv=>whnf);first | refine AC.run ?_ | rw[h] | rw[k] | rw[w] | rw[y] | rw[z] | rw[C])
 refine AD.mk [38,5] (λx:Nat×Nat×Nat=>match x with | (n,x,_)=>[B_ n,B_ x]) (λx G=>match x with | (n,x,j)=>n<=2/\x<16^n/\NN t 2 0 (i+1)=NN t (2-n) x j/\j<t.size/\D_ B H G (pSk s t j v c p::qs)) (λx _=>match x with | (n,_,_)=>2-n) ⟨(0,0,i+1),rfl,zQ,zQ,rfl,zO,l⟩ ?_;rintro⟨n,x,j⟩ G L ⟨U,D,e,V,E⟩;by_cases N:n=2;{subst N;have D:x<256:=D;(conv=>whnf);rw[e,w8 zO zO];exact⟨rfl,E⟩};have h:zT ((n:Int)<2)=zW:=Y';obtain⟨m,O⟩:∃m,2-n=m+1:=⟨1-n,zO⟩;rw[O,show NN t (m+1) x j=(if t.size<=j+1 then(zV,j+1)else match X3 (bt t (j+1))with | none=>(zV,j+1) | some d=>NN t m (16*x+d) (j+1))from rfl]at e;(conv=>whnf);rw[h];repeat ((conv=>whnf);first | rw[S_ j zO] | refine E_ ?_ | refine yK E ?_)
 refine vB (j+1) E λH3 M=>(Af (sF M) λH4 a4=>?_);have g:=M.call a4;by_cases g1:t.size<=j+1;{rw[a_ g1];rw[H_ g1]at e;(conv=>whnf);exact⟨by rw[e];rfl,by rw[e];exact g⟩};rw[b_ g1];rw[G_ g1]at e;have⟨b,A,u,K⟩:=CY (vO g1);refine Ap.quiet (F_ H4) rfl zX ?_;repeat ((conv=>whnf);first | refine E_ ?_ | refine wV g ?_ (g.in_ 0 rfl rfl).2 | refine yK g ?_ (g.in_ 0 rfl rfl).2 | refine En Ek rfl A ?_)
 rw[<-u];refine Ei (λH' W=>Jh _ _ H') ?_;have X:UInt8.ofNat (bt t (j+1))=b:=by rw[u];simp
 have f:=AdY _ K;cases hd:X3 (bt t (j+1))with|none=>rw[hd]at f e;rw[show indexByte _ (UInt8.ofNat (bt t (j+1)))= -1 from f];(conv=>whnf);intro H5 F;(conv=>whnf);exact⟨by rw[e];rfl,by rw[e];exact g.call F⟩|some d=>{rw[hd]at f e;have P:=Wo hd;rw[show indexByte _ (UInt8.ofNat (bt t (j+1)))=(d:Int)from f];have Q:x<16:=yQ D (Nat.pow_le_pow_right zQ (zO:n<=1));(conv=>whnf);intro H5 F;have R:=g.call F;have k:zT ((d:Int)<0)=zU:=j_;(repeat ((conv=>whnf);first | rw[k] | rw[m_ (x:=(16:Int)*x) zO] | rw[m_ (x:=(16:Int)*x+d) zO] | rw[S_ n zO]));refine⟨rfl,(n+1,16*x+d,j+1),?_,⟨zO,?_,?_,zO,R⟩,by show 2-(n+1)<2-n;omega⟩;{simp};{rw[Nat.pow_succ];omega};rw[e,(zO:2-(n+1)=m)]}};have C:((bt t (i+1):Int)==120)=zU:=Dl a;rw[G_ a];cases h:((bt t (i+1):Int)==110)<;>cases k:((bt t (i+1):Int)==114)<;>cases w:((bt t (i+1):Int)==116)<;>cases y:((bt t (i+1):Int)==34)<;>cases z:((bt t (i+1):Int)==92);(all_goals
 repeat ((conv=>whnf);first | refine AC.run ?_ | rw[h] | rw[k] | rw[w] | rw[y] | rw[z] | rw[C])
 simp at h k w y z
 first
  | (exfalso;omega)
  | (refine⟨?_,l⟩
     unfold lB
     repeat' split
     all_goals first | rfl | (exfalso;omega)))
def ScR(B:Nat->Prop)(H0 H:Aa)(s:Nat)(t:ByteArray)(ts:List Tk)(c p:Int)(r:v_):FT ⊕ (Tk×Nat)->Prop | .inl e=>r= .bool zU/\∃j,ScS B H0 H s t j ts e.1 e.2 | .inr x=>r= .bool zW/\ScS B H0 H s t x.2 (ts++[x.1]) c p
section
variable{s i:Nat}{c p:Int}
def ScS.thn{ps:List Pc}(b:D_ B H0 H ps)(h:ScS B H H' s t i ts c p):ScS B H0 H' s t i ts c p:=by have⟨a,n,d⟩:=h;exact⟨a,n,b.thn d⟩
def ScS.of{a:Option Addr}{n:Nat}(b:D_ B H0 H (pSk s t i (.slice a ts.length n) c p::pTk a n ts::qs)):ScS B H0 H s t i ts c p:=⟨a,n,D_.lft (ps:=[_,_]) b⟩
def ScS.off{a:Option Addr}{n:Nat}(b:D_ B H0 H (pSk s t i (.slice a ts.length n) c p::pTk a n ts::qs)):ScS B H H s t i ts c p:=.of b.rebase
def cP(W:t.size<=4096)(X:ts.length<=1000000)(hi:i<t.size)(h:ScS B H H s t i ts c p):Am prog 70 #[J_ s] H λr H'=> ScR B H H' s t ts c p r ((GY t i (t.size-(i+1)) (i+1) []).map id λx=>(⟨2,i,bA x.1⟩,x.2)):=by
 have⟨a,n,S⟩:=h;refine Am.of_vc func70 rfl (call70 _) ?_;repeat ((conv=>whnf);first | rw[S_ i zO] | refine E_ ?_ | refine yK S ?_)
 refine vB (i+1) S λH1 K=>?_;have K:=K.nils (Dc .u8) 5;refine AD.mk [4] (λx:Nat×List Nat×Option Addr×Nat=>match x with | (_,l,b,m)=>[.slice b l.length m]) (λx G=>match x with | (j,l,b,m)=>i<j/\j<=t.size/\l.length<=j/\(∃n,t.size<=j+n/\GY t i (t.size-(i+1)) (i+1) []=GY t i n j l)/\D_ B H G [pSk s t j (.slice a ts.length n) c p,pTk a n ts,pS (Dc .u8) 5 b l.length m (l.map fun(x:Nat)=>(x:Int))]) (λx _=>match x with | (j,_,_,_)=>t.size-j) ⟨(i+1,[],zV,0),rfl,zO,zO,V_ _,⟨_,zO,rfl⟩,K⟩ ?_;rintro⟨j,l,b,m⟩ G T ⟨Y,hj,Z,⟨F,hn,e⟩,U⟩;refine Af (sF U) λG1 a1=>?_;have u:=U.call a1;by_cases A:t.size<=j;{rw[a_ A];have e2:GY t i F j l= .inl (51,i):=by{cases F<;>unfold GY<;>first | rfl | exact H_ A};rw[e2]at e;refine An.mk (KY (c2:=51) (p2:=i) u.rebase) ?_;rintro _ G2 ⟨rfl,d⟩;(conv=>whnf);rw[e];exact⟨rfl,j,.of (u.thn d)⟩};rw[b_ A];have⟨b1,h1,h2,h3⟩:=CY (vO A);obtain⟨C,rfl⟩:∃m,F=m+1:=⟨F-1,zO⟩
 rw[show GY t i (C+1) j l=(if t.size<=j then .inl (51,i)else if bt t j=34 then .inr (l,j+1)else if uZ (bt t j)=zU then .inl (50,j)else if bt t j≠92 then GY t i C (j+1) (l++[bt t j])else
  if t.size<=(Gv t j).2 then .inl (51,i)else match(Gv t j).1 with
   | none=>.inl (50,(Gv t j).2)
   | some b=>GY t i C ((Gv t j).2+1) (l++[b]))from rfl,G_ A]at e
 repeat (refine AC.run ?_)
 refine Ap.lex rfl zX ?_;repeat ((conv=>whnf);first | refine E_ ?_ | refine wV u ?_ | refine yK u ?_ | refine En Ek rfl h1 ?_)
 rw[<-h2];by_cases I:bt t j=34;{have L:((bt t j:Int)==34)=zW:=by{rw[I];rfl};rw[H_ I]at e;(repeat ((conv=>whnf);first | rw[L] | rw[S_ j zO] | refine E_ ?_ | refine yK u ?_));refine vB (j+1) u λG2 d=>(Xc l d 2 rfl rfl rfl rfl (An.mk (Qc X (.off d)) ?_));rintro _ G4 ⟨rfl,g⟩;(conv=>whnf);rw[e];exact⟨rfl,g.thn d⟩};have L:((bt t j:Int)==34)=zU:=Dl I;rw[G_ I]at e;repeat ((conv=>whnf);first | refine AC.run ?_ | rw[L])
 refine Af (Gd) λG2 a2=>?_;have d:=u.call a2;cases V:uZ (bt t j)with|false=>{rw[V,H_ rfl]at e;(repeat ((conv=>whnf);first | refine E_ ?_ | refine yK d ?_));refine An.mk (KY (c2:=50) (p2:=j) d.rebase) ?_;rintro _ G4 ⟨rfl,g⟩;(conv=>whnf);rw[e];exact⟨rfl,j,.of (d.thn g)⟩}|true=>{rw[V,G_ nofun]at e;(conv=>whnf);by_cases M:bt t j=92;{have N:((bt t j:Int) != 92)=zU:=by{rw[M];rfl};rw[G_ (by simp[M])]at e;(conv=>whnf);rw[N];refine An.mk (Zn W (vO A) d.rebase) ?_;rintro _ G4 ⟨rfl,g⟩;have g:=d.thn g;have O:=MW t j;have D:=λb=>AiE (t:=t) (i:=j) (b:=b);generalize Gv t j=x at*;have⟨y,k⟩:=x;simp only at e g O D;refine Af (sF g) λG5 E=>?_;have q:=g.call E;by_cases J:t.size<=k;{rw[a_ J];rw[H_ J]at e;refine An.mk (KY (c2:=51) (p2:=i) q.rebase) ?_;rintro _ G6 ⟨rfl,f⟩;(conv=>whnf);rw[e];exact⟨rfl,k,.of (q.thn f)⟩};rw[b_ J];rw[G_ J]at e;cases y with|none=>{(repeat ((conv=>whnf);first | refine E_ ?_ | refine yK q ?_));refine An.mk (KY (c2:=50) (p2:=k) q.rebase) ?_;rintro _ G6 ⟨rfl,f⟩;(conv=>whnf);rw[e];exact⟨rfl,k,.of (q.thn f)⟩}|some b=>{have hb:=D b rfl;refine Az Ct [.int .u8 (b:Int)] rfl rfl zQ zQ ?_;intro y H1 P Q w z;refine Ip (q.skip P z) 2 Ct rfl w ⟨rfl,I1 hb⟩ rfl (by rw[d_];omega) zQ λE R G5 f _=>?_;(repeat ((conv=>whnf);first | rw[S_ k zO] | refine E_ ?_ | refine yK f ?_));refine vB (k+1) f λG6 f=>?_;(conv=>whnf);refine⟨rfl,(k+1,l++[b],E,R),zZ,⟨zO,zO,by simp;omega,⟨C,zO,e⟩,?_⟩,by show t.size-(k+1)<t.size-j;omega⟩;simpa using f}};have N:((bt t j:Int) != 92)=zW:=bne_iff_ne.2 zO;rw[H_ M]at e;(conv=>whnf);rw[N];refine Az Ct [.int .u8 (bt t j:Int)] rfl rfl zQ zQ ?_;intro y H1 P Q w z;refine Ip (d.skip P z) 2 Ct rfl w ⟨rfl,I1 h3⟩ rfl (by rw[d_];omega) zQ λE R G5 q _=>?_;(repeat ((conv=>whnf);first | rw[S_ j zO] | refine E_ ?_ | refine yK q ?_));refine vB (j+1) q λG6 f=>?_;(conv=>whnf);refine⟨rfl,(j+1,l++[bt t j],E,R),zZ,⟨zO,zO,by simp;omega,⟨C,zO,e⟩,?_⟩,by show t.size-(j+1)<t.size-j;omega⟩;simpa using f}
def AfJ(R:t.size<=4096)(K:ts.length<=1000000)(S:i<t.size)(h:ScS B H H s t i ts c p):Am prog 71 #[J_ s] H λr H'=> ScR B H H' s t ts c p r ((Ih t i (t.size-(i+1)) (i+1)).map id λj=>(⟨3,i,t.extract (i+1) (j-1)⟩,j)):=by
 have⟨a,n,E⟩:=h;refine Am.of_vc func71 rfl (call71 _) ?_;repeat ((conv=>whnf);first | rw[S_ i zO] | refine E_ ?_ | refine yK E ?_)
 refine vB (i+1) E λH1 L=>(AD.mk [] (λ_:Nat=>[]) (λj G=>i<j/\j<=t.size/\(∃n,t.size<=j+n/\Ih t i (t.size-(i+1)) (i+1)=Ih t i n j)/\D_ B H G [pSk s t j (.slice a ts.length n) c p,pTk a n ts]) (λj _=>t.size-j) ⟨i+1,rfl,zO,zO,⟨_,zO,rfl⟩,L⟩ ?_);rintro j G F ⟨M,T,⟨w,U,e⟩,I⟩;refine Af (sF I) λG1 a1=>?_;have g:=I.call a1;by_cases q:t.size<=j;{rw[a_ q];have e2:Ih t i w j= .inl (52,i):=by{cases w<;>unfold Ih<;>first | rfl | exact H_ q};rw[e2]at e;refine An.mk (KY (c2:=52) (p2:=i) g.rebase) ?_;rintro _ G2 ⟨rfl,b⟩;(conv=>whnf);rw[e];exact⟨rfl,j,.of (g.thn b)⟩};rw[b_ q];have⟨V,N,O,W⟩:=CY (vO q);obtain⟨u,rfl⟩:∃m,w=m+1:=⟨w-1,zO⟩;rw[show Ih t i (u+1) j=(if t.size<=j then .inl (52,i)else if bt t j=92/\j+1<t.size then(if uZ (bt t (j+1))then Ih t i u (j+2)else .inl (50,j+1))else if uZ (bt t j)=zU then .inl (50,j)else if bt t j=47 then .inr (j+1)else Ih t i u (j+1))from rfl,G_ q]at e;repeat (refine AC.run ?_)
 refine Ap.lex rfl zX ?_;repeat ((conv=>whnf);first | refine E_ ?_ | refine wV g ?_ | refine yK g ?_ | refine En Ek rfl N ?_)
 rw[<-O];refine AC.run (Ap.lex rfl zX ?_);by_cases y:bt t j=92/\j+1<t.size;{have z:((bt t j:Int)==92)=zW:=by{rw[y.1];rfl};have A:zT ((j:Int)+1<(t.size:Int))=zW:=Y';rw[H_ y]at e;(repeat ((conv=>whnf);first | rw[z] | rw[A] | rw[S_ j zO] | refine E_ ?_ | refine wV g ?_ | refine yK g ?_));refine vB (j+1) g λG3 b=>?_;have⟨X,C,k,Y⟩:=CY y.2;refine Ap.quiet (F_ G3) rfl zX ?_;(repeat ((conv=>whnf);first | refine E_ ?_ | refine wV b ?_ (b.in_ 0 rfl rfl).2 | refine yK b ?_ (b.in_ 0 rfl rfl).2 | refine En Ek rfl C ?_));rw[<-k];refine Ei (λH' Z=>Gd) ?_;cases J:uZ (bt t (j+1))with|false=>{rw[J,G_ nofun]at e;(conv=>whnf);intro G4 a4;have d:=b.call a4;(repeat ((conv=>whnf);first | refine E_ ?_ | refine yK d ?_));refine An.mk (KY (c2:=50) (p2:=(j+1:Nat)) d.rebase) ?_;rintro _ G5 ⟨rfl,l⟩;(conv=>whnf);rw[e];exact⟨rfl,j+1,.of (d.thn l)⟩}|true=>{rw[J,H_ rfl]at e;(conv=>whnf);intro G4 a4;have d:=b.call a4;refine Af (Gd (c:=32)) λG5 P=>?_;have l:=d.call P;(repeat ((conv=>whnf);first | rw[m_ (x:=((j+1:Nat):Int)+1) zO] | refine E_ ?_ | refine yK l ?_));refine vB (j+2) l λG6 Q=>?_;(conv=>whnf);exact⟨rfl,j+2,rfl,⟨zO,zO,⟨u,zO,e⟩,Q⟩,zO⟩}};rw[G_ y]at e;cases z:((bt t j:Int)==92);(all_goals have A:((bt t j:Int)==92)=zW->zT ((j:Int)+1<(t.size:Int))=zU:=λh=>b_ (by simp at h;omega);rw[z]at A;(repeat ((conv=>whnf);first | rw[z] | rw[A rfl] | rw[S_ j zO] | refine E_ ?_ | refine wV g ?_ | refine yK g ?_));refine Af (Gd) λG3 a3=>?_;have b:=g.call a3;cases C:uZ (bt t j)with|false=>{rw[C,H_ rfl]at e;(repeat ((conv=>whnf);first | refine E_ ?_ | refine yK b ?_));refine An.mk (KY (c2:=50) (p2:=j) b.rebase) ?_;rintro _ G4 ⟨rfl,d⟩;(conv=>whnf);rw[e];exact⟨rfl,j,.of (b.thn d)⟩}|true=>{rw[C,G_ nofun]at e;by_cases k:bt t j=47;{have D:((bt t j:Int)==47)=zW:=by{rw[k];rfl};rw[H_ k]at e;(repeat ((conv=>whnf);first | rw[D] | rw[S_ j zO] | refine E_ ?_ | refine yK b ?_));refine vB (j+1) b λG4 d=>(Ap.heldZ (F_ G4) [14,15] (sq [0,1,2,3,4,5,6,7,8,9,10,11,12,13] (.f 14 (.f 15 .e))) rfl zX ?_);(repeat ((conv=>whnf);first | rw[S_ i zO] | rw[m_ (x:=((j+1:Nat):Int)-1) zO] | refine E_ ?_ | refine wV d ?_ (d.in_ 0 rfl rfl).2 | refine yK d ?_ (d.in_ 0 rfl rfl).2 | refine M6 Ek zO zO zO ?_));rw[show((i:Int)+1).toNat=i+1 by omega,show(((j+1:Nat):Int)-1).toNat=j+1-1 by omega];refine An.mk (Qc K (.off d)) ?_;rintro _ G5 ⟨rfl,l⟩;(conv=>whnf);rw[e];exact⟨rfl,l.thn d⟩};have D:((bt t j:Int)==47)=zU:=Dl k;rw[G_ k]at e;(repeat ((conv=>whnf);first | rw[D] | rw[S_ j zO] | refine E_ ?_ | refine yK b ?_));refine vB (j+1) b λG4 d=>?_;(conv=>whnf);exact⟨rfl,j+1,rfl,⟨zO,zO,⟨u,zO,e⟩,d⟩,zO⟩})
end
section
variable{u v:ByteArray}
def Li:(u.toList==v.toList)=zW↔u=v:=by constructor;{intro h;have h:=eq_of_beq h;rw[ByteArray.toList_eq,ByteArray.toList_eq]at h;exact ByteArray.ext (Array.toList_inj.1 h)};rintro rfl;exact beq_self_eq_true _
def Lj(h:u≠v):(u.toList==v.toList)=zU:=by cases a:(u.toList==v.toList)with|false=>rfl|true=>exact absurd (Li.1 a) h
def CP:(u.toList==v.toList)=zT (u=v):=by by_cases h:u=v;{rw[a_ h];exact Li.2 h};rw[b_ h];exact Lj h
end
def AiL{x y:ByteArray}(b:x.size<=1048576)(c:y.size<=1048576):AT prog 72 #[.string x,.string y] H (.bool (zT (y.size<=x.size)&&((x.extract 0 y.size).toList==y.toList))):=by refine Am.of_vc func72 rfl (call72 _) (Af (v:=.bool (zT (y.size<=x.size)&&((x.extract 0 y.size).toList==y.toList))) ?_ λH1 a1=>?_);{refine Am.of_vc func111 rfl (call111 _) ?_;by_cases h:y.size<=x.size;{have a:zT ((y.size:Int)<=x.size)=zW:=Y';(repeat ((conv=>whnf);first | rw[a] | refine hU Ek zO zO ?_));exact⟨by rw[a_ h];rfl,A_.refl _ _⟩};have a:zT ((y.size:Int)<=x.size)=zU:=j_;(repeat ((conv=>whnf);first | rw[a]));exact⟨by rw[b_ h];rfl,A_.refl _ _⟩};(conv=>whnf);exact⟨rfl,a1⟩
def AdP{i:Nat}{a b:UInt8}(d:t.data[i]?=zY a)(c:t.data[i+1]?=zY b):t.extract i (i+2)=⟨#[a,b]⟩:=by have f:=(wW.1 c).1;apply ByteArray.ext;apply Array.ext_getElem?;intro k;have e:(t.extract i (i+2)).data=t.data.extract i (i+2):=zZ;rw[e,Array.getElem?_extract];match k with|0=>rw[H_ zO];simpa using d|1=>rw[H_ zO];simpa using c|k+2=>rw[G_ zO];simp
def Al9{i:Nat}(f:i<t.size):(zT (Ez.size<=(t.extract i t.size).size)&&(((t.extract i t.size).extract 0 Ez.size).toList==Ez.toList))=zT (bt t i=62/\bt t (i+1)=62):=by have hs:(t.extract i t.size).size=t.size-i:=zZ;rw[CP,hs];by_cases h:i+1<t.size;{obtain⟨a,g,j,-⟩:=CY f;obtain⟨b,k,l,-⟩:=CY h;have e:(t.extract i t.size).extract 0 Ez.size=⟨#[a,b]⟩:=by{rw[ByteArray.extract_extract,<-AdP g k];congr 1;show min (i+2) t.size=i+2;omega};rw[e,a_ (show Ez.size<=t.size-i from by show 2<=t.size-i;omega),Bool.true_and,decide_eq_decide,j,l];constructor;{intro h;injection h with h;injection h with h;injection h with c h;injection h with d;exact⟨by rw[c];rfl,by rw[d];rfl⟩};rintro⟨c,d⟩;rw[show a=62 from UInt8.toNat_inj.1 c,show b=62 from UInt8.toNat_inj.1 d];rfl};rw[b_ (show¬Ez.size<=t.size-i from by show¬2<=t.size-i;omega),Bool.false_and,eq_comm,qC,Gq h];omega
def Ua{t:ByteArray}{q:Nat->Bool}(a:q 256=zU):∀n i,i<=t.size->Gi q t n i<=t.size
 | 0,i,h=>h
 | n+1,i,h=>by
   unfold Gi;split
   ·by_cases b:i<t.size
    ·exact Ua a n _ b
    ·rw[Gq b,a]at*;rename_i c;cases c
   ·exact h
def ScR.thn{s:Nat}{c p:Int}{ps:List Pc}{r:v_}(a:D_ B H0 H ps):∀{x:FT ⊕ (Tk×Nat)},ScR B H H' s t ts c p r x->ScR B H0 H' s t ts c p r x | .inl _,⟨h,j,h2⟩=>⟨h,j,h2.thn a⟩ | .inr _,⟨h,h2⟩=>⟨h,h2.thn a⟩
def uQ(c:Nat):Bool:=KK c|| uA c
def Aj3{s i:Nat}{c p:Int}(R:t.size<=4096)(A:ts.length<=1000000)(I:i<t.size)(h:ScS B H H s t i ts c p):Am prog 39 #[J_ s] H λr H'=> ScR B H H' s t ts c p r (uL t i):=by
 have⟨a,n,N⟩:=h;refine Am.of_vc func39 rfl (call39 _) ?_;have⟨b1,V,C,S⟩:=CY I;repeat ((conv=>whnf);first | refine E_ ?_ | refine wV N ?_ | refine yK N ?_ | refine En Ek rfl V ?_)
 rw[<-C];repeat (refine AC.run ?_)
 refine Af NX λH1 a1=>?_;have w:=N.call a1;unfold uL;cases h4:KK (bt t i)with|true=>{
 rw[H_ rfl];(conv=>whnf);rw[show(λc=>KK c|| uA c)=uQ from rfl];have sp:=OG (p:=uQ) (t:=t) (t.size-i) i;refine AD.mk [] (λ_:Nat=>[]) (λj G=>i<=j/\j<=t.size/\(∃n,t.size<=j+n/\Gi uQ t (t.size-i) i=Gi uQ t n j)/\D_ B H G [pSk s t j (.slice a ts.length n) c p,pTk a n ts]) (λj _=>t.size-j) ⟨i,rfl,I_ _,zO,⟨_,zO,rfl⟩,w⟩ ?_;rintro j G T ⟨W,hj,⟨D,hn,e⟩,g⟩;refine Ap.quiet (F_ G) rfl zX (Ei (λH' E=>sF (g.call E)) ?_);by_cases z:j<t.size/\uQ (bt t j)=zW;{rw[b_ (Nat.not_le_of_lt z.1)];have⟨X,l,q,Y⟩:=CY z.1;obtain⟨Z,rfl⟩:∃m,D=m+1:=⟨D-1,zO⟩;have hd:KK (bt t j)=zU->uA (bt t j)=zW:=λh=>by{have:=z.2;unfold uQ at this;rw[h]at this;exact this};cases U:KK (bt t j);(all_goals (repeat ((conv=>whnf);first | rw[U] | rw[hd U] | refine E_ ?_ | refine wV g ?_ (g.in_ 0 rfl rfl).2 | refine yK g ?_ (g.in_ 0 rfl rfl).2 | (refine En Ek rfl l ?_;rw[<-q]) | refine Ei (λH' E=>NX) ?_ | refine Ei (λH' E=>Wc) ?_));intro G2 a2;have b:=g.call a2;(repeat ((conv=>whnf);first | rw[S_ j zO] | refine E_ ?_ | refine yK b ?_));refine vB (j+1) b λG3 d=>?_;(conv=>whnf);exact⟨rfl,j+1,rfl,⟨zO,zO,⟨Z,zO,by rw[e];exact H_ z.2⟩,d⟩,zO⟩)};have e2:Gi uQ t D j=j:=by{cases D with|zero=>rfl|succ D=>exact G_ λh=>z ⟨Et λC=>by rw[C]at h;exact absurd h zQ,h⟩};rw[e2]at e;by_cases J:t.size<=j;rw[a_ J];rotate_left
 rw[b_ J];have⟨X,l,q,Y⟩:=CY (vO J);have hd:KK (bt t j)=zU/\uA (bt t j)=zU:=by{have:=λh=>z ⟨vO J,h⟩;unfold uQ at this;cases h:KK (bt t j)<;>cases C:uA (bt t j)<;>simp[h,C]at this ⊢};repeat ((conv=>whnf);first | rw[hd.1] | rw[hd.2] | refine E_ ?_ | refine wV g ?_ (g.in_ 0 rfl rfl).2 | refine yK g ?_ (g.in_ 0 rfl rfl).2 | (refine En Ek rfl l ?_;rw[<-q]) | refine Ei (λH' E=>NX) ?_ | refine Ei (λH' E=>Wc) ?_)
 (all_goals (conv=>whnf);intro G2 a2;have b:=g.call a2;rw[e];by_cases g1:32<j-i;{have u:zT ((32:Int)<(j:Int)-i)=zW:=Y';rw[H_ g1];(repeat ((conv=>whnf);first | rw[u] | rw[m_ (x:=(j:Int)-i) zO] | refine E_ ?_ | refine yK b ?_));refine An.mk (KY (c2:=1) (p2:=i) b.rebase) ?_;rintro _ G3 ⟨rfl,d⟩;(conv=>whnf);exact⟨rfl,j,.of (b.thn d)⟩};have u:zT ((32:Int)<(j:Int)-i)=zU:=j_;rw[G_ g1];(repeat ((conv=>whnf);first | rw[u] | rw[m_ (x:=(j:Int)-i) zO] | refine E_ ?_ | refine yK b ?_));refine Ap.heldZ (F_ G2) [12,13] (sq [0,1,2,3,4,5,6,7,8,9,10,11] (.f 12 (.f 13 .e))) rfl zX ?_;(repeat ((conv=>whnf);first | refine E_ ?_ | refine wV b ?_ (b.in_ 0 rfl rfl).2 | refine yK b ?_ (b.in_ 0 rfl rfl).2 | refine M6 Ek zO zO zO ?_));refine An.mk (Qc A (.off b)) ?_;rintro _ G5 ⟨rfl,F⟩;(conv=>whnf);exact⟨rfl,F.thn b⟩)}|false=>{rw[G_ nofun];by_cases K:bt t i=34;{have u:((bt t i:Int)==34)=zW:=by{rw[K];rfl};rw[H_ K];(conv=>whnf);rw[u];refine An.mk (cP R A I (.off w)) ?_;intro r H2 O;(conv=>whnf);exact O.thn w};have u:((bt t i:Int)==34)=zU:=Dl K;rw[G_ K];by_cases L:bt t i=47;{have P:((bt t i:Int)==47)=zW:=by{rw[L];rfl};rw[H_ L];(repeat ((conv=>whnf);first | rw[u] | rw[P]));refine An.mk (AfJ R A I (.off w)) ?_;intro r H2 O;(conv=>whnf);exact O.thn w};have P:((bt t i:Int)==47)=zU:=Dl L;rw[G_ L];(repeat ((conv=>whnf);first | rw[u] | rw[P]));refine Af (Jh _ _ _) λH2 a2=>?_;have b:=w.call a2;by_cases l:bt t i∈ZQ;{have Q:zT (0<=indexByte [61,59,40,41,123,125,44,124,38,45,46,126,42,43,63] (UInt8.ofNat (bt t i)))=zW:=(SO _ S).trans (a_ l);rw[H_ l];(repeat ((conv=>whnf);first | rw[Q] | rw[S_ i zO] | refine E_ ?_ | refine yK b ?_));refine vB (i+1) b λG3 d=>(Ap.heldZ (F_ G3) [12,13] (sq [0,1,2,3,4,5,6,7,8,9,10,11] (.f 12 (.f 13 .e))) rfl zX ?_);(repeat ((conv=>whnf);first | refine E_ ?_ | refine wV d ?_ (d.in_ 0 rfl rfl).2 | refine yK d ?_ (d.in_ 0 rfl rfl).2 | refine M6 Ek zO zO zO ?_));refine An.mk (Qc A (.off d)) ?_;rintro _ G5 ⟨rfl,F⟩;(conv=>whnf);exact⟨rfl,F.thn d⟩};have Q:zT (0<=indexByte [61,59,40,41,123,125,44,124,38,45,46,126,42,43,63] (UInt8.ofNat (bt t i)))=zU:=(SO _ S).trans (b_ l);rw[G_ l];(repeat ((conv=>whnf);first | rw[Q] | refine E_ ?_ | refine wV b ?_ | refine hW Ek zO zO ?_));rw[show(i:Int).toNat=i from rfl];refine Af (AiL (y:=Ez) (by simp;omega) zQ) λG3 a3=>?_;have d:=b.call a3;rw[Al9 I];by_cases q:bt t i=62/\bt t (i+1)=62;{rw[H_ q,a_ q];(repeat ((conv=>whnf);first | rw[m_ (x:=(i:Int)+2) zO] | refine E_ ?_ | refine yK d ?_));refine vB (i+2) d λG4 M=>(An.mk (Qc (k:=4) (x:=Ez) A (.off M)) ?_);rintro _ G5 ⟨rfl,F⟩;(conv=>whnf);exact⟨rfl,F.thn M⟩};rw[G_ q,b_ q];refine An.mk (KY (c2:=50) (p2:=i) d.rebase) ?_;rintro _ G4 ⟨rfl,M⟩;(conv=>whnf);exact⟨rfl,i,.of (d.thn M)⟩}
def iJ{i:Nat}(f:i<t.size){x:Tk×Nat}(h:uL t i= .inr x):i<x.2/\x.2<=t.size:=by unfold uL at h;rw[show(λc=>KK c|| uA c)=uQ from rfl]at h;split at h;{rename_i b;split at h;{cases h};cases h;obtain⟨m,d⟩:∃m,t.size-i=m+1:=⟨t.size-i-1,zO⟩;refine⟨?_,Ua zQ _ _ zO⟩;rw[d];show i<Gi uQ t (m+1) i;unfold Gi;rw[H_ (show uQ (bt t i)=zW by unfold uQ;rw[b]<;>rfl)];exact yQ (tG i) (OG m (i+1)).1};split at h;{cases a:GY t i (t.size-(i+1)) (i+1) []with|inl e=>rw[a]at h;cases h|inr r=>rw[a]at h;cases h;have:=Nl _ _ _ _ a;simp only;omega};split at h;{cases a:Ih t i (t.size-(i+1)) (i+1)with|inl e=>rw[a]at h;cases h|inr r=>rw[a]at h;cases h;have:=R9 _ _ _ a;simp only;omega};split at h;{cases h;simp only;omega};split at h;{rename_i g;cases h;have:i+1<t.size:=Et zO;simp only;omega};cases h
structure RowI(B:Nat->Prop)(H:Aa)(s q2 q3 i:Nat)(t:ByteArray)(os:List Int)(ps:List Pc)(f:AF)(fs:List AF)(j:Nat)(any:Bool)(G:Aa):Prop where
 ex:∃(f':AF) (r:ReM) (B':Nat->Prop) (fn:v_) (a:Option Addr) (n cap:Nat),i<=j/\j<=t.size/\Cr t ⟨i,f,fs⟩=Cr t ⟨j,f',fs⟩/\(AU f').row=(if any then zY r else zV)/\
  (any=zU->r= .eps/\f'.factor=zV)/\(any=zW->HX (bt t j)=zU)/\f'.alt=f.alt/\f'.meet=f.meet/\f'.sign=f.sign/\f'.place=f.place/\
  (∀k,B k->B' k)/\A_ B H G/\D_ B' G G (sP s t j a n cap os ps++[pB 186 q2 Ar,pB 186 q3 (Ac r fn)])/\Cx B' G fn r
def FX(a:DY H)(b:B 0)(c:A_ B H H'):DY H':=by refine⟨a.1.eq (c _ b),?_⟩;have h:=c _ b;rw[Array.getElem?_eq_getElem a.2]at h;exact(wW.1 h).1
def TF(h:f.factor=zV):AU f=f:=by unfold AU;rw[h]
def Gh(f:AF):(AU f).alt=f.alt/\(AU f).meet=f.meet/\(AU f).sign=f.sign/\(AU f).place=f.place:=by unfold AU;split<;>exact⟨rfl,rfl,rfl,rfl⟩
def mL{s i:Nat}{ps:List Pc}(hE:DY H)(ao:B 0)(ht:t.size<=1048576)(hi:i<=t.size)(be:os.length=fs.length)(bf:fs.length<=1000)
  (ap:f.row=zV) (ae:f.factor=zV) (IH:∀i',i<i'->Kx t i') (sc:Sc B H s t i os ps):
  Aw prog 148 #[J_ s] H
   (λv H'=>∃j q r,i<=j/\j<=t.size/\(j=t.size\/bt t j=124\/bt t j=38\/bt t j=45\/bt t j=41)/\Cr t ⟨i,f,fs⟩=Cr t ⟨j,q,fs⟩/\(AU q).row.getD .eps=r/\
    q.alt=f.alt/\q.meet=f.meet/\q.sign=f.sign/\q.place=f.place/\SR B H s t j os ps r v H')
   (λx H'=>SE B H t ⟨i,f,fs⟩ x H'):=by
 have⟨a,n,cap,st⟩:=sc;refine Aw.of_vc func148 rfl (call148 _) (Aq (.agg Ar.toArray) Ar CW rfl ?_);intro Z H1 bh bj aq au;have st1:=st.box bh bj aq au;refine Ad underlying62 rfl _ rfl [] rfl (Ab.of (An.mk (Rg (r:=.eps) st1 rfl) ?_));rintro _ H2 ⟨B1,f1,rfl,s1,a2,aw,gs⟩;obtain⟨g1,c1,rfl⟩:=gs.fn;refine Aq (.agg Ar.toArray) Ar CW rfl ?_;intro q3 H3 bn bo ay az;have Q:=aw.box bn bo ay az;rw[yP]at Q;replace Q:D_ B1 H2 H3 (sP s t i a n cap os ps++[pB 186 Z Ar,pB 186 q3 Ar]):=Q;refine Bd (cs:=Ac .eps (.func (.func g1) #[] c1)) Q _ rfl (W_ _ _ 1) (by simp[Ac,Ar]) rfl λH4 K cd ce=>?_;rw[zB,CA rfl]at K;replace K:D_ B1 H2 H4 (sP s t i a n cap os ps++[pB 186 Z Ar,pB 186 q3 (Ac .eps (.func (.func g1) #[] c1))]):=K;(conv=>whnf);refine CU.mk [4] (λx:Nat×Bool=>match x with | (_,b)=>[.bool b]) (λx G=>match x with | (j,b)=>RowI B H s Z q3 i t os ps f fs j b G) (λx _=>match x with | (j,_)=>t.size-j) ?_ ?_;{(conv=>whnf);refine⟨(i,zU),rfl,⟨f,.eps,B1,.func (.func g1) #[] c1,a,n,cap,I_ _,hi,rfl,by rw[TF ae];exact ap,λ_=>⟨rfl,ae⟩,λh=>ApV h,rfl,rfl,rfl,rfl,s1,?_,K.rebase,gs.frame K.old λk l=>l⟩⟩;exact(st1.old.trans (a2.mono λk l=>st1.up l)).trans λk l=>K.old k (s1 k l)};{
 rintro⟨j,N⟩ G c9 ⟨q,r,B2,f2,a2,n2,F,R,hj,D,hr,I,a0,e1,e2,e3,e4,y,ag,b0,gv⟩;obtain⟨z,A,rfl⟩:=gv.fn;clear st st1 aw Q K gs aq ay au az;have S:(AU q).row.getD .eps=r:=by{rw[hr];cases N with|false=>exact(I rfl).1.symm|true=>rfl};refine Ab.of (Af (E8 (b0.blk 0 rfl)) λG1 bp=>?_);have a8:=b0.call bp;by_cases h0:j<t.size;{
 rw[b_ (show¬t.size<=j by omega)];refine Ab.of (Af (Do (a8.blk 0 rfl) h0) λG2 bq=>?_);have m:=a8.call bq;refine Ah.run ?_;(conv=>whnf);by_cases M:bt t j=124;{have d:(((bt t j:Nat):Int)==124)=zW:=by{rw[M];rfl};(conv=>whnf);rw[d];clear d;refine K_ (cs:=Ac r (.func (.func z) #[] A)) (A9 (m.blk _ (W_ _ _ 1))) zA (Bd (cs:=Ac r (.func (.func z) #[] A)) m _ rfl (W_ _ _ 0) (by simp[Ac,Ar]) rfl λG9 g ja js=>?_);rw[zB,CA rfl]at g;refine lN (cs:=Ac r (.func (.func z) #[] A)) (A9 (g.blk _ (W_ _ _ 0))) ?_;exact⟨j,q,r,R,hj,.inr (.inl M),D,S,e1,e2,e3,e4,B2,_,rfl,y,ag.trans λk l=>g.old k (y k l),⟨a2,n2,F,g.lft.rebase⟩,gv.frame g.old λk l=>l⟩};{
 have d:(((bt t j:Nat):Int)==124)=zU:=Dl M;(conv=>whnf);rw[d];clear d;by_cases a9:bt t j=38;{have d:(((bt t j:Nat):Int)==38)=zW:=by{rw[a9];rfl};(conv=>whnf);rw[d];clear d;refine K_ (cs:=Ac r (.func (.func z) #[] A)) (A9 (m.blk _ (W_ _ _ 1))) zA (Bd (cs:=Ac r (.func (.func z) #[] A)) m _ rfl (W_ _ _ 0) (by simp[Ac,Ar]) rfl λG9 g ja js=>?_);rw[zB,CA rfl]at g;refine lN (cs:=Ac r (.func (.func z) #[] A)) (A9 (g.blk _ (W_ _ _ 0))) ?_;exact⟨j,q,r,R,hj,.inr (.inr (.inl a9)),D,S,e1,e2,e3,e4,B2,_,rfl,y,ag.trans λk l=>g.old k (y k l),⟨a2,n2,F,g.lft.rebase⟩,gv.frame g.old λk l=>l⟩};{
 have d:(((bt t j:Nat):Int)==38)=zU:=Dl a9;(conv=>whnf);rw[d];clear d;by_cases ab:bt t j=45;{have d:(((bt t j:Nat):Int)==45)=zW:=by{rw[ab];rfl};(conv=>whnf);rw[d];clear d;refine K_ (cs:=Ac r (.func (.func z) #[] A)) (A9 (m.blk _ (W_ _ _ 1))) zA (Bd (cs:=Ac r (.func (.func z) #[] A)) m _ rfl (W_ _ _ 0) (by simp[Ac,Ar]) rfl λG9 g ja js=>?_);rw[zB,CA rfl]at g;refine lN (cs:=Ac r (.func (.func z) #[] A)) (A9 (g.blk _ (W_ _ _ 0))) ?_;exact⟨j,q,r,R,hj,.inr (.inr (.inr (.inl ab))),D,S,e1,e2,e3,e4,B2,_,rfl,y,ag.trans λk l=>g.old k (y k l),⟨a2,n2,F,g.lft.rebase⟩,gv.frame g.old λk l=>l⟩};{
 have d:(((bt t j:Nat):Int)==45)=zU:=Dl ab;(conv=>whnf);rw[d];clear d;by_cases ad:bt t j=41;{have d:(((bt t j:Nat):Int)==41)=zW:=by{rw[ad];rfl};(conv=>whnf);rw[d];clear d;refine K_ (cs:=Ac r (.func (.func z) #[] A)) (A9 (m.blk _ (W_ _ _ 1))) zA (Bd (cs:=Ac r (.func (.func z) #[] A)) m _ rfl (W_ _ _ 0) (by simp[Ac,Ar]) rfl λG9 g ja js=>?_);rw[zB,CA rfl]at g;refine lN (cs:=Ac r (.func (.func z) #[] A)) (A9 (g.blk _ (W_ _ _ 0))) ?_;exact⟨j,q,r,R,hj,.inr (.inr (.inr (.inr ad))),D,S,e1,e2,e3,e4,B2,_,rfl,y,ag.trans λk l=>g.old k (y k l),⟨a2,n2,F,g.lft.rebase⟩,gv.frame g.old λk l=>l⟩};{
 have d:(((bt t j:Nat):Int)==41)=zU:=Dl ad;(conv=>whnf);rw[d];clear d;(conv=>whnf);try refine Ah.run ?_
 by_cases T:bt t j=42;{have d:(((bt t j:Nat):Int)==42)=zW:=by{rw[T];rfl};(conv=>whnf);rw[d];clear d;refine E_ ?_;refine C_ ((m.blk 0 rfl).cellE rfl) zA (Ab.mk (CC (c:=20) (e:=j)) (λ_ _ h=>h.elim) ?_);rintro _ _ ⟨rfl,rfl⟩;have L:q.factor=zV:=by{cases N with|false=>exact(I rfl).2|true=>have:=a0 rfl;rw[T]at this;exact absurd this zQ};exact⟨20,j,D.trans (EN (s:=⟨j,q,fs⟩) h0 (Ge (by rw[T];rfl) L)),rfl,ag.trans λk l=>m.old k (y k l)⟩};{
 have d:(((bt t j:Nat):Int)==42)=zU:=Dl T;(conv=>whnf);rw[d];clear d;by_cases U:bt t j=43;{have d:(((bt t j:Nat):Int)==43)=zW:=by{rw[U];rfl};(conv=>whnf);rw[d];clear d;refine E_ ?_;refine C_ ((m.blk 0 rfl).cellE rfl) zA (Ab.mk (CC (c:=20) (e:=j)) (λ_ _ h=>h.elim) ?_);rintro _ _ ⟨rfl,rfl⟩;have L:q.factor=zV:=by{cases N with|false=>exact(I rfl).2|true=>have:=a0 rfl;rw[U]at this;exact absurd this zQ};exact⟨20,j,D.trans (EN (s:=⟨j,q,fs⟩) h0 (Ge (by rw[U];rfl) L)),rfl,ag.trans λk l=>m.old k (y k l)⟩};{
 have d:(((bt t j:Nat):Int)==43)=zU:=Dl U;(conv=>whnf);rw[d];clear d;by_cases V:bt t j=63;{have d:(((bt t j:Nat):Int)==63)=zW:=by{rw[V];rfl};(conv=>whnf);rw[d];clear d;refine E_ ?_;refine C_ ((m.blk 0 rfl).cellE rfl) zA (Ab.mk (CC (c:=20) (e:=j)) (λ_ _ h=>h.elim) ?_);rintro _ _ ⟨rfl,rfl⟩;have L:q.factor=zV:=by{cases N with|false=>exact(I rfl).2|true=>have:=a0 rfl;rw[V]at this;exact absurd this zQ};exact⟨20,j,D.trans (EN (s:=⟨j,q,fs⟩) h0 (Ge (by rw[V];rfl) L)),rfl,ag.trans λk l=>m.old k (y k l)⟩};{
 have d:(((bt t j:Nat):Int)==63)=zU:=Dl V;(conv=>whnf);rw[d];clear d;by_cases J:bt t j=123;{have d:(((bt t j:Nat):Int)==123)=zW:=by{rw[J];rfl};(conv=>whnf);rw[d];clear d;refine E_ ?_;refine C_ ((m.blk 0 rfl).cellE rfl) zA (Ab.mk (CC (c:=20) (e:=j)) (λ_ _ h=>h.elim) ?_);rintro _ _ ⟨rfl,rfl⟩;have L:q.factor=zV:=by{cases N with|false=>exact(I rfl).2|true=>have:=a0 rfl;rw[J]at this;exact absurd this zQ};exact⟨20,j,D.trans (EN (s:=⟨j,q,fs⟩) h0 (Ge (by rw[J];rfl) L)),rfl,ag.trans λk l=>m.old k (y k l)⟩};{
 have d:(((bt t j:Nat):Int)==123)=zU:=Dl J;(conv=>whnf);rw[d];clear d;(conv=>whnf);try refine Ah.run ?_
 have br:QT (bt t j):=⟨M,a9,ab,ad,Tf T U V J⟩;refine Ab.mk (AhT (f:=q) (fs:=fs) (FX hE ao (ag.trans λk l=>m.old k (y k l))) (y _ ao) ht h0 be bf br (λi' cg=>IH i' zO) (B:=B2) (ps:=ps++[pB 186 Z Ar,pB 186 q3 (Ac r (.func (.func z) #[] A))]) ⟨a2,n2,F,m.rebase⟩) ?_ ?_;rotate_left
 {intro x G3 h;exact h.from D (ag.trans λk l=>m.old k (y k l)) y};rintro _ G3 ⟨j1,r1,ch,b4,b5,⟨B3,f3,rfl,s3,a3,⟨a4,n4,C,ak⟩,bu⟩⟩;have bv:A_ B H G2:=ag.trans λk l=>m.old k (y k l);have b6:A_ B H G3:=bv.trans λk l=>a3 k (y k l);have bw:Cx B3 G3 (.func (.func z) #[] A) r:=gv.frame (m.old.trans a3) s3;replace ak:D_ B3 G3 G3 (sP s t j1 a4 n4 C os ps++[pB 186 Z Ar,pB 186 q3 (Ac r (.func (.func z) #[] A))]):=ak;refine Ab.mk (XX (k:=0) (f:={AU q with factor:=zY r1}) (fs:=fs) zO b4 rfl ak rfl bu) ?_ ?_;rotate_left
 {rintro x G4 ⟨c,p,h1,h2,h3⟩;exact⟨c,p,(D.trans b5).trans h1,h2,b6.trans λk l=>h3 k (s3 k (y k l))⟩};rintro _ G4 ⟨j2,u,ci,ah,ai,bx,⟨B4,f4,rfl,s4,a5,am,b7⟩⟩;have bz:A_ B H G4:=b6.trans λk l=>a5 k (s3 k (y k l));have c2:Cx B4 G4 (.func (.func z) #[] A) r:=bw.frame a5 s4;obtain⟨O,P,rfl⟩:=b7.fn;replace am:D_ B4 G4 G4 (sP s t j2 a4 n4 C os ps++[pB 186 Z Ar,pB 186 q3 (Ac r (.func (.func z) #[] A))]):=am;refine BO am (.agg Ar.toArray) Ar CW rfl λq5 G5 b8=>?_;rw[yP]at b8;refine Bd (cs:=Ac u (.func (.func O) #[] P)) b8 _ rfl (W_ _ _ 2) (by simp[Ac,Ar]) rfl λG6 w cj ck=>?_;rw[zB,CA rfl]at w;replace w:D_ B4 G4 G6 (sP s t j2 a4 n4 C os ps++[pB 186 Z Ar,pB 186 q3 (Ac r (.func (.func z) #[] A)),pB 186 q5 (Ac u (.func (.func O) #[] P))]):=w;have b9:A_ B H G6:=bz.trans λk l=>w.old k (s4 k (s3 k (y k l)));have c3:=c2.frame w.old λk l=>l;have aj:=b7.frame w.old λk l=>l;have bd:Cr t ⟨i,f,fs⟩=Cr t ⟨j2,{AU q with factor:=zY u},fs⟩:=D.trans (b5.trans bx);have⟨z1,z2,z3,z4⟩:=Gh q;(conv=>whnf);cases N with|false=>{replace hr:(AU q).row=zV:=hr;(conv=>whnf);(try refine Ah.run ?_);refine K_ (cs:=Ac (u) (.func (.func O) #[] P)) (A9 (w.blk _ (W_ _ _ 2))) zA (Bd (cs:=Ac (u) (.func (.func O) #[] P)) w _ rfl (W_ _ _ 1) (by simp[Ac]) rfl λG9 g W c5=>?_);rw[zB]at g;have e9:As (Ac r (.func (.func z) #[] A)) 0 (Ac (u) (.func (.func O) #[] P))=Ac (u) (.func (.func O) #[] P):=CA rfl;replace g:D_ B4 _ G9 (sP s t j2 a4 n4 C os ps++[pB 186 Z Ar,pB 186 q3 (As (Ac r (.func (.func z) #[] A)) 0 (Ac (u) (.func (.func O) #[] P))),pB 186 q5 (Ac (u) (.func (.func O) #[] P))]):=g;rw[e9]at g;(conv=>whnf);refine⟨rfl,(j2,zW),rfl,⟨{AU q with factor:=zY u},u,B4,.func (.func O) #[] P,a4,n4,C,zO,ah,bd,?_,λh=>ApV h,λ_=>ai,z1.trans e1,z2.trans e2,z3.trans e3,z4.trans e4,(λk l=>s4 k (s3 k (y k l))),?_,(g.subl ((sQ _).2 (List.Sublist.cons_cons _ (List.Sublist.cons_cons _ (sR _))))).rebase,?_⟩,?_⟩;{show zY (YU (AU q).row u)=zY (u);rw[hr];rfl};{exact b9.trans (W.mono λk l=>λe=>(w.rng _ (uI _ (yD _ yN)) k e).1 ((λk l=>s4 k (s3 k (y k l))) k l))};{exact aj.frame (W.mono λk l=>λe=>(w.rng _ (uI _ (yD _ yN)) k e).1 l) λk l=>l};{show t.size-j2<t.size-j;omega}}|true=>{replace hr:(AU q).row=zY r:=hr;(conv=>whnf);(try refine Ah.run ?_);refine K_ (cs:=Ac r (.func (.func z) #[] A)) (A9 (w.blk _ (W_ _ _ 1))) zA (K_ (cs:=Ac u (.func (.func O) #[] P)) (A9 (w.blk _ (W_ _ _ 2))) zA (Ab.of (An.mk (Hx .cat w c3 aj) ?_)));rintro _ G7 ⟨B7,f7,rfl,s7,a7,c6,gj⟩;obtain⟨X,Y,rfl⟩:=gj.fn;refine Bd (cs:=Ac (.cat r u) (.func (.func X) #[] Y)) c6 _ rfl (W_ _ _ 2) (by simp[Ac]) rfl λG8 E cm co=>?_;rw[zB]at E;have e8:As (Ac u (.func (.func O) #[] P)) 0 (Ac (.cat r u) (.func (.func X) #[] Y))=Ac (.cat r u) (.func (.func X) #[] Y):=CA rfl;replace E:D_ B7 G7 G8 (sP s t j2 a4 n4 C os ps++[pB 186 Z Ar,pB 186 q3 (Ac r (.func (.func z) #[] A)),pB 186 q5 (As (Ac u (.func (.func O) #[] P)) 0 (Ac (.cat r u) (.func (.func X) #[] Y)))]):=E;rw[e8]at E;have s8:∀k,B k->B7 k:=λk l=>s7 k (s4 k (s3 k (y k l)));have ag8:A_ B H G8:=(b9.trans (a7.mono λk l=>w.up (s4 k (s3 k (y k l))))).trans λk l=>E.old k (s8 k l);have c8:=gj.frame E.old λk l=>l;refine K_ (cs:=Ac (.cat r u) (.func (.func X) #[] Y)) (A9 (E.blk _ (W_ _ _ 2))) zA (Bd (cs:=Ac (.cat r u) (.func (.func X) #[] Y)) E _ rfl (W_ _ _ 1) (by simp[Ac]) rfl λG9 g W c5=>?_);rw[zB]at g;have e9:As (Ac r (.func (.func z) #[] A)) 0 (Ac (.cat r u) (.func (.func X) #[] Y))=Ac (.cat r u) (.func (.func X) #[] Y):=CA rfl;replace g:D_ B7 _ G9 (sP s t j2 a4 n4 C os ps++[pB 186 Z Ar,pB 186 q3 (As (Ac r (.func (.func z) #[] A)) 0 (Ac (.cat r u) (.func (.func X) #[] Y))),pB 186 q5 (Ac (.cat r u) (.func (.func X) #[] Y))]):=g;rw[e9]at g;(conv=>whnf);refine⟨rfl,(j2,zW),rfl,⟨{AU q with factor:=zY u},.cat r u,B7,.func (.func X) #[] Y,a4,n4,C,zO,ah,bd,?_,λh=>ApV h,λ_=>ai,z1.trans e1,z2.trans e2,z3.trans e3,z4.trans e4,s8,?_,(g.subl ((sQ _).2 (List.Sublist.cons_cons _ (List.Sublist.cons_cons _ (sR _))))).rebase,?_⟩,?_⟩;{show zY (YU (AU q).row u)=zY (.cat r u);rw[hr];rfl};{exact ag8.trans (W.mono λk l=>λe=>(E.rng _ (uI _ (yD _ yN)) k e).1 (s8 k l))};{exact c8.frame (W.mono λk l=>λe=>(E.rng _ (uI _ (yD _ yN)) k e).1 l) λk l=>l};{show t.size-j2<t.size-j;omega}}}}}}}}}}};{rw[a_ (zO:t.size<=j)];refine K_ (cs:=Ac r (.func (.func z) #[] A)) (A9 (a8.blk _ (W_ _ _ 1))) zA (Bd (cs:=Ac r (.func (.func z) #[] A)) a8 _ rfl (W_ _ _ 0) (by simp[Ac,Ar]) rfl λG9 g ja js=>?_);rw[zB,CA rfl]at g;refine lN (cs:=Ac r (.func (.func z) #[] A)) (A9 (g.blk _ (W_ _ _ 0))) ?_;exact⟨j,q,r,R,hj,.inl zO,D,S,e1,e2,e3,e4,B2,_,rfl,y,ag.trans λk l=>g.old k (y k l),⟨a2,n2,F,g.lft.rebase⟩,gv.frame g.old λk l=>l⟩}}
def Pl(f:AF):(AU f).factor=zV:=by unfold AU;split;{rename_i h;exact h};rfl
def Dr(f:AF):(CZ f).alt=f.alt/\(CZ f).place=f.place/\(CZ f).row=zV/\(CZ f).factor=zV:=by have⟨a,c,d,b⟩:=Gh f;exact⟨a,b,rfl,Pl f⟩
def L6(f:AF):(CZ f).meet=zY (match f.meet with | none=>(AU f).row.getD .eps | some q=>if f.sign=38 then .and_ q ((AU f).row.getD .eps)else .minus q ((AU f).row.getD .eps)):=by have⟨c,a,b,d⟩:=Gh f;show zY (match(AU f).meet with | none=>(AU f).row.getD .eps | some q=>if(AU f).sign=38 then .and_ q ((AU f).row.getD .eps)else .minus q ((AU f).row.getD .eps))=_;rw[a,b]
def Pt(f:AF):(CV f).alt=zY (match f.alt with | none=>(CZ f).meet.getD .eps | some q=>.alt q ((CZ f).meet.getD .eps)):=by have⟨a,b,c,d⟩:=Dr f;show zY (match(CZ f).alt with | none=>(CZ f).meet.getD .eps | some q=>.alt q ((CZ f).meet.getD .eps))=_;rw[a]
def F4(f:AF):(CV f).meet=zV/\(CV f).place=f.place/\(CV f).row=zV/\(CV f).factor=zV:=by have⟨d,a,b,c⟩:=Dr f;exact⟨rfl,a,b,c⟩
structure AkL(B:Nat->Prop)(H:Aa)(s q2 q3 i:Nat)(t:ByteArray)(os:List Int)(ps:List Pc)(f:AF)(fs:List AF)(j:Nat)(G:Aa):Prop where
 ex:∃(f':AF) (r:ReM) (B':Nat->Prop) (fn:v_) (a:Option Addr) (n cap:Nat),i<=j/\j<=t.size/\(j=t.size\/bt t j=124\/bt t j=38\/bt t j=45\/bt t j=41)/\Cr t ⟨i,f,fs⟩=Cr t ⟨j,f',fs⟩/\(CZ f').meet=zY r/\f'.alt=f.alt/\f'.place=f.place/\
  (∀k,B k->B' k)/\A_ B H G/\D_ B' G G (sP s t j a n cap os ps++[pB 186 q2 Ar,pB 186 q3 (Ac r fn)])/\Cx B' G fn r
def Td{s i:Nat}{ps:List Pc}(hE:DY H)(F:B 0)(ht:t.size<=1048576)(hi:i<=t.size)(a9:os.length=fs.length)(ab:fs.length<=1000)
  (ad:f.meet=zV) (aj:f.row=zV) (ak:f.factor=zV) (IH:∀i',i<i'->Kx t i') (sc:Sc B H s t i os ps):
  Aw prog 114 #[J_ s] H
   (λv H'=>∃j m r,i<=j/\j<=t.size/\(j=t.size\/bt t j=124\/bt t j=41)/\Cr t ⟨i,f,fs⟩=Cr t ⟨j,m,fs⟩/\(CZ m).meet=zY r/\m.alt=f.alt/\m.place=f.place/\SR B H s t j os ps r v H')
   (λx H'=>SE B H t ⟨i,f,fs⟩ x H'):=by
 have⟨a,n,cap,st⟩:=sc;refine Aw.of_vc func114 rfl (call114 _) (Aq (.agg Ar.toArray) Ar CW rfl ?_);intro I H1 az b0 am ao;have st1:=st.box az b0 am ao;refine Ab.mk (mL (f:=f) (fs:=fs) (FX hE F st1.old) F ht hi a9 ab aj ak IH (B:=B) (ps:=ps++[pB 186 I Ar]) ⟨a,n,cap,st1.rebase⟩) ?_ ?_;rotate_left
 {intro x H7 h;exact h.from rfl st1.old λk b=>b};rintro _ H2 ⟨K,f1,r1,L,M,N,O,P,e1,e2,e3,e5,⟨B1,f3,rfl,s1,a1,⟨a2,Q,c,W⟩,gs⟩⟩;obtain⟨g1,c1,rfl⟩:=gs.fn;replace W:D_ B1 H2 H2 (sP s t K a2 Q c os ps++[pB 186 I Ar]):=W;refine Aq (.agg Ar.toArray) Ar CW rfl ?_;intro A H3 b4 b5 ap aq;have R:=W.box b4 b5 ap aq;rw[yP]at R;replace R:D_ B1 H2 H3 (sP s t K a2 Q c os ps++[pB 186 I Ar,pB 186 A Ar]):=R;refine Bd (cs:=Ac r1 (.func (.func g1) #[] c1)) R _ rfl (W_ _ _ 1) (by simp[Ac,Ar]) rfl λH4 D bf bh=>?_;rw[zB,CA rfl]at D;replace D:D_ B1 H2 H4 (sP s t K a2 Q c os ps++[pB 186 I Ar,pB 186 A (Ac r1 (.func (.func g1) #[] c1))]):=D;have au:A_ B H H4:=(st1.old.trans a1).trans λk b=>D.old k (s1 k b);(conv=>whnf);refine CU.mk [] (λ_:Nat=>[]) (λj G=>AkL B H s I A i t os ps f fs j G) (λj _=>t.size-j) ?_ ?_;{(conv=>whnf);exact⟨K,rfl,⟨f1,r1,B1,.func (.func g1) #[] c1,a2,Q,c,L,M,N,O,by rw[L6,e2,ad,P],e1,e5,s1,au,D.rebase,gs.frame D.old λk b=>b⟩⟩};{
 rintro j G be ⟨m,r,B2,f2,a2,Q,c,aw,hj,a8,X,hm,ha,e4,C,ag,ay,gv⟩;obtain⟨y,z,rfl⟩:=gv.fn;clear st st1 W R D gs am ap ao aq a1 au s1;refine Ab.of (Af (E8 (ay.blk 0 rfl)) λG1 b6=>?_);have Y:=ay.call b6;by_cases h0:j<t.size;{
 rw[b_ (show¬t.size<=j by omega)];have a8:bt t j=124\/bt t j=38\/bt t j=45\/bt t j=41:=a8.resolve_left zO;refine Ab.of (Af (Do (Y.blk 0 rfl) h0) λG2 b7=>?_);have J:=Y.call b7;(conv=>whnf);try refine Ah.run ?_
 (conv=>whnf);by_cases Z:bt t j=38;{
 have d:(((bt t j:Nat):Int)==38)=zW:=by rw[Z];rfl
 (conv=>whnf);rw[d];refine E_ ?_;refine lT ((J.blk 0 rfl).cellE rfl) ?_;(conv=>whnf);rw[m_ (x:=(j:Int)+1) zO];refine E_ ?_;refine Bc J 0 rfl zZ rfl λG3 g=>?_;replace g:D_ B2 G G3 (sP s t (j+1) a2 Q c os ps++[pB 186 I Ar,pB 186 A (Ac r (.func (.func y) #[] z))]):=g;have E:A_ B H G3:=ag.trans λk b=>g.old k (C k b);have ae:=gv.frame g.old λk b=>b;have p:Cr t ⟨i,f,fs⟩=Cr t ⟨j+1,{CZ m with sign:=38},fs⟩:=X.trans (E5 (s:=⟨j,m,fs⟩) h0 (by have:=Ov (t:=t) (i:=j) (f:=m) (fs:=fs) (.inl Z);rw[Z]at this;exact this));refine A7.held (λk=>k=A) [4] (sq [0,1] (.f 2 (.f 3 (.f 4 .e)))) (AG _ _) rfl zX (K_ (cs:=Ac r (.func (.func y) #[] z)) (A9 (g.blk _ (W_ _ _ 1))) rfl (Ab.mk (mL (f:={CZ m with sign:=38}) (fs:=fs) (FX hE F E) (C _ F) ht zO a9 ab rfl (Dr m).2.2.2 (λi' b8=>IH i' zO) (B:=B2) (ps:=ps++[pB 186 I Ar,pB 186 A (Ac r (.func (.func y) #[] z))]) ⟨a2,Q,c,g.rebase⟩) ?_ ?_));rotate_left
 {intro x H7 h;exact h.from p E C};rintro _ G4 ⟨K,f1,S,L,M,N,O,P,e1,e2,e3,e5,⟨B3,f3,rfl,s3,a3,⟨a4,n4,q,u⟩,gs⟩⟩;replace u:D_ B3 G4 G4 (sP s t K a4 n4 q os ps++[pB 186 I Ar,pB 186 A (Ac r (.func (.func y) #[] z))]):=u;refine⟨λk b=>by rw[show k=A from b];exact(u.blk _ (W_ _ _ 1)).trans (g.blk _ (W_ _ _ 1)).symm,?_⟩;have ah:A_ B H G4:=E.trans λk b=>a3 k (C k b);refine Ab.of (An.mk (Hx .and_ u (ae.frame a3 s3) gs) ?_);rintro _ G5 ⟨B5,f5,rfl,s5,a5,T,gj⟩;refine⟨λk b=>by rw[show k=A from b];exact(T.blk _ (W_ _ _ 1)).trans (g.blk _ (W_ _ _ 1)).symm,?_⟩;obtain⟨U,V,rfl⟩:=gj.fn;refine Bd (cs:=Ac (opR .and_ r S) (.func (.func U) #[] V)) T _ rfl (W_ _ _ 1) (by simp[Ac]) rfl λG6 l b9 bd=>?_;rw[zB]at l;have e6:As (Ac r (.func (.func y) #[] z)) 0 (Ac (opR .and_ r S) (.func (.func U) #[] V))=Ac (opR .and_ r S) (.func (.func U) #[] V):=CA rfl;replace l:D_ B5 G5 G6 (sP s t K a4 n4 q os ps++[pB 186 I Ar,pB 186 A (As (Ac r (.func (.func y) #[] z)) 0 (Ac (opR .and_ r S) (.func (.func U) #[] V)))]):=l;rw[e6]at l;have s6:∀k,B k->B5 k:=λk b=>s5 k (s3 k (C k b));have ai:A_ B H G6:=(ah.trans (a5.mono λk b=>u.up (s3 k (C k b)))).trans λk b=>l.old k (s6 k b);(conv=>whnf);refine⟨rfl,K,rfl,⟨f1,opR .and_ r S,B5,.func (.func U) #[] V,a4,n4,q,zO,M,N,p.trans O,by rw[L6,e2,e3,show({CZ m with sign:=38}:AF).meet=(CZ m).meet from rfl,hm];show zY (if 38=38 then _ else _)=_;rw[H_ rfl,P]<;>rfl,e1.trans ((Dr m).1.trans ha),e5.trans ((Dr m).2.1.trans e4),s6,ai,l.rebase,gj.frame l.old λk b=>b⟩,zO⟩};{
 have d:(((bt t j:Nat):Int)==38)=zU:=Dl Z;(conv=>whnf);rw[d];clear d;by_cases a0:bt t j=45;{
 have d:(((bt t j:Nat):Int)==45)=zW:=by rw[a0];rfl
 (conv=>whnf);rw[d];refine E_ ?_;refine lT ((J.blk 0 rfl).cellE rfl) ?_;(conv=>whnf);rw[m_ (x:=(j:Int)+1) zO];refine E_ ?_;refine Bc J 0 rfl zZ rfl λG3 g=>?_;replace g:D_ B2 G G3 (sP s t (j+1) a2 Q c os ps++[pB 186 I Ar,pB 186 A (Ac r (.func (.func y) #[] z))]):=g;have E:A_ B H G3:=ag.trans λk b=>g.old k (C k b);have ae:=gv.frame g.old λk b=>b;have p:Cr t ⟨i,f,fs⟩=Cr t ⟨j+1,{CZ m with sign:=45},fs⟩:=X.trans (E5 (s:=⟨j,m,fs⟩) h0 (by have:=Ov (t:=t) (i:=j) (f:=m) (fs:=fs) (.inr a0);rw[a0]at this;exact this));refine A7.held (λk=>k=A) [4] (sq [0,1] (.f 2 (.f 3 (.f 4 .e)))) (AG _ _) rfl zX (K_ (cs:=Ac r (.func (.func y) #[] z)) (A9 (g.blk _ (W_ _ _ 1))) rfl (Ab.mk (mL (f:={CZ m with sign:=45}) (fs:=fs) (FX hE F E) (C _ F) ht zO a9 ab rfl (Dr m).2.2.2 (λi' b8=>IH i' zO) (B:=B2) (ps:=ps++[pB 186 I Ar,pB 186 A (Ac r (.func (.func y) #[] z))]) ⟨a2,Q,c,g.rebase⟩) ?_ ?_));rotate_left
 {intro x H7 h;exact h.from p E C};rintro _ G4 ⟨K,f1,S,L,M,N,O,P,e1,e2,e3,e5,⟨B3,f3,rfl,s3,a3,⟨a4,n4,q,u⟩,gs⟩⟩;replace u:D_ B3 G4 G4 (sP s t K a4 n4 q os ps++[pB 186 I Ar,pB 186 A (Ac r (.func (.func y) #[] z))]):=u;refine⟨λk b=>by rw[show k=A from b];exact(u.blk _ (W_ _ _ 1)).trans (g.blk _ (W_ _ _ 1)).symm,?_⟩;have ah:A_ B H G4:=E.trans λk b=>a3 k (C k b);refine Ab.of (An.mk (Hx .minus u (ae.frame a3 s3) gs) ?_);rintro _ G5 ⟨B5,f5,rfl,s5,a5,T,gj⟩;refine⟨λk b=>by rw[show k=A from b];exact(T.blk _ (W_ _ _ 1)).trans (g.blk _ (W_ _ _ 1)).symm,?_⟩;obtain⟨U,V,rfl⟩:=gj.fn;refine Bd (cs:=Ac (opR .minus r S) (.func (.func U) #[] V)) T _ rfl (W_ _ _ 1) (by simp[Ac]) rfl λG6 l b9 bd=>?_;rw[zB]at l;have e6:As (Ac r (.func (.func y) #[] z)) 0 (Ac (opR .minus r S) (.func (.func U) #[] V))=Ac (opR .minus r S) (.func (.func U) #[] V):=CA rfl;replace l:D_ B5 G5 G6 (sP s t K a4 n4 q os ps++[pB 186 I Ar,pB 186 A (As (Ac r (.func (.func y) #[] z)) 0 (Ac (opR .minus r S) (.func (.func U) #[] V)))]):=l;rw[e6]at l;have s6:∀k,B k->B5 k:=λk b=>s5 k (s3 k (C k b));have ai:A_ B H G6:=(ah.trans (a5.mono λk b=>u.up (s3 k (C k b)))).trans λk b=>l.old k (s6 k b);(conv=>whnf);refine⟨rfl,K,rfl,⟨f1,opR .minus r S,B5,.func (.func U) #[] V,a4,n4,q,zO,M,N,p.trans O,by rw[L6,e2,e3,show({CZ m with sign:=45}:AF).meet=(CZ m).meet from rfl,hm];show zY (if 45=38 then _ else _)=_;rw[G_ zQ,P]<;>rfl,e1.trans ((Dr m).1.trans ha),e5.trans ((Dr m).2.1.trans e4),s6,ai,l.rebase,gj.frame l.old λk b=>b⟩,zO⟩};{have d:(((bt t j:Nat):Int)==45)=zU:=Dl a0;(conv=>whnf);rw[d];refine K_ (cs:=Ac r (.func (.func y) #[] z)) (A9 (J.blk _ (W_ _ _ 1))) zA (Bd (cs:=Ac r (.func (.func y) #[] z)) J _ rfl (W_ _ _ 0) (by simp[Ac,Ar]) rfl λG9 w ja js=>?_);rw[zB,CA rfl]at w;refine lN (cs:=Ac r (.func (.func y) #[] z)) (A9 (w.blk _ (W_ _ _ 0))) ?_;exact⟨j,m,r,aw,hj,zO,X,hm,ha,e4,B2,_,rfl,C,ag.trans λk b=>w.old k (C k b),⟨a2,Q,c,w.lft.rebase⟩,gv.frame w.old λk b=>b⟩}}};{rw[a_ (zO:t.size<=j)];refine K_ (cs:=Ac r (.func (.func y) #[] z)) (A9 (Y.blk _ (W_ _ _ 1))) zA (Bd (cs:=Ac r (.func (.func y) #[] z)) Y _ rfl (W_ _ _ 0) (by simp[Ac,Ar]) rfl λG9 w ja js=>?_);rw[zB,CA rfl]at w;refine lN (cs:=Ac r (.func (.func y) #[] z)) (A9 (w.blk _ (W_ _ _ 0))) ?_;exact⟨j,m,r,aw,hj,zO,X,hm,ha,e4,B2,_,rfl,C,ag.trans λk b=>w.old k (C k b),⟨a2,Q,c,w.lft.rebase⟩,gv.frame w.old λk b=>b⟩}}
structure AltI(B:Nat->Prop)(H:Aa)(s q2 q3 i:Nat)(t:ByteArray)(os:List Int)(ps:List Pc)(f:AF)(fs:List AF)(j:Nat)(G:Aa):Prop where
 ex:∃(f':AF) (r:ReM) (B':Nat->Prop) (fn:v_) (a:Option Addr) (n cap:Nat),i<=j/\j<=t.size/\(j=t.size\/bt t j=124\/bt t j=41)/\Cr t ⟨i,f,fs⟩=Cr t ⟨j,f',fs⟩/\(CV f').alt=zY r/\f'.place=f.place/\
  (∀k,B k->B' k)/\A_ B H G/\D_ B' G G (sP s t j a n cap os ps++[pB 186 q2 Ar,pB 186 q3 (Ac r fn)])/\Cx B' G fn r
def YA{s i:Nat}{ps:List Pc}(hE:DY H)(I:B 0)(ht:t.size<=1048576)(hi:i<=t.size)(Y:os.length=fs.length)(Z:fs.length<=1000)
  (a0:f.alt=zV) (R:f.meet=zV) (a8:f.row=zV) (a9:f.factor=zV) (IH:∀i',i<i'->Kx t i') (sc:Sc B H s t i os ps):
  Aw prog 77 #[J_ s] H
   (λv H'=>∃j q r,i<=j/\j<=t.size/\(j=t.size\/bt t j=41)/\Cr t ⟨i,f,fs⟩=Cr t ⟨j,q,fs⟩/\(CV q).alt=zY r/\q.place=f.place/\SR B H s t j os ps r v H')
   (λx H'=>SE B H t ⟨i,f,fs⟩ x H'):=by
 have⟨a,n,cap,st⟩:=sc;refine Aw.of_vc func77 rfl (call77 _) (Aq (.agg Ar.toArray) Ar CW rfl ?_);intro J H1 ao ap ab ad;have st1:=st.box ao ap ab ad;refine Ab.mk (Td (f:=f) (fs:=fs) (FX hE I st1.old) I ht hi Y Z R a8 a9 IH (B:=B) (ps:=ps++[pB 186 J Ar]) ⟨a,n,cap,st1.rebase⟩) ?_ ?_;rotate_left
 {intro x H7 h;exact h.from rfl st1.old λk b=>b};rintro _ H2 ⟨O,f1,r1,P,S,T,U,V,e1,e5,⟨B1,f3,rfl,s1,a1,⟨a2,K,c,L⟩,gs⟩⟩;obtain⟨g1,c1,rfl⟩:=gs.fn;replace L:D_ B1 H2 H2 (sP s t O a2 K c os ps++[pB 186 J Ar]):=L;refine Aq (.agg Ar.toArray) Ar CW rfl ?_;intro E H3 aq au ae ah;have y:=L.box aq au ae ah;rw[yP]at y;replace y:D_ B1 H2 H3 (sP s t O a2 K c os ps++[pB 186 J Ar,pB 186 E Ar]):=y;refine Bd (cs:=Ac r1 (.func (.func g1) #[] c1)) y _ rfl (W_ _ _ 1) (by simp[Ac,Ar]) rfl λH4 m b6 b7=>?_;rw[zB,CA rfl]at m;replace m:D_ B1 H2 H4 (sP s t O a2 K c os ps++[pB 186 J Ar,pB 186 E (Ac r1 (.func (.func g1) #[] c1))]):=m;have ai:A_ B H H4:=(st1.old.trans a1).trans λk b=>m.old k (s1 k b);(conv=>whnf);refine CU.mk [] (λ_:Nat=>[]) (λj G=>AltI B H s J E i t os ps f fs j G) (λj _=>t.size-j) ?_ ?_;{(conv=>whnf);exact⟨O,rfl,⟨f1,r1,B1,.func (.func g1) #[] c1,a2,K,c,P,S,T,U,by rw[Pt,e1,a0,V];rfl,e5,s1,ai,m.rebase,gs.frame m.old λk b=>b⟩⟩};{
 rintro j G b5 ⟨q,r,B2,f2,a2,K,c,aj,hj,Q,W,hm,e4,F,ag,ak,gv⟩;obtain⟨u,w,rfl⟩:=gv.fn;clear st st1 L y m gs ab ae ad ah a1 ai s1;refine Ab.of (Af (E8 (ak.blk 0 rfl)) λG1 aw=>?_);have M:=ak.call aw;by_cases h0:j<t.size;{
 rw[b_ (show¬t.size<=j by omega)];have Q:bt t j=124\/bt t j=41:=Q.resolve_left zO;refine Ab.of (Af (Do (M.blk 0 rfl) h0) λG2 ay=>?_);have N:=M.call ay;(conv=>whnf);try refine Ah.run ?_
 (conv=>whnf);by_cases z:bt t j=124;{
 have d:(((bt t j:Nat):Int)==124)=zW:=by rw[z];rfl
 (conv=>whnf);rw[d];refine E_ ?_;refine lT ((N.blk 0 rfl).cellE rfl) ?_;(conv=>whnf);rw[m_ (x:=(j:Int)+1) zO];refine E_ ?_;refine Bc N 0 rfl zZ rfl λG3 l=>?_;replace l:D_ B2 G G3 (sP s t (j+1) a2 K c os ps++[pB 186 J Ar,pB 186 E (Ac r (.func (.func u) #[] w))]):=l;have X:A_ B H G3:=ag.trans λk b=>l.old k (F k b);have az:=gv.frame l.old λk b=>b;have A:Cr t ⟨i,f,fs⟩=Cr t ⟨j+1,CV q,fs⟩:=W.trans (E5 (s:=⟨j,q,fs⟩) h0 (XS z));refine A7.held (λk=>k=E) [4] (sq [0,1] (.f 2 (.f 3 (.f 4 .e)))) (AG _ _) rfl zX (K_ (cs:=Ac r (.func (.func u) #[] w)) (A9 (l.blk _ (W_ _ _ 1))) rfl (Ab.mk (Td (f:=CV q) (fs:=fs) (FX hE I X) (F _ I) ht zO Y Z (F4 q).1 (F4 q).2.2.1 (F4 q).2.2.2 (λi' b8=>IH i' zO) (B:=B2) (ps:=ps++[pB 186 J Ar,pB 186 E (Ac r (.func (.func u) #[] w))]) ⟨a2,K,c,l.rebase⟩) ?_ ?_));rotate_left
 {intro x H7 h;exact h.from A X F};rintro _ G4 ⟨O,f1,r2,P,S,T,U,V,e1,e5,⟨B3,f3,rfl,s3,a3,⟨a4,n4,C,D⟩,gs⟩⟩;replace D:D_ B3 G4 G4 (sP s t O a4 n4 C os ps++[pB 186 J Ar,pB 186 E (Ac r (.func (.func u) #[] w))]):=D;refine⟨λk b=>by rw[show k=E from b];exact(D.blk _ (W_ _ _ 1)).trans (l.blk _ (W_ _ _ 1)).symm,?_⟩;have b0:A_ B H G4:=X.trans λk b=>a3 k (F k b);refine Ab.of (An.mk (Hx .alt D (az.frame a3 s3) gs) ?_);rintro _ G5 ⟨B5,f5,rfl,s5,a5,am,gj⟩;refine⟨λk b=>by rw[show k=E from b];exact(am.blk _ (W_ _ _ 1)).trans (l.blk _ (W_ _ _ 1)).symm,?_⟩;obtain⟨g5,c5,rfl⟩:=gj.fn;refine Bd (cs:=Ac (opR .alt r r2) (.func (.func g5) #[] c5)) am _ rfl (W_ _ _ 1) (by simp[Ac]) rfl λG6 p b9 bd=>?_;rw[zB]at p;have e6:As (Ac r (.func (.func u) #[] w)) 0 (Ac (opR .alt r r2) (.func (.func g5) #[] c5))=Ac (opR .alt r r2) (.func (.func g5) #[] c5):=CA rfl;replace p:D_ B5 G5 G6 (sP s t O a4 n4 C os ps++[pB 186 J Ar,pB 186 E (As (Ac r (.func (.func u) #[] w)) 0 (Ac (opR .alt r r2) (.func (.func g5) #[] c5)))]):=p;rw[e6]at p;have s6:∀k,B k->B5 k:=λk b=>s5 k (s3 k (F k b));have b4:A_ B H G6:=(b0.trans (a5.mono λk b=>D.up (s3 k (F k b)))).trans λk b=>p.old k (s6 k b);(conv=>whnf);refine⟨rfl,O,rfl,⟨f1,opR .alt r r2,B5,.func (.func g5) #[] c5,a4,n4,C,zO,S,T,A.trans U,by rw[Pt,e1,hm,V];rfl,e5.trans ((F4 q).2.1.trans e4),s6,b4,p.rebase,gj.frame p.old λk b=>b⟩,zO⟩};{have d:(((bt t j:Nat):Int)==124)=zU:=Dl z;(conv=>whnf);rw[d];refine K_ (cs:=Ac r (.func (.func u) #[] w)) (A9 (N.blk _ (W_ _ _ 1))) zA (Bd (cs:=Ac r (.func (.func u) #[] w)) N _ rfl (W_ _ _ 0) (by simp[Ac,Ar]) rfl λG9 g ja js=>?_);rw[zB,CA rfl]at g;refine lN (cs:=Ac r (.func (.func u) #[] w)) (A9 (g.blk _ (W_ _ _ 0))) ?_;exact⟨j,q,r,aj,hj,zO,W,hm,e4,B2,_,rfl,F,ag.trans λk b=>g.old k (F k b),⟨a2,K,c,g.lft.rebase⟩,gv.frame g.old λk b=>b⟩}};{rw[a_ (zO:t.size<=j)];refine K_ (cs:=Ac r (.func (.func u) #[] w)) (A9 (M.blk _ (W_ _ _ 1))) zA (Bd (cs:=Ac r (.func (.func u) #[] w)) M _ rfl (W_ _ _ 0) (by simp[Ac,Ar]) rfl λG9 g ja js=>?_);rw[zB,CA rfl]at g;refine lN (cs:=Ac r (.func (.func u) #[] w)) (A9 (g.blk _ (W_ _ _ 0))) ?_;exact⟨j,q,r,aj,hj,zO,W,hm,e4,B2,_,rfl,F,ag.trans λk b=>g.old k (F k b),⟨a2,K,c,g.lft.rebase⟩,gv.frame g.old λk b=>b⟩}}
def VL{t:ByteArray}(g:t.size<=1048576):∀(n i:Nat),t.size-i<=n->i<=t.size->Kx t i
 | 0,i,hn,e=>λB H s h ps f fs j a e b c k l m p sc=>YA j a g e b c k l m p (λq r=>λB H s h ps f fs _ _ d=>absurd d (by omega)) sc
 | n+1,i,hn,e=>λB H s h ps f fs j a e b c k l m p sc=>YA j a g e b c k l m p (λq r=>by
    by_cases u:q<=t.size
    ·exact VL g n q (by omega) u
    ·exact λB H s h ps f fs _ _ d=>absurd d (by omega)) sc
def PK(q2 q3:Nat)(v:v_)(c e:Nat):List Pc:=[pB 35 q2 [v],pB 24 q3 (Ae c e)]
def WB{a:Nat}{K:Aa->Prop}(k:K H):BX prog 76 #[J_ a,J_ b] .returning .returning H K:=by refine BX.mk (R:=λH'=>H'=H) (Ce (R:=λH'=>H'=H) func76 rfl ⟨⟨_,rfl⟩,rfl,rfl,rfl,rfl,rfl⟩ .ret rfl ?_) (λH' h=>by rw[h];exact k);(conv=>whnf);refine⟨rfl,?_⟩;refine L9 underlying20 ?_;(conv=>whnf)
def WA{a e c0 e0:Nat}{v:v_}{ps:List Pc}{K:Aa->Prop}(j:D_ B H0 H (PK a b v c0 e0++ps))(k:∀H',D_ B H0 H' (PK a b .nilIface c e++ps)->K H'):BX prog 76 #[J_ a,J_ b] (.panicking (pe (Bx c e))) (.panicking [{v:=Bx c e,recovered:=zW}]) H K:=by refine BX.mk (R:=λH'=>D_ B H0 H' (PK a b .nilIface c e++ps)) (Ce (R:=λH'=>D_ B H0 H' (PK a b .nilIface c e++ps)) func76 rfl ⟨⟨_,rfl⟩,rfl,rfl,rfl,rfl,rfl⟩ (.pan _) rfl ?_) k;(conv=>whnf);refine⟨rfl,?_⟩;refine Mm underlying20 (Ap.held (λ_=>False) 4 (sq [0,1] (.f 2 (.f 3 .e))) rfl zX (He underlying24 (λl h=>by cases h) (Bc j 0 rfl zZ rfl λH1 st1=>(⟨λk g=>g.elim,?_⟩))));refine AB (cs:=Ae c e) st1 1 rfl rfl (I_ _) rfl λH3 d=>(⟨λk g=>g.elim,?_⟩);(conv=>whnf);have e2:As (Ae c0 e0) 0 (Ae c e)=Ae c e:=BC rfl;rw[e2]at d;exact d
def Nx(t:ByteArray)(v:v_):Prop:=match GD t with
 | .inl (c,p)=>v= .tuple #[.nilIface,.agg #[B_ c,B_ p,.string ⟨#[]⟩]]
 | .inr r=>v= .tuple #[Al r,.agg #[B_ 0,B_ 0,.string ⟨#[]⟩]]
def BY:(prog.info? 24).bind (·.zero)=zY (Bb 0 0):=zX
def AY{e:Nat}(h:L_ H b 24 (Ae c e)):AO H b 0 (Ae c e):=h.cells (λj v a=>by rw[N_];exact a)
def Af2(hE:DY H):Am prog 47 #[.string t] H λv H'=>A_ (F_ H) H H'/\Nx t v:=by
 refine Am.of_rest func47 rfl (call47 _) (Bn.seq (BO (St.nil H) .nilIface [.nilIface] rfl rfl λR H1 st1=>(BO st1 (Bb 0 0) (Ae 0 0) BY rfl λS H2 b=>?_)));replace b:D_ (F_ H) H H2 (PK R S .nilIface 0 0):=b;refine Bn.seq ?_;by_cases q:1048576<t.size;{have T:zT (1048576<(t.size:Int))=zW:=Y';(conv=>whnf);rw[T];refine Ad underlying24 rfl _ rfl (Ae 1 0) rfl (Bc b 0 rfl zZ rfl λH3 U=>(AB (cs:=Ae 1 0) U 1 rfl rfl (I_ _) rfl λH4 l=>?_));have e2:As (Ae 0 0) 0 (Ae 1 0)=Ae 1 0:=BC rfl;rw[e2]at l;refine C_ ((l.blk 0 rfl).cellE rfl) zA (K_ (cs:=Ae 1 0) (AY (l.blk 1 rfl)) zA (⟨l.old,?_⟩));unfold Nx GD;rw[H_ q]<;>rfl};have T:zT (1048576<(t.size:Int))=zU:=j_;have I:GD t=Cr t ⟨0,JJ (-1),[]⟩:=by unfold GD;rw[G_ q]
 have y:∀{c p:Nat},Cr t ⟨0,JJ (-1),[]⟩= .inl (c,(p:Int))->Nx t (.tuple #[.nilIface,Bb c p]):=λh=>by{unfold Nx;rw[I,h];rfl};(conv=>whnf);rw[T];refine Bn.defer_ ⟨rfl,rfl,rfl,⟨_,rfl⟩,rfl,rfl⟩ (λvs w=>call76 _ w) ?_;(conv=>whnf);refine⟨rfl,?_⟩;refine Ad underlying183 rfl _ rfl (oN t 0 (.slice zV 0 0)) rfl (BF (oN t 0 (.slice zV 0 0)) rfl ?_);intro s H3 V W X Y;have J:=((St.nil H2).box V W X Y).nils jZ 3;have z:A_ (F_ H2) H2 H3:=J.old;have A:DY H2:=FX hE (B:=F_ H) hE.2 b.old;have Z:DY H3:=FX A (B:=F_ H2) A.2 z
 have C:∀{H4:Aa} {x:v_} (fr:Fr) (K:Aa->Prop),SE (F_ H2) H3 t ⟨0,JJ (-1),[]⟩ x H4->(∀(c p:Nat) (H5:Aa),Nx t (.tuple #[.nilIface,Bb c p])->D_ (F_ H) H H5 (PK R S .nilIface c p)->K H5)->
   BX prog 76 #[J_ R,J_ S] (.panicking (pe x)) (.panicking [{v:=x,recovered:=zW}]) H4 K:=λfr K ⟨c,p,h1,h2,h3⟩ k=>by
  subst h2;exact WA (ps:=[]) (b.call (z.trans h3)) λH5 d=>k c p H5 (y h1) d
 refine Ab.mk (VL zO t.size 0 zO zO (F_ H2) H3 s [] [] (JJ (-1)) [] Z A.2 zO rfl zQ rfl rfl rfl rfl ⟨zV,0,0,J.rebase⟩) ?_ ?_;{rintro _ H4 ⟨j,Q,r,ae,hj,L,M,a0,ah,⟨B1,f1,rfl,s1,a4,⟨a2,n2,u,l⟩,gv⟩⟩;obtain⟨g1,c1,rfl⟩:=gv.fn;have a8:A_ (F_ H2) H2 H4:=z.trans a4;refine BO l (.agg Ar.toArray) Ar CW rfl λq5 H5 d=>(Bd (cs:=Ac r (.func (.func g1) #[] c1)) d 2 rfl rfl (by simp[Ac,Ar]) rfl λH6 m ai aj=>?_);replace m:D_ B1 H4 H6 [pSc s t j (.slice a2 n2 u),pS jZ 3 a2 n2 u [],pB 186 q5 (As Ar 0 (Ac r (.func (.func g1) #[] c1)))]:=m;rw[CA rfl]at m;have N:A_ (F_ H2) H2 H6:=a8.trans λk D=>m.old k (s1 k D);refine Ah.run (Ab.of (Af (E8 (m.blk 0 rfl)) λH7 O=>?_));have n:=m.call O;have E:A_ (F_ H2) H2 H7:=N.trans (O.mono λk D=>Ak N D);by_cases h0:j<t.size;{have a9:bt t j=41:=by{rcases L with h | h;omega;exact h};rw[b_ (show¬t.size<=j by omega)];refine E_ ?_;refine C_ ((n.blk 0 rfl).cellE rfl) zA (Ab.mk (CC (c:=20) (e:=j)) (λ_ _ h=>h.elim) ?_);rintro _ _ ⟨rfl,rfl⟩;(conv=>whnf);refine WA (ps:=[]) (b.call E) λH8 f=>(C_ ((f.blk 0 rfl).cellE rfl) zA (K_ (cs:=Ae 20 j) (AY (f.blk 1 rfl)) zA ?_));exact⟨f.old,y (M.trans (EN (s:=⟨j,Q,[]⟩) h0 (R4 a9)))⟩};rw[a_ (zO:t.size<=j)];have g:Cr t ⟨0,JJ (-1),[]⟩=(if 2000<r.nodes then .inl (24,0)else .inr r):=by{rw[M,Tj (s:=⟨j,Q,[]⟩) h0];show(if 2000<((CV Q).alt.getD .eps).nodes then Sum.inl (24,0)else Sum.inr ((CV Q).alt.getD .eps))=_;rw[a0];rfl};have k5:L_ H7 q5 186 (Ac r (.func (.func g1) #[] c1)):=n.blk 2 rfl;refine E_ ?_;refine lT (k5.cellE rfl) ?_;by_cases hn:2000<r.nodes;{have d2:zT (2000<((xD r:Nat):Int))=zW:=a_ (by unfold xD;omega);rw[H_ hn]at g;have f:=b.call E;(conv=>whnf);rw[d2];refine Ad underlying24 rfl _ rfl (Ae 24 0) rfl (Bc f 0 rfl zZ rfl λH9 F=>(AB (cs:=Ae 24 0) F 1 rfl rfl (I_ _) rfl λH10 a=>?_));have e2:As (Ae 0 0) 0 (Ae 24 0)=Ae 24 0:=BC rfl;rw[e2]at a;(conv=>whnf);refine WB (C_ ((a.blk 0 rfl).cellE rfl) zA (K_ (cs:=Ae 24 0) (AY (a.blk 1 rfl)) zA ?_));exact⟨a.old,y (c:=24) (p:=0) g⟩};have d2:zT (2000<((xD r:Nat):Int))=zU:=b_ (by unfold xD;omega);rw[G_ hn]at g;(conv=>whnf);rw[d2];refine E_ ?_;refine lT (k5.cellE rfl) ?_;have⟨g2,c2,ab,G⟩:=AiK (gv.frame n.old λk D=>D) (λk D=>n.up D);injection ab with hg1 hg2 hg3;injection hg1 with hg1;subst hg1 hg3;(conv=>whnf);rw[MT];refine Ab.of (Af (G H7 (A_.refl _ _)) λH8 ad=>?_);have f:=(b.call E).call ad;have⟨T1,v1,e1⟩:=AN r;refine Ad underlying24 rfl _ rfl (Ae 0 0) rfl (Bc f 0 rfl zZ (AV r) λH9 F=>(AB (cs:=Ae 0 0) F 1 rfl rfl (I_ _) rfl λH10 a=>?_));have e2:As (Ae 0 0) 0 (Ae 0 0)=Ae 0 0:=BC rfl;rw[e2]at a;(conv=>whnf);refine WB (C_ ((a.blk 0 rfl).cellE rfl) zA (K_ (cs:=Ae 0 0) (AY (a.blk 1 rfl)) zA (⟨a.old,?_⟩)));unfold Nx;rw[I,g];rfl};intro x H4 h;(conv=>whnf);refine C [] _ h λc p H5 P d=>(C_ ((d.blk 0 rfl).cellE rfl) zA (K_ (cs:=Ae c p) (AY (d.blk 1 rfl)) zA ?_));exact⟨d.old,P⟩
def AkO(t:ByteArray)(H0 H':Aa)(v:v_):FT ⊕ List Tk->Prop | .inl e=>v= .tuple #[.slice zV 0 0,Bb e.1 e.2]| .inr ts=>∃a n,v= .tuple #[.slice a ts.length n,Bb 0 0]/\c_ tTk (λk=>H0.size<=k/\k<H'.size) H' a n ts
def AjN:Am prog 20 #[.string t] H λv H'=>A_ (F_ H) H H'/\AkO t H H' v (OB t):=by
 refine Am.of_vc func20 rfl (call20 _) (Aq (Bb 0 0) (Ae 0 0) BY rfl ?_);intro q H1 V I A B;unfold OB;by_cases P:4096<t.size;{have J:zT ((4096:Int)<(t.size:Int))=zW:=Y';rw[H_ P];(conv=>whnf);rw[J];refine Ad underlying24 rfl _ rfl (Ae 1 0) rfl (AB (cs:=Ae 1 0) ((St.nil H).box V I A B) 0 rfl rfl (I_ _) rfl λH2 C=>(K_ (cs:=Ae 1 0) (AY (C.blk 0 rfl)) zA ?_));exact⟨C.old,rfl⟩};have J:zT ((4096:Int)<(t.size:Int))=zU:=j_;rw[G_ P];(conv=>whnf);rw[J];refine Ad underlying118 rfl _ rfl (mH t 0 (.slice zV 0 0) 0 0) zX (BF (mH t 0 (.slice zV 0 0) 0 0) rfl ?_);intro s H2 K L M N;have C:=((St.nil H1).box K L M N).nils tTk 122;refine An.mk (iU zO (V_ _) C.rebase) ?_;rintro _ H3 ⟨rfl,W⟩;have Q:∀{G ps},D_ (F_ H1) H1 G ps->D_ (F_ H) H1 G (pB 24 q (Ae 0 0)::ps):=λX=>X.give (λk w=>by unfold F_ at*;omega) _ A λk w=>by obtain rfl:k=q:=w;unfold F_;omega
 have fin:∀{G:Aa},A_ (F_ H) H1 G->A_ (F_ H) H G:=λh=>A_.trans (λk w=>B k (by unfold F_ at w;omega)) h;have fc:∀{G:Aa} {i v} {c p:Nat},L_ G s 118 (mH t i v c p)->AO G s 3 (Ae c p):=λh=>h.cells λj v R=>by rcases j with _ | _ | _ | j<;>first | exact R | simp[Ae]at R
 refine AD.mk [] (λ_:Nat×List Tk=>[]) (λx G=>match x with | (j,l)=>j<=t.size/\l.length<=j/\(∃n,t.size<=j+n/\IF t t.size (BZ t t.size zU 0) []=IF t n j l)/\ScS (F_ H1) H1 G s t j l 0 0) (λx _=>match x with | (j,_)=>t.size-j) ⟨(BZ t t.size zU 0,[]),rfl,(FJ _ _ _).2 (V_ _),V_ _,⟨_,zO,rfl⟩,zV,0,C.thn W⟩ ?_;rintro⟨j,l⟩ G S ⟨Y,Z,⟨n,hn,e⟩,a,m,T⟩;refine Af (sF T) λG1 a1=>?_;have D:=T.call a1;by_cases y:t.size<=j;{have e2:IF t n j l= .inr (l++[⟨0,t.size,⟨#[]⟩⟩]):=by{cases n<;>unfold IF<;>first | rfl | exact H_ y};rw[a_ y,e,e2];refine An.mk (Qc (k:=0) (p2:=t.size) (x:=⟨#[]⟩) zO (.off D)) ?_;rintro _ G2 ⟨rfl,a2,E,b⟩;have b:=Q (D.thn b);refine E_ ?_;refine C_ ((b.blk 1 rfl).cellE rfl) zA (Ad underlying24 rfl _ rfl (Ae 0 0) rfl (AB (cs:=Ae 0 0) b 0 rfl rfl (I_ _) rfl λH6 d=>(K_ (cs:=Ae 0 0) (AY (d.blk 0 rfl)) zA (⟨fin d.old,a2,E,rfl,?_⟩))));exact St.viewF ⟨fin d.old,λk w=>w,Ay (fin d.old),d.oks,d.rng,d.dis⟩ 2 rfl}
 rw[b_ y];obtain⟨n,rfl⟩:∃m,n=m+1:=⟨n-1,zO⟩;refine An.mk (Aj3 zO zO (vO y) (.off D)) ?_;intro r G2 F;rw[show IF t (n+1) j l=(if t.size<=j then .inr (l++[⟨0,t.size,⟨#[]⟩⟩])else match uL t j with
  | .inl e=>.inl e
  | .inr (k,j)=>IF t n (BZ t (t.size-j) zU j) (l++[k]))from rfl,G_ y]at e
 cases O:uL t j with|inl z=>rw[O]at e F;obtain⟨rfl,u,a2,E,b⟩:=F;have b:=Q (D.thn b);rw[e];refine Ap.heldZ (F_ G2) [5] (sq [0,1,2,3,4] (.f 5 .e)) rfl zX (E_ ?_);refine K_ (cs:=Ae z.1 z.2) (fc (b.blk 1 rfl)) (b.in_ 1 rfl rfl).2 (AB (cs:=Ae z.1 z.2) b 0 rfl rfl (I_ _) rfl λH6 d=>(K_ (cs:=Ae z.1 z.2) (AY (d.blk 0 rfl)) zA ?_));exact⟨fin d.old,rfl⟩|inr x=>rw[O]at e F;obtain⟨rfl,a2,E,b⟩:=F;have⟨k,u⟩:=x;have g:=iJ (vO y) O;simp only at g b e;have b:=D.thn b;refine An.mk (iU zO g.2 b.rebase) ?_;rintro _ G3 ⟨rfl,d⟩;have U:=FJ (t:=t) (t.size-u) zU u;(conv=>whnf);refine⟨rfl,(BZ t (t.size-u) zU u,l++[k]),rfl,⟨U.2 g.2,by simp;omega,⟨n,zO,e⟩,a2,E,b.thn d⟩,?_⟩;show t.size-BZ t (t.size-u) zU u<t.size-j;have:=U.2 g.2;omega
structure O'(B:Nat->Prop)(H0 H:Aa)(p:Nat)(ts:List Tk)(o:Nat)(qs:List Pc):Prop where
 ex:∃a n,D_ B H0 H (pB 85 p [.slice a ts.length n,B_ o]::qs)/\c_ tTk B H a n ts
def O'.call{o:Nat}(h:O' B H0 H p ts o qs)(b:A_ (F_ H) H H'):O' B H0 H' p ts o qs:=by have⟨a,n,c,d⟩:=h;exact⟨a,n,c.call b,d.frame (b.mono λk e=>c.up e)⟩
def O'.rb{o:Nat}(h:O' B H0 H p ts o qs):O' B H H p ts o qs:=by have⟨a,n,b,c⟩:=h;exact⟨a,n,b.rebase,c⟩
def O'.thn{o:Nat}{d:List Tk}{u:Nat}(h:O' B H0 H p ts o qs)(e:O' B H H' p d u qs):O' B H0 H' p d u qs:=by have⟨a,n,f,j⟩:=h;have⟨a2,g,b,c⟩:=e;exact⟨a2,g,f.thn b,c⟩
def O'.old{o:Nat}(h:O' B H0 H p ts o qs):A_ B H0 H:=by have⟨a,n,b,c⟩:=h;exact b.old
def M5:(prog.info? 122).bind (·.zero)=zY (.agg (zK ⟨0,0,⟨#[]⟩⟩).toArray):=zX
def UO{k:Tk}(h:L_ H b 122 (zK k)):AO H b 0 (zK k):=h.cells (λj v a=>by rw[N_];exact a)
section
variable{o:Nat}
def FK(h:O' B H0 H p ts o qs)(t:Ed ts):AT prog 41 #[J_ p] H (.agg (zK (hd ts)).toArray):=by have⟨a,n,l,e⟩:=h;refine Am.of_vc func41 rfl (call41 _) (Aq (.agg (zK ⟨0,0,⟨#[]⟩⟩).toArray) (zK ⟨0,0,⟨#[]⟩⟩) M5 rfl ?_);intro q H1 m f g d;have u:=(St.nil H).box m f g d;have w:=l.skip m d;have e:=e.frame (d.mono λk x=>by have:=l.up x;omega);have⟨A,j⟩:=t.pos;refine E_ ?_;refine lT ((w.blk 0 rfl).cellE rfl) ?_;refine zP qQ e (i:=0) (show ts[0]?=zY (hd ts) by rw[j];rfl) rfl (λb o c C y z=>?_);obtain rfl:=z;refine K_ (cs:=zK (hd ts)) y zA (AB (cs:=zK (hd ts)) u 0 rfl rfl (I_ _) rfl λH2 r=>(K_ (cs:=zK (hd ts)) (UO (r.blk 0 rfl)) zA ?_));exact⟨rfl,r.old⟩
def HN(h:O' B H0 H p ts o qs)(G:Ed ts):Am prog 42 #[J_ p] H λv H'=>v= .agg (zK (hd ts)).toArray/\O' B H0 H' p ts.tail o qs:=by have⟨a,n,j,D⟩:=h;refine Am.of_vc func42 rfl (call42 _) (Aq (.agg (zK ⟨0,0,⟨#[]⟩⟩).toArray) (zK ⟨0,0,⟨#[]⟩⟩) M5 rfl ?_);intro q H1 I m r d;have E:=(j.box I m r d).rot;have t:=D.frame (d.mono λk e=>by have:=j.up e;omega);have⟨M,f⟩:=G.pos;refine E_ ?_;refine lT ((E.blk 1 rfl).cellE rfl) ?_;refine zP qQ t (i:=0) (show ts[0]?=zY (hd ts) by rw[f];rfl) rfl (λb o c N J K=>?_);obtain rfl:=K;refine K_ (cs:=zK (hd ts)) J zA (Aq (.agg (zK ⟨0,0,⟨#[]⟩⟩).toArray) (zK ⟨0,0,⟨#[]⟩⟩) M5 rfl ?_);intro O H2 u w x y;have L:=(E.box u w x y).rot;refine AB (cs:=zK (hd ts)) L 0 rfl rfl (I_ _) rfl λH3 g=>(E_ ?_);refine lT ((g.blk 2 rfl).cellE rfl) ?_;have z:=D.frame (A_.trans (λk e=>(j.old k e).symm) g.old);refine AmT (l:=1) qQ z rfl (by rw[f];simp) λa2 A=>?_;refine E_ ?_;refine Bc g 2 rfl zZ rfl λH4 F=>(K_ (cs:=zK (hd ts)) (UO (F.blk 0 rfl)) zA (AB (cs:=zK (hd ts)) F 1 rfl rfl (I_ _) rfl λH5 C=>(K_ (cs:=zK (hd ts)) (UO (C.blk 1 rfl)) zA (⟨rfl,a2,n-1,?_,?_⟩))));{rw[<-dL];exact C.tl.tl};{rw[<-dL];exact A.frame (A_.trans (λk e=>(g.old k e).symm) C.old)}
def qR{x:ByteArray}(h:O' B H0 H p ts o qs)(c:Ed ts):AT prog 73 #[J_ p,.string x] H (.bool (yF ts x)):=by refine Am.of_vc func73 rfl (call73 _) (Af (FK h c) λH1 a1=>(QV rfl ?_));unfold yF;by_cases a:(hd ts).k=4;{have b:(((hd ts).k:Int)==4)=zW:=by{rw[a];rfl};(conv=>whnf);rw[b];refine Af (FK (h.call a1) c) λH2 a2=>(QV rfl ?_);(conv=>whnf);rw[CP];exact⟨by congr 1;rw[decide_eq_decide];exact⟨λh=>⟨a,h⟩,λh=>h.2⟩,a1.trans (a2.mono λk a=>Ak a1 a)⟩};have b:(((hd ts).k:Int)==4)=zU:=Dl a;(conv=>whnf);rw[b];(conv=>whnf);exact⟨by rw[b_ λh=>a h.1],a1⟩
def LP(h:O' B H0 H p ts o qs)(a:Ed ts):Aw prog 44 #[J_ p,B_ c] H (λ_ _=>False) (λx H'=>x=Bx c (hd ts).p/\A_ (F_ H) H H'):=by refine Aw.of_vc func44 rfl (call44 _) (Ab.of (Af (FK h a) λH1 a1=>(QV rfl (Ad underlying24 rfl _ rfl (Ae c (hd ts).p) rfl ?_))));(conv=>whnf);exact⟨rfl,a1⟩
def LQ{x:ByteArray}(h:O' B H H p ts o qs)(a:Ed ts):Aw prog 45 #[J_ p,.string x] H (λv H'=>v= .tuple #[]/\yF ts x=zW/\O' B H H' p ts.tail o qs) (λy H'=>yF ts x=zU/\y=Bx 60 (hd ts).p/\A_ B H H'):=by refine Aw.of_vc func45 rfl (call45 _) (Ah.run (Ab.of (Af (qR h a) λH1 a1=>?_)));have b:=h.call a1;cases e:yF ts x;{refine Ab.mk (LP (c:=60) b a) (λ_ _ h=>h.elim) ?_;rintro _ H2 ⟨rfl,a2⟩;exact⟨rfl,rfl,(b.call a2).old⟩};refine Ab.of (An.mk (HN b a) ?_);rintro _ H2 ⟨rfl,d⟩;(conv=>whnf);exact⟨rfl,rfl,d⟩
def iX{o2:Nat}{K:Aa->Prop}(h:O' B H0 H p ts o qs)(k:∀H',O' B H0 H' p ts o2 qs->K H'):BK prog (Instr.storeAt 3 (.pointer (zY ⟨p,1,zV⟩)) (.int .i64 (o2:Int))) H K:=by have⟨a,n,c,d⟩:=h;exact Bc c 0 rfl zZ rfl λH' b=>k H' ⟨a,n,b,d.frame (A_.trans (λk e=>(c.old k e).symm) b.old)⟩
def WU(h:O' B H0 H p ts o qs)(k:K (.int .i64 (o:Int))):A8 prog (Instr.loadAt 3 (.pointer (zY ⟨p,1,zV⟩))) (λ_=>True) H K:=by have⟨a,n,b,c⟩:=h;exact C_ ((b.blk 0 rfl).cellE rfl) zA k
def RI{x:ByteArray}(k:o<=64)(h:O' B H H p ts o qs)(d:Ed ts):Aw prog 145 #[J_ p,.string x] H (λv H'=>v= .tuple #[]/\yF ts x=zW/\o<64/\O' B H H' p ts.tail (o+1) qs) (λy H'=>y=Bx (if yF ts x then 23 else 60) (hd ts).p/\(yF ts x=zW->64<=o)/\A_ B H H'):=by
 refine Aw.of_vc func145 rfl (call145 _) (Ah.run (Ab.of (Af (qR h d) λH1 a1=>?_)));have b:=h.call a1;cases f:yF ts x;{refine Ab.mk (LQ b.rb d) (λ_ _ h=>absurd (f.symm.trans h.2.1) nofun) λy H2 a=>?_;exact⟨a.2.1,nofun,b.old.trans a.2.2⟩};by_cases g:64<=o;{have e:zT ((64:Int)<=(o:Int))=zW:=Y';(repeat ((conv=>whnf);first | rw[e] | refine E_ ?_ | refine WU b ?_));refine Ab.mk (LP (c:=23) b d) (λ_ _ h=>h.elim) ?_;rintro _ H2 ⟨rfl,a2⟩;exact⟨rfl,λ_=>g,(b.call a2).old⟩};have e:zT ((64:Int)<=(o:Int))=zU:=j_;repeat ((conv=>whnf);first | rw[e] | refine E_ ?_ | refine WU b ?_)
 refine Ab.mk (LQ b.rb d) ?_ (λy H2 a=>absurd (f.symm.trans a.1) nofun);rintro _ H2 ⟨rfl,-,a⟩;have a:=b.thn a;repeat ((conv=>whnf);first | rw[S_ o zO] | refine E_ ?_ | refine WU a ?_)
 refine iX (o2:=o+1) a λH3 j=>?_;(conv=>whnf);exact⟨rfl,rfl,zO,j⟩
end
theorem K0{H:Aa}{s:ByteArray}:AT prog 43 #[.string s] H (.int .i64 (zL s)):=by
 refine Am.of_vc func43 rfl (call43 _) ?_
 repeat' ((conv=>whnf);first | refine AC.run ?_ | split)
 all_goals
  (conv=>whnf);refine⟨?_,A_.refl _ _⟩;simp only[CP,yL,qC]at*
  first | (subst s;rfl) | (unfold zL;simp[*])
def Z2(s:ByteArray)(c:Nat)(H:Aa):AT prog 104 #[.string s,.int .u8 (c:Int)] H (.int .i64 (indexByte s.data.toList (UInt8.ofNat c))):=by intro w a;refine⟨call104 _ w,?_⟩;refine(Go.Proofs.Any.stringslite_IndexByte {Ww with} s (c:Int) w).mono ?_;rintro _ _ ⟨rfl,rfl⟩;exact⟨_,rfl,Z_.refl _,rfl,by subst a;exact A_.refl _ _⟩
def tJ(r s:ByteArray):Bool:=zT (s=r\/s.size=1/\0<=indexByte r.data.toList (UInt8.ofNat (bt s 0)))
def Uz{s:ByteArray}{r:ByteArray}(k:r.size<=2)(hs:s.size≠0):AT prog 113 #[.string r,.string s] H (.bool (tJ r s)):=by
 refine Am.of_vc func113 rfl (call113 _) (An.mk (R:=λv H'=>∃n:Int,v= .int .i64 n/\(0<=n↔tJ r s=zW)/\A_ (F_ H) H H') ?_ ?_);rotate_left
 {rintro _ H1 ⟨n,rfl,d,a1⟩;(conv=>whnf);exact⟨by congr 1;rw[rY,<-d,yL],a1⟩};refine Am.of_vc func147 rfl (call147 _) (An.mk (R:=λv H'=>∃n:Int,v= .int .i64 n/\(0<=n↔tJ r s=zW)/\A_ (F_ H) H H') ?_ ?_);rotate_left
 {rintro _ H1 ⟨n,rfl,d,a1⟩;(conv=>whnf);exact⟨n,rfl,d,a1⟩};refine Am.of_vc func174 rfl (call174 _) ?_;have e:((s.size:Int)==0)=zU:=Dl hs;unfold tJ;by_cases a:s=r;{(repeat ((conv=>whnf);first | rw[e] | rw[Li.2 a]));exact⟨0,rfl,by simp[a],A_.refl _ _⟩};by_cases c:s.size=1;{have f:((s.size:Int)==1)=zW:=by{rw[c];rfl};have⟨b,g,h,l⟩:=CY (t:=s) (i:=0) zO;(repeat ((conv=>whnf);first | rw[e] | rw[f] | rw[Lj a] | (refine En Ek rfl g ?_;rw[<-h])));refine Af (Z2 _ _ _) λH1 a1=>?_;(conv=>whnf);exact⟨_,rfl,by simp[a,c],a1⟩};have f:((s.size:Int)==1)=zU:=Dl c;have j:zT ((r.size:Int)<=(s.size:Int))=zW:=Y';repeat ((conv=>whnf);first | rw[e] | rw[f] | rw[j] | rw[Lj a])
 exact⟨-1,rfl,by simp[a,c],A_.refl _ _⟩
def rkS:List ByteArray:=[X_ 124,⟨#[38,45]⟩,Ez,X_ 126,X_ 46]
def PR:List v_:=rkS.map Value.string
def Mb(H:Aa):Prop:=AO H 1 0 PR/\1<H.size
def Mb.agr(h:Mb H)(a:A_ (F_ H) H H'):Mb H':=⟨h.1.eq (a 1 h.2),Ak a (show F_ H 1 from h.2)⟩
def MG(s r:ByteArray):Bool:=s.size != 0&&(tJ r s&&(s.size==2|| !(r.toList==Ez.toList)))
def cJ{s:ByteArray}(h:s.size=1):∃n,n<256/\s=X_ (UInt8.ofNat n)/\bt s 0=n:=by obtain⟨⟨l⟩⟩:=s;match l,h with|[b],_=>exact⟨b.toNat,UInt8.toNat_lt b,by simp[X_],rfl⟩
def AjI:∀n,n<256->tA (X_ (UInt8.ofNat n))=match rkS.findIdx? λr=>zT (0<=indexByte r.data.toList (UInt8.ofNat n))&& !(zT (r=Ez))with | some i=>(i:Int)| none=> -1:=by decide+kernel
def WK{s:ByteArray}:tA s=match rkS.findIdx? (MG s)with | some i=>(i:Int)| none=> -1:=by
 have k:∀r,MG s r=(s.size != 0&&(tJ r s&&(s.size==2|| !(zT (r=Ez))))):=λr=>by unfold MG;rw[CP]
 have sz:∀{l:ByteArray},s.size≠l.size->s≠l:=λh e=>h (by rw[e]);by_cases d:s.size=1;{obtain⟨n,a,rfl,m⟩:=cJ d;rw[AjI n a];congr 2;funext r;rw[k];unfold tJ;have f:(X_ (UInt8.ofNat n)).size=1:=rfl;rw[m];by_cases c:X_ (UInt8.ofNat n)=r;{subst c;have:indexByte (X_ (UInt8.ofNat n)).data.toList (UInt8.ofNat n)=0:=by{simp[X_,indexByte]};have p:X_ (UInt8.ofNat n)≠Ez:=λe=>by{have:=congrArg ByteArray.size e;rw[f]at this;cases this};simp[this,f,p]};simp[c,f]};by_cases g:s=⟨#[38,45]⟩;{subst g;decide+kernel};by_cases j:s=Ez;{subst j;decide+kernel};have a:∀b,s≠X_ b:=λb=>sz d;have:rkS.findIdx? (MG s)=zV:=qA.2 λr c=>by{rw[k];unfold tJ;have:s≠r:=λe=>by{subst e;simp only[rkS,J',List.not_mem_nil,or_false]at c;rcases c with e | e | e | e | e;{exact a _ e};{exact g e};{exact j e};{exact a _ e};exact a _ e};simp[this,d]};rw[this];unfold tA;simp[a,g,j]
def Wi{α:Type}{q:α->Bool}{r:α}:∀{l:List α} {i:Nat},l[i]?=zY r->q r=zW->(∀x∈l.take i,q x=zU)->l.findIdx? q=zY i | [],_,h,_,_=>by cases h | x::l,0,h,h2,_=>by cases h;simp[vH,h2]| x::l,i+1,h,h2,h3=>by rw[vH,h3 x (by simp),Wi (l:=l) (i:=i) h h2 λy a=>h3 y (by simp[a])];rfl
def AjG{s:ByteArray}(u:Mb H):AT prog 75 #[.string s] H (.int .i64 (tA s)):=by
 refine Am.of_vc func75 rfl (call75 _) (K_ (cs:=PR) u.1 zA (AD.mk [6] (λi:Nat=>[B_ i]) (λi G=>i<=5/\(∀r∈rkS.take i,MG s r=zU)/\A_ (F_ H) H G) (λi _=>5-i) ⟨0,rfl,zQ,λr b=>by simp at b,A_.refl _ _⟩ ?_));rintro i G n ⟨E,a,ag⟩;by_cases w:i=5
 ·subst w;(conv=>whnf);refine⟨?_,ag⟩;rw[WK,qA.2 (show∀r∈rkS,_ from a)]
 have y:i<5:=zO
 obtain⟨r,b⟩:∃r,rkS[i]?=zY r:=⟨_,List.getElem?_eq_getElem y⟩;have j:r.size<=2:=by
  have:∀r∈rkS,r.size<=2:=zQ
  exact this r (List.mem_of_getElem? b)
 have z:zT ((i:Int)<5)=zW:=Y';have nx:∀{G2},A_ (F_ H) H G2->MG s r=zU->i+1<=5/\(∀r∈rkS.take (i+1),MG s r=zU)/\A_ (F_ H) H G2:=λh A=>⟨zO,λq c=>by
  rw[List.take_add_one,b]at c;rcases n_.1 c with c | c
  ·exact a q c
  ·rw[Q_.1 c];exact A,h⟩
 have l:MG s r=zW->tA s=i:=λh=>by rw[WK,Wi b h a]
 (conv=>whnf);rw[z];refine oD (v:=.string r) VM zO zO (by rw[zG,Nat.mul_one];simp[PR,b]) ?_;by_cases d:s.size=0
 ·have m:(s.toList==(⟨#[]⟩:ByteArray).toList)=zW:=Li.2 (ByteArray.ext (Array.eq_empty_of_size_eq_zero d));have f:MG s r=zU:=by unfold MG;rw[d];rfl
  repeat ((conv=>whnf);first | rw[m] | rw[S_ i zO])
  exact⟨rfl,i+1,rfl,nx ag f,zO⟩
 have m:(s.toList==(⟨#[]⟩:ByteArray).toList)=zU:=Lj λe=>d (by rw[e];rfl);(conv=>whnf);rw[m];refine Af (Uz j d) λG2 a2=>?_;have g:=ag.trans (a2.mono λk B=>Ak ag B);have f:MG s r=(tJ r s&&(s.size==2|| !(r.toList==Ez.toList))):=by unfold MG;rw[bne_iff_ne.2 d];rfl
 have p:((s.size:Int)==2)=(s.size==2):=by rw[rY];simp;omega
 cases C:tJ r s<;>cases e2:(s.size==2)<;>cases t:(r.toList==Ez.toList)
 all_goals
  rw[C,e2,t]at f;rw[e2]at p;have D:(r.toList==(⟨#[62,62]⟩:ByteArray).toList)=_:=t
  repeat ((conv=>whnf);first | rw[p] | rw[D] | rw[S_ i zO])
  first | exact⟨rfl,i+1,rfl,nx g f,zO⟩ | exact⟨by rw[l f],g⟩
def Ex.isL:Ex->Bool | .nil=>zW | .cons _ l=>l.isL | _=>zU
def ExC(B:Nat->Prop)(H:Aa):Ex->List v_->Prop | .nm p s,c=>c=[.iface 129 (.agg #[B_ p,.string s])]| .tx p s,c=>c=[.iface 131 (.agg #[B_ p,.string s])]| .re p s,c=>c=[.iface 133 (.agg #[B_ p,.string s])]| .kd p a,c=>∃v,ExC B H a [v]/\c=[.iface 139 (.agg #[B_ p,v])]| .un p s a,c=>∃v,ExC B H a [v]/\c=[.iface 141 (.agg #[B_ p,.string s,v])]| .bi p s a b,c=>∃v w,ExC B H a [v]/\ExC B H b [w]/\c=[.iface 144 (.agg #[B_ p,.string s,v,w])]| .cl p s l,c=>∃vs b n r,l.isL=zW/\ExC B H l vs/\B b/\L_ H b 93 (vs++r)/\vs.length<=n/\n<=maxLen/\c=[.iface 148 (.agg #[B_ p,.string s,.slice (k_ b) vs.length n])]| .nil,c=>c=[]| .cons a l,c=>∃v vs,ExC B H a [v]/\ExC B H l vs/\c=v::vs
def ExC.upT{B':Nat->Prop}(a:∀k l,B k->L_ H k 93 l->B' k)(d:A_ B' H H'):∀{e:Ex} {c:List v_},ExC B H e c->ExC B' H' e c | .nm _ _,_,h=>h | .tx _ _,_,h=>h | .re _ _,_,h=>h | .kd _ _,_,⟨v,h,e⟩=>⟨v,h.upT a d,e⟩ | .un _ _ _,_,⟨v,h,e⟩=>⟨v,h.upT a d,e⟩ | .bi _ _ _ _,_,⟨v,w,h,h2,e⟩=>⟨v,w,h.upT a d,h2.upT a d,e⟩ | .cl _ _ _,_,⟨vs,b,n,r,hl,h,hb,hc,h1,h2,e⟩=>⟨vs,b,n,r,hl,h.upT a d,a b _ hb hc,hc.agr d (a b _ hb hc),h1,h2,e⟩ | .nil,_,h=>h | .cons _ _,_,⟨v,vs,h,h2,e⟩=>⟨v,vs,h.upT a d,h2.upT a d,e⟩
variable{l e:Ex}
def ExC.up{B':Nat->Prop}(b:∀k,B k->B' k)(d:A_ B H H'){c:List v_}(h:ExC B H e c):ExC B' H' e c:=(h.upT (B':=B) (λ_ _ a _=>a) d).upT (λk _ a _=>b k a) (A_.refl _ _)
def RJ{o:Nat}{x:ByteArray}(h:O' B H H p ts (o+1) qs)(e:o<=64)(b:Ed ts):Aw prog 146 #[J_ p,.string x] H (λv H'=>v= .tuple #[]/\yF ts x=zW/\O' B H H' p ts.tail o qs) (λy H'=>yF ts x=zU/\y=Bx 60 (hd ts).p/\A_ B H H'):=by
 refine Aw.of_vc func146 rfl (call146 _) (Ab.mk (LQ h b) ?_ (λy H2 a=>a));rintro _ H2 ⟨rfl,c,a⟩;repeat ((conv=>whnf);first | rw[m_ (x:=((o+1:Nat):Int)-1) zO,show((o+1:Nat):Int)-1=(o:Int) by omega] | refine E_ ?_ | refine WU a ?_)
 refine iX (o2:=o) a λH3 d=>?_;(conv=>whnf);exact⟨rfl,c,d⟩
def TR{o q:Nat}{H1:Aa}{k:Tk}{K:Aa->Prop}{l:List v_}(h:O' B H0 H p ts o qs)(r:q=H.size)(c:H1.size=q+1)(d:L_ H1 q 122 l)(g:l.length=3)(e:A_ (λk=>k<q) H H1)(t:∀H2,O' (λk=>B k\/k=q) H2 H2 p ts o qs->A_ B H0 H2->L_ H2 q 122 (zK k)->K H2):BK prog (Instr.storeAt 122 (J_ q) (.agg (zK k).toArray)) H1 K:=by have⟨a,n,j,u⟩:=h;have w:=(j.box r c d e).rot;refine AB (cs:=zK k) w 0 rfl rfl (by rw[g];exact I_ _) rfl λH2 b=>?_;have m:=b.blk 0 rfl;rw[show As l 0 (zK k)=zK k from BC g.symm]at m;exact t H2 ⟨a,n,b.keep,(u.frame (A_.trans (λk f=>(j.old k f).symm) b.old)).mono λk f=>.inl f⟩ b.old m
def FS(B:Nat->Prop)(H:Aa):Prop:=AO H 1 0 PR/\B 1
def SyR(B:Nat->Prop)(H:Aa)(p:Nat)(ts:List Tk)(o:Nat)(qs:List Pc)(x:FT ⊕ (Ex×List Tk))(v:v_)(H':Aa):Prop:=∃e us B',x= .inr (e,us)/\Ed us/\us.length<ts.length/\(∀k,B k->B' k)/\A_ B H H'/\O' B' H' H' p us o qs/\ExC B' H' e [v]
def SyE(B:Nat->Prop)(H:Aa)(x:FT ⊕ (Ex×List Tk))(y:v_)(H':Aa):Prop:=∃c q,x= .inl (c,q)/\y=Bx c q/\A_ B H H'
structure Big(n:Nat):Prop where
 ex:∀{B:Nat->Prop} {H:Aa} {p:Nat} {ts:List Tk} {o l:Nat} {qs:List Pc},FS B H->O' B H H p ts o qs->Ed ts->o<=64->l<=5->16*ts.length+8<=n+l->
  Aw prog 46 #[J_ p,B_ l] H (SyR B H p ts o qs (pE n (.ex l) o ts)) (SyE B H (pE n (.ex l) o ts))
 po:∀{B:Nat->Prop} {H:Aa} {p:Nat} {ts:List Tk} {o:Nat} {qs:List Pc},FS B H->O' B H H p ts o qs->Ed ts->o<=64->16*ts.length+2<=n->
  Aw prog 74 #[J_ p] H (SyR B H p ts o qs (pE n .po o ts)) (SyE B H (pE n .po o ts))
 at_:∀{B:Nat->Prop} {H:Aa} {p:Nat} {ts:List Tk} {o:Nat} {qs:List Pc},FS B H->O' B H H p ts o qs->Ed ts->o<=64->16*ts.length+1<=n->
  Aw prog 112 #[J_ p] H (SyR B H p ts o qs (pE n .at_ o ts)) (SyE B H (pE n .at_ o ts))
def FS.up{B':Nat->Prop}(h:FS B H)(a:∀k,B k->B' k)(b:A_ B H H'):FS B' H':=⟨h.1.eq (b _ h.2),a _ h.2⟩
def FS.rk{o:Nat}(h:FS B H)(b:O' B H0 H p ts o qs):Mb H:=by obtain⟨a,n,c,-⟩:=b;exact⟨h.1,c.up h.2⟩
def ExC.ifc:∀{e:Ex} {v:v_},ExC B H e [v]->∃t x,v= .iface t x:=by intro e v h;cases e;(case' nm p s=>skip);(case' tx p s=>skip);(case' re p s=>skip);(case' kd p a=>obtain⟨w,-,h⟩:=h);(case' un p s a=>obtain⟨w,-,h⟩:=h);(case' bi p s a b=>obtain⟨w,u,-,-,h⟩:=h);(case' cl p s l=>obtain⟨vs,b,n,r,-,-,-,-,-,-,h⟩:=h);(case nil=>cases h);(case cons a l=>obtain⟨w,vs,c,-,h⟩:=h;cases h;exact c.ifc);all_goals cases h;exact⟨_,_,rfl⟩
def AmL{o n l:Nat}(ih:∀m,m<n->Big m)(T:FS B H)(h:O' B H H p ts o qs)(he:Ed ts)(V:o<=64)(hl:l<=5)(hn:16*ts.length+8<=n+l):Aw prog 46 #[J_ p,B_ l] H (SyR B H p ts o qs (pE n (.ex l) o ts)) (SyE B H (pE n (.ex l) o ts)):=by
 refine Aw.of_vc func46 rfl (call46 _) ?_;obtain⟨m,rfl⟩:∃m,n=m+1:=⟨n-1,zO⟩;have im:=ih m (tG m);by_cases N:l=5;{subst N;refine Ab.mk (im.po T h he V zO) ?_ (λy H1 u=>u);intro v H1 u;(conv=>whnf);exact u};have d1:((l:Int)==5)=zU:=Dl N;(conv=>whnf);rw[d1];(conv=>whnf);rw[S_ l zO]
 rw[show pE (m+1) (.ex l) o ts=(match pE m (.ex (l+1)) o ts with
  | .inl e=>.inl e
  | .inr (a,d)=>pE m (.xl l a) o d)from G_ N]
 refine Ab.mk (im.ex (l:=l+1) T h he V zO zO) ?_ ?_;rotate_left
 {rintro y H1 ⟨c,q,K,rfl,O⟩;exact⟨c,q,by rw[K],rfl,O⟩};rintro v H1 ⟨e,d,B1,K,C,D,g,E,u,z⟩;rw[K];obtain⟨F,A⟩:∃F,pE m (.xl l e) o d=F:=⟨_,rfl⟩;show _;simp only[A];refine CU.mk [5] (λx:v_×List Tk=>match x with | (v,_)=>[v]) (λx G=>match x with | (v,d)=>∃e B1 k,k<=m/\16*d.length<=k/\F=pE k (.xl l e) o d/\Ed d/\d.length<ts.length/\(∀k,B k->B1 k)/\A_ B H G/\O' B1 G G p d o qs/\ExC B1 G e [v]) (λx _=>match x with | (_,d)=>d.length) ⟨(v,d),rfl,e,B1,m,I_ _,zO,A.symm,C,D,g,E,u,z⟩ ?_;clear A K z u E g D C;rintro⟨v,d⟩ G ab ⟨e,B1,k,t,P,A,C,D,g,ag,u,z⟩;have W:FS B1 G:=T.up g ag;obtain⟨k,rfl⟩:∃j,k=j+1:=⟨k-1,by have⟨ad,e'⟩:=C.pos;rw[e']at P;simp at P;omega⟩
 rw[show pE (k+1) (.xl l e) o d=(if(hd d).k=4/\tA (hd d).s=l then(match pE k (.ex (l+1)) o d.tail with
     | .inl e=>.inl e
     | .inr (b,vs)=>pE k (.xl l (.bi (hd d).p (hd d).s e b)) o vs)else .inr (e,d))from rfl]at A
 refine Ab.of (Af (FK u C) λG1 a1=>?_);have h2:=u.call a1;refine QV rfl ?_;have out:∀{G2},A_ (F_ G) G G2->¬((hd d).k=4/\tA (hd d).s=l)->SyR B H p ts o qs F v G2:=fun{G2} O hc=>by{rw[G_ hc]at A;exact⟨e,d,B1,A,C,D,g,ag.trans ((u.call O).old.mono g),(u.call O).rb,z.up (λ_ h=>h) (u.call O).old⟩};by_cases I:(hd d).k=4;{have X:(((hd d).k:Int)==4)=zW:=by{rw[I];rfl};(conv=>whnf);rw[X];refine Ab.of (Af (FK h2 C) λG2 a2=>?_);have h3:=h2.call a2;have L:=a1.trans (a2.mono λk t=>Ak a1 t);refine QV rfl (Ab.of (Af (AjG ((W.rk u).agr L)) λG3 a3=>?_));have h4:=h3.call a3;have Y:=L.trans (a3.mono λk t=>Ak L t);by_cases U:tA (hd d).s=l;{have Z:(tA (hd d).s==(l:Int))=zW:=by{rw[U];exact beq_self_eq_true _};rw[H_ ⟨I,U⟩]at A;(conv=>whnf);rw[Z];refine Ab.of (An.mk (HN h4 C) ?_);rintro _ G4 ⟨rfl,N⟩;have⟨ht,ae⟩:=C.tail zO;refine Aq (.agg (zK ⟨0,0,⟨#[]⟩⟩).toArray) (zK ⟨0,0,⟨#[]⟩⟩) M5 rfl ?_;intro q G5 hq a0 a8 E;refine TR N hq a0 a8 rfl E (k:=hd d) λG6 h6 a6 a9=>(A7.held (λk=>k=q) [11] (sq [0,1,2,3,4,5,6,7] (.f 8 (sq [9,10] (.f 11 .e)))) (AG _ _) rfl zX ?_);have J:∀k,B k->(B1 k\/k=q):=λk t=>.inl (g k t);have M:A_ B H G6:=ag.trans (a6.mono g);(repeat ((conv=>whnf);first | rw[S_ l zO] | refine E_ ?_ | refine C_ (a9.cellE rfl) rfl ?_));refine Ab.mk ((ih k zO).ex (l:=l+1) (T.up J M) h6 ht V zO zO) ?_ ?_;{rintro w G7 ⟨b,ws,B7,K,hw,ah,Q,R,h7,S⟩;rw[K]at A;obtain⟨t1,x1,rfl⟩:=z.ifc;obtain⟨t2,x2,rfl⟩:=S.ifc;refine⟨R.mono λk t=>.inr t,?_⟩;refine Ad underlying144 rfl _ rfl [B_ ((hd d).p:Int),.string (hd d).s,.iface t1 x1,.iface t2 x2] zX ?_;(conv=>whnf);exact⟨rfl,(_,ws),rfl,⟨.bi (hd d).p (hd d).s e b,B7,k,zO,zO,A,hw,zO,λk t=>Q k (J k t),M.trans (R.mono J),h7,_,_,z.up (λk t=>Q k (.inl t)) (a6.trans (R.mono λk t=>.inl t)),S,rfl⟩,by show ws.length<d.length;omega⟩};rintro y G7 ⟨c,r,K,rfl,R⟩;rw[K]at A;exact⟨c,r,A,rfl,M.trans (R.mono J)⟩};have Z:(tA (hd d).s==(l:Int))=zU:=beq_eq_false_iff_ne.2 U;(conv=>whnf);rw[Z];(conv=>whnf);exact out Y λh=>U h.2};have X:(((hd d).k:Int)==4)=zU:=Dl I;(conv=>whnf);rw[X];(conv=>whnf);exact out a1 λh=>I h.1
def AmM{o n:Nat}(M:∀m,m<n->Big m)(N:FS B H)(h:O' B H H p ts o qs)(O:Ed ts)(P:o<=64)(Z:16*ts.length+2<=n):Aw prog 74 #[J_ p] H (SyR B H p ts o qs (pE n .po o ts)) (SyE B H (pE n .po o ts)):=by
 refine Aw.of_vc func74 rfl (call74 _) ?_;obtain⟨m,rfl⟩:∃m,n=m+1:=⟨n-1,zO⟩
 rw[show pE (m+1) .po o ts=(match pE m .at_ o ts with
  | .inl e=>.inl e
  | .inr (a,b)=>pE m (.pl a) o b)from rfl]
 refine Ab.mk ((M m (tG m)).at_ N h O P zO) ?_ ?_;rotate_left
 {rintro y H1 ⟨c,q,w,rfl,Q⟩;exact⟨c,q,by rw[w],rfl,Q⟩};rintro v H1 ⟨e,b,B1,w,t,g,d,l,z,f⟩;rw[w];obtain⟨F,r⟩:∃F,pE m (.pl e) o b=F:=⟨_,rfl⟩;show _;simp only[r];refine CU.mk [3] (λx:v_×List Tk=>match x with | (v,_)=>[v]) (λx G=>match x with | (v,b)=>∃e B1 k,b.length<k/\F=pE k (.pl e) o b/\Ed b/\b.length<ts.length/\(∀k,B k->B1 k)/\A_ B H G/\O' B1 G G p b o qs/\ExC B1 G e [v]) (λx _=>match x with | (_,b)=>b.length) ⟨(v,b),rfl,e,B1,m,zO,r.symm,t,g,d,l,z,f⟩ ?_;clear r w f z l d g t;rintro⟨v,b⟩ G I ⟨e,B1,k,R,r,t,g,d,ag,z,f⟩;obtain⟨k,rfl⟩:∃j,k=j+1:=⟨k-1,zO⟩;rw[show pE (k+1) (.pl e) o b=(if yF b (X_ 42)|| (yF b (X_ 43)|| yF b (X_ 63))then pE k (.pl (.un (hd b).p (hd b).s e)) o b.tail else .inr (e,b))from rfl]at r;have go:(yF b (X_ 42)|| (yF b (X_ 43)|| yF b (X_ 63)))=zW->(hd b).k≠0:=λh=>by{simp only[Bool.or_eq_true]at h;rcases h with h | h | h<;>(have:=JG h;omega)};have u:O' B1 G G p b o qs:=z;cases J:yF b (X_ 42)<;>cases e2:yF b (X_ 43)<;>cases K:yF b (X_ 63);(all_goals
 rw[J,e2,K]at r go;repeat (refine Ab.of (Af (qR u t) λG2 a2=>?_);(first | rw[J] | rw[e2] | rw[K]);have u:=u.call a2)
 first
  | ((conv=>whnf);exact⟨e,b,B1,r,t,g,d,ag.trans (u.old.mono d),u.rb,f.up (λ_ h=>h) u.old⟩)
  | (have⟨S,T⟩:=t.tail (go rfl)
     refine Ab.of (An.mk (HN u t) ?_);rintro _ G4 ⟨rfl,U⟩;refine Aq (.agg (zK ⟨0,0,⟨#[]⟩⟩).toArray) (zK ⟨0,0,⟨#[]⟩⟩) M5 rfl ?_;intro q G5 V A C l;refine TR U V A C rfl l (k:=hd b) λG6 W L D=>?_
     repeat ((conv=>whnf);first | refine E_ ?_ | refine C_ (D.cellE rfl) zA ?_)
     obtain⟨X,Y,rfl⟩:=f.ifc;refine Ad underlying141 rfl _ rfl [B_ ((hd b).p:Int),.string (hd b).s,.iface X Y] zX ?_;(conv=>whnf);exact⟨rfl,(_,b.tail),rfl,⟨.un (hd b).p (hd b).s e,_,k,zO,r,S,zO,λk E=>.inl (d k E),ag.trans (L.mono d),W,_,f.up (λk E=>.inl E) L,rfl⟩,by show b.tail.length<b.length;omega⟩))
def MJ:Ty v_ where
 size:=1
 rep _ _ cs v:=cs=[v]/\v.oneCell'=zW
 len h:=by rw[h.1];rfl
 frame h _:=h
 mono h _:=h
def Ql{S:Nat->Prop}{H:Aa}:∀{vs cs:List v_},MJ.reps S H cs vs->cs=vs
 | [],_,h=>h
 | v::vs,_,⟨c,r,e,h,h2⟩=>by rw[e,h.1,Ql h2];rfl
def ExC.snoc{a:Ex}{v:v_}(b:ExC B H a [v]):∀{l:Ex} {vs:List v_},l.isL=zW->ExC B H l vs->ExC B H (l.snoc a) (vs++[v])/\(l.snoc a).isL=zW | .nil,_,_,h=>by cases h;exact⟨⟨v,[],b,rfl,rfl⟩,rfl⟩ | .cons x l,_,hl,⟨w,vs,h,h2,e⟩=>by subst e;have⟨c,d⟩:=ExC.snoc b (l:=l) hl h2;exact⟨⟨w,vs++[v],h,c,rfl⟩,d⟩
abbrev tH(p:Nat)(s:ByteArray)(a:Option Addr)(k n:Nat):List v_:=[B_ p,.string s,.slice a k n]
abbrev mF(a:Option Addr)(n:Nat)(vs:List v_):Pc:=pS MJ 93 a vs.length n vs
def AhZ:(prog.info? 148).bind (·.zero)=zY (.agg (tH 0 ⟨#[]⟩ zV 0 0).toArray):=zX
def FV{e:x_}{l:List v_}(h:L_ H b e l)(a:L_ H' b e l):A_ (λk=>k=b) H H':=λk c=>by rw[c];exact a.trans h.symm
theorem YD(s:ByteArray):zL s<=3:=by
 unfold zL
 repeat' split
 all_goals decide
def AfW{o:Nat}{m:Nat}(ih:∀k,k<=m->Big k)(hR:FS B H)(h:O' B H H p ts o qs)(he:Ed ts)(ho:o<=64)(d:(hd ts).k=1)(ap:0<zL (hd ts).s)(hn:16*ts.length<=m):
  Aw prog 144 #[J_ p] H
   (SyR B H p ts o qs (vR o ts.tail (X_ 40) (X_ 41) (pE m (.ar 0 (zL (hd ts).s).toNat .nil) (o+1) ts.tail.tail) (.cl (hd ts).p (hd ts).s)))
   (SyE B H (vR o ts.tail (X_ 40) (X_ 41) (pE m (.ar 0 (zL (hd ts).s).toNat .nil) (o+1) ts.tail.tail) (.cl (hd ts).p (hd ts).s))):=by
 have⟨ht,b9⟩:=he.tail zO;refine Aw.of_vc func144 rfl (call144 _) (Ab.of (An.mk (HN h he) ?_));rintro _ H1 ⟨rfl,W⟩;refine Aq (.agg (zK ⟨0,0,⟨#[]⟩⟩).toArray) (zK ⟨0,0,⟨#[]⟩⟩) M5 rfl ?_;intro q H2 hq D A I;refine TR W hq D A rfl I (k:=hd ts) λH3 h3 a3 T=>?_;clear hq D A I;repeat ((conv=>whnf);first | refine E_ ?_ | refine C_ (T.cellE rfl) zA ?_)
 refine Ad underlying148 rfl _ rfl (tH (hd ts).p (hd ts).s zV 0 0) zX (Aq (.agg (tH 0 ⟨#[]⟩ zV 0 0).toArray) (tH 0 ⟨#[]⟩ zV 0 0) AhZ rfl ?_);intro c H4 hq D A I;have⟨a0,n0,ab,ad⟩:=h3;have s4:=(ab.box hq D A I).rot;refine AB (cs:=tH (hd ts).p (hd ts).s zV 0 0) s4 0 rfl rfl (I_ _) rfl λH5 S=>?_;have h5:O' (λk=>B k\/k=q) H5 H5 p ts.tail o (mF zV 0 []::pB 148 c (tH (hd ts).p (hd ts).s zV 0 0)::qs):=⟨a0,n0,(S.swp.nils MJ 93).rot.swp.rebase,ad.frame (A_.trans (λk d=>rfl) S.old)⟩;have a5:A_ B H H5:=a3.trans (S.old.mono λk d=>.inl d);have ae:L_ H5 q 122 (zK (hd ts)):=T.agr S.old (.inr rfl);clear hq D A I s4 S ad ab W;obtain⟨X,C⟩:∃X,X=vR o ts.tail (X_ 40) (X_ 41) (pE m (.ar 0 (zL (hd ts).s).toNat .nil) (o+1) ts.tail.tail) (.cl (hd ts).p (hd ts).s):=⟨_,rfl⟩;rw[<-C];unfold vR at C;refine Ab.mk (RI ho h5 ht) ?_ ?_;rotate_left
 {rintro y H6 ⟨rfl,hm,Y⟩;have Y:A_ B H H6:=a5.trans (Y.mono λk d=>.inl d);cases K:yF ts.tail (X_ 40)with|false=>exact⟨60,_,by rw[C,H_ K],by rw[G_ nofun],Y⟩|true=>exact⟨23,_,by rw[C,G_ (by rw[K];exact nofun),H_ (hm K)],by rw[H_ rfl],Y⟩};rintro _ H6 ⟨rfl,hm,bd,K⟩;have⟨aq,b6⟩:=ht.tail (by have:=JG hm;omega);rw[G_ (by rw[hm];exact nofun),G_ zO]at C;have L:L_ H6 q 122 (zK (hd ts)):=ae.agr K.old (.inr rfl);have Y:A_ B H H6:=a5.trans (K.old.mono λk d=>.inl d);repeat ((conv=>whnf);first | refine E_ ?_ | refine C_ (L.cellE rfl) zA ?_)
 refine Ab.of (Af K0 λH7 a7=>?_);have h7:=(K.call a7).rb;have be:=L.agr a7 L.lt;have a7:A_ B H H7:=Y.trans (a7.mono λk d=>by obtain⟨a,n,E,-⟩:=K;exact E.up (.inl d));obtain⟨M,hM⟩:∃M:Nat,zL (hd ts).s=(M:Int):=Int.eq_ofNat_of_zero_le zO;have bf:M<=3:=by have:=YD (hd ts).s;omega
 rw[hM]at C ap ⊢;rw[zG]at C;obtain⟨F,u⟩:∃F,pE m (.ar 0 M .nil) (o+1) ts.tail.tail=F:=⟨_,rfl⟩;rw[u]at C;clear K L h5 ae a3 a5 T h;refine CU.mk [18] (λx:Nat×List Tk=>match x with | (k,_)=>[B_ k]) (λx G=>match x with | (k,g)=>∃l B1 f vs a n,k<=M/\16*g.length+9<=f/\f<=m/\F=pE f (.ar k M l) (o+1) g/\Ed g/\g.length<ts.length/\(∀k,(B k\/k=q)->B1 k)/\A_ (λk=>B k\/k=q) H7 G/\O' B1 G G p g (o+1) (mF a n vs::pB 148 c (tH (hd ts).p (hd ts).s a vs.length n)::qs)/\ExC B1 G l vs/\l.isL=zW/\vs.length=k) (λx _=>match x with | (_,g)=>g.length) ⟨(0,ts.tail.tail),rfl,.nil,_,m,[],zV,0,V_ _,zO,I_ _,u.symm,aq,zO,λk d=>d,A_.refl _ _,h7,rfl,rfl,rfl⟩ ?_;rintro⟨k,g⟩ G b7 ⟨l,B1,f,vs,a,n,bh,hf,bj,u,hu,bn,t,ag,W,ah,hL,bo⟩;obtain⟨f,rfl⟩:∃j,f=j+1:=⟨f-1,zO⟩;rw[show pE (f+1) (.ar k M l) (o+1) g=(if k<M then(if 0<k/\yF g (X_ 44)=zU then .inl (60,(hd g).p)else
     match pE f (.ex 0) (o+1) (if 0<k then g.tail else g)with
     | .inl e=>.inl e
     | .inr (a,g)=>pE f (.ar (k+1) M (l.snoc a)) (o+1) g)else .inr (l,g))from rfl]at u
 have N:A_ B H G:=a7.trans (ag.mono λk d=>.inl d);by_cases ai:k<M;{
 have d1:zT ((k:Int)<(M:Int))=zW:=Y';rw[H_ ai]at u;(conv=>whnf);rw[d1];refine Ah.cut [] (λ_:List Tk=>[]) (λJ G1=>Ed J/\J.length<=g.length/\O' B1 G G1 p J (o+1) (mF a n vs::pB 148 c (tH (hd ts).p (hd ts).s a vs.length n)::qs)/\F=match pE f (.ex 0) (o+1) J with
  | .inl e=>.inl e
  | .inr (a,g)=>pE f (.ar (k+1) M (l.snoc a)) (o+1) g) ?_ ?_
 {by_cases O:0<k;{have d2:zT ((0:Int)<(k:Int))=zW:=Y';(conv=>whnf);rw[d2];refine Ab.mk (LQ W hu) ?_ ?_;{rintro _ H8 ⟨rfl,z,P⟩;have⟨U,aj⟩:=hu.tail (by have:=JG z;omega);rw[G_ (by rw[z];exact λh=>absurd h.2 nofun),H_ O]at u;(conv=>whnf);exact⟨rfl,g.tail,rfl,U,zO,P,u⟩};{rintro y H8 ⟨z,rfl,Z⟩;rw[H_ ⟨O,z⟩]at u;rw[u]at C;exact⟨60,_,C,rfl,N.trans (Z.mono λk d=>t k (.inl d))⟩}};{have d2:zT ((0:Int)<(k:Int))=zU:=j_;rw[G_ λh=>O h.1,G_ O]at u;(conv=>whnf);rw[d2];(conv=>whnf);exact⟨rfl,g,rfl,hu,I_ _,W,u⟩}};clear u;rintro J G1 au ⟨aw,b8,P,u⟩;have ak:A_ B H G1:=N.trans (P.old.mono λk d=>t k (.inl d));have Q:L_ G1 c 148 (tH (hd ts).p (hd ts).s a vs.length n):=by have⟨Z,n8,E,sl⟩:=P;exact E.blk 2 rfl
 refine A7.held (λk=>k=c) [7] (sq [0,1,2] (.f 3 (.f 4 (.f 5 (sq [6] (.f 7 .e)))))) (AG _ _) rfl zX ?_;repeat ((conv=>whnf);first | refine E_ ?_ | refine C_ (Q.cellE rfl) rfl ?_)
 refine Ab.mk ((ih f zO).ex (l:=0) (hR.up (λk d=>t k (.inl d)) ak) P.rb aw zO zO zO) ?_ ?_;rotate_left
 {rintro y G2 ⟨c2,q2,hx,rfl,a9⟩;rw[hx]at u;rw[u]at C;exact⟨c2,q2,C,rfl,ak.trans (a9.mono λk d=>t k (.inl d))⟩};rintro w G2 ⟨e2,ws,B2,hx,hw,bp,V,a9,⟨a2,n2,E,sl⟩,am⟩;rw[hx]at u;refine⟨FV Q (E.blk 2 rfl),?_⟩;obtain⟨t1,x1,rfl⟩:=am.ifc;refine Az WN [.iface t1 x1] rfl rfl zQ zQ ?_;intro y H9 hy D A ay;have ao:=E.skip hy ay;refine⟨FV Q (ao.blk 2 rfl),?_⟩;refine Ip ao 1 WN rfl A ⟨rfl,rfl⟩ rfl zO zQ λa5 n5 G5 S _=>(⟨FV Q (S.blk 2 rfl),?_⟩);refine E_ ?_;refine Bc S 2 rfl zZ rfl λG6 s6=>?_;(conv=>whnf);rw[S_ k zO];have⟨az,b0⟩:=ExC.snoc am hL (ah.up V ((P.old).trans a9));have e1:(vs++[Value.iface t1 x1]).length=vs.length+1:=zZ;refine⟨rfl,(k+1,ws),zZ,⟨l.snoc e2,B2,f,vs++[.iface t1 x1],a5,n5,zO,zO,zO,u,hw,zO,λk d=>V k (t k d),?_,⟨a2,n2,?_,sl.frame s6.old⟩,az.up (λ_ h=>h) s6.old,b0,zO⟩,by show ws.length<g.length;omega⟩;{exact((ag.trans (P.old.mono t)).trans (a9.mono t)).trans (s6.old.mono λk d=>V k (t k d))};{unfold mF;rw[e1];exact s6.rebase}};{
 have d1:zT ((k:Int)<(M:Int))=zU:=j_;rw[G_ ai]at u;rw[u]at C;(conv=>whnf);rw[d1];refine Ab.mk (RJ W ho hu) ?_ ?_;rotate_left
 {rintro y H8 ⟨z,rfl,Z⟩;exact⟨60,_,by rw[C];exact G_ (by rw[z];exact nofun),rfl,N.trans (Z.mono λk d=>t k (.inl d))⟩};rintro _ H8 ⟨rfl,z,P⟩;have⟨U,aj⟩:=hu.tail (by have:=JG z;omega);have⟨Z,n8,E,sl⟩:=P;refine K_ (cs:=tH (hd ts).p (hd ts).s a vs.length n) ((E.blk 2 rfl).cells λj v hv=>by rw[N_];exact hv) zA ?_;(conv=>whnf);have b4:0<vs.length:=zO;obtain⟨b,rfl⟩:=E.adr 1 rfl b4;obtain⟨cs,⟨bq,⟨R,-⟩ | ⟨b',cap,r,R,-,hb,g1,g2,g3,g4⟩⟩,hr⟩:=(E.at_ 1 rfl).1;{cases R};obtain⟨rfl,rfl⟩:b'=b/\cap=n:=by injection R with R _ h5;injection R with R;injection R with R;exact⟨R.symm,h5.symm⟩
 have b5:=Ql hr;subst b5;rw[show cs.length*MJ.size=cs.length from Nat.mul_one _]at g4;rw[<-List.take_append_drop cs.length r,g4]at hb;refine⟨.cl (hd ts).p (hd ts).s l,g.tail,_,C.trans (H_ z),U,zO,λk d=>.inl (.inl (t k (.inl d))),N.trans (E.old.mono λk d=>t k (.inl d)),⟨Z,n8,(E.swp.keep.swp.keep),(sl.mono λk d=>.inl (.inl d))⟩,_,_,_,_,hL,ah.up (λk d=>.inl (.inl d)) E.old,.inl (.inr (.inl ⟨_,_,_,rfl⟩)),hb,g1,g2,rfl⟩}
def AmK{o:Nat}{m:Nat}(ih:∀k,k<=m->Big k)(hR:FS B H)(h:O' B H H p ts o qs)(t:Ed ts)(M:o<=64)(hn:16*ts.length<=m):Aw prog 112 #[J_ p] H (SyR B H p ts o qs (pE (m+1) .at_ o ts)) (SyE B H (pE (m+1) .at_ o ts)):=by
 refine Aw.of_vc func112 rfl (call112 _) (Ab.of (Af (FK h t) λH1 a1=>?_));have h1:=h.call a1;refine Aq (.agg (zK ⟨0,0,⟨#[]⟩⟩).toArray) (zK ⟨0,0,⟨#[]⟩⟩) M5 rfl ?_;intro q H2 hq N O P;refine TR h1 hq N O rfl P (k:=hd ts) λH3 b a3 Q=>?_;clear hq N O P h1 a1;have d:∀k,B k->(B k\/k=q):=λ_ h=>.inl h;obtain⟨X,a⟩:∃X,X=pE (m+1) .at_ o ts:=⟨_,rfl⟩;rw[<-a];rw[show pE (m+1) .at_ o ts=(if(hd ts).k=2 then .inr (.tx (hd ts).p (hd ts).s,ts.tail) else if(hd ts).k=3 then .inr (.re (hd ts).p (hd ts).s,ts.tail) else if(hd ts).k=1/\0<zL (hd ts).s then vR o ts.tail (X_ 40) (X_ 41) (pE m (.ar 0 (zL (hd ts).s).toNat .nil) (o+1) ts.tail.tail) (.cl (hd ts).p (hd ts).s) else if(hd ts).k=1/\zL (hd ts).s=0 then .inr (.nm (hd ts).p (hd ts).s,ts.tail) else if yF ts (X_ 123)then vR o ts (X_ 123) (X_ 125) (pE m (.ex 0) (o+1) ts.tail) (.kd (hd ts).p) else if yF ts (X_ 40)then vR o ts (X_ 40) (X_ 41) (pE m (.ex 0) (o+1) ts.tail) id else .inl (60,(hd ts).p))from rfl]at a;have fin:∀{G v e},(hd ts).k≠0->X= .inr (e,ts.tail)->O' (λk=>B k\/k=q) H3 G p ts.tail o qs->ExC (λk=>B k\/k=q) G e [v]->SyR B H p ts o qs X v G:=λn a f A=>by{have⟨R,S⟩:=t.tail n;exact⟨_,_,_,a,R,zO,d,a3.trans (f.old.mono d),f.rb,A⟩};have g:∀{G D o},O' (λk=>B k\/k=q) H3 G p D o qs->L_ G q 122 (zK (hd ts)):=λh=>Q.agr h.old (.inr rfl);repeat ((conv=>whnf);first | refine Ah.run ?_ | refine E_ ?_ | refine C_ (Q.cellE rfl) zA ?_)
 by_cases W:(hd ts).k=2;{have z:(((hd ts).k:Int)==2)=zW:=by{rw[W];rfl};rw[H_ W]at a;(conv=>whnf);rw[z];refine Ab.of (An.mk (HN b t) ?_);rintro _ H4 ⟨rfl,f⟩;(repeat ((conv=>whnf);first | refine E_ ?_ | refine C_ ((g f).cellE rfl) zA ?_));refine Ad underlying131 rfl _ rfl [B_ ((hd ts).p:Int),.string (hd ts).s] zX ?_;(conv=>whnf);exact fin zO a f rfl};have d2:(((hd ts).k:Int)==2)=zU:=Dl W;rw[G_ W]at a;(conv=>whnf);rw[d2];repeat ((conv=>whnf);first | refine Ah.run ?_ | refine E_ ?_ | refine C_ ((g b).cellE rfl) zA ?_)
 by_cases Y:(hd ts).k=3;{have z:(((hd ts).k:Int)==3)=zW:=by{rw[Y];rfl};rw[H_ Y]at a;(conv=>whnf);rw[z];refine Ab.of (An.mk (HN b t) ?_);rintro _ H4 ⟨rfl,f⟩;(repeat ((conv=>whnf);first | refine E_ ?_ | refine C_ ((g f).cellE rfl) zA ?_));refine Ad underlying133 rfl _ rfl [B_ ((hd ts).p:Int),.string (hd ts).s] zX ?_;(conv=>whnf);exact fin zO a f rfl};have d3:(((hd ts).k:Int)==3)=zU:=Dl Y;rw[G_ Y]at a;(conv=>whnf);rw[d3];repeat ((conv=>whnf);first | refine Ah.run ?_ | refine E_ ?_ | refine C_ ((g b).cellE rfl) zA ?_)
 by_cases E:(hd ts).k=1/\0<zL (hd ts).s;{have z:(((hd ts).k:Int)==1)=zW:=by{rw[E.1];rfl};have T:zT ((0:Int)<zL (hd ts).s)=zW:=a_ E.2;rw[H_ E]at a;(repeat ((conv=>whnf);first | refine Ah.run ?_ | rw[z] | rw[T] | refine E_ ?_ | refine C_ ((g b).cellE rfl) zA ?_ | (refine Ab.of (Af K0 λG1 a1=>?_);have b:=b.call a1)));refine Ab.mk (AfW ih (hR.up d (a3.trans (b.old.mono d))) b.rb t M E.1 E.2 hn) ?_ ?_;{rintro v H4 ⟨e,D,B4,w,F,I,a0,a4,f,A⟩;(conv=>whnf);exact⟨e,D,B4,a.trans w,F,I,λk n=>a0 k (d k n),(a3.trans (b.old.mono d)).trans (a4.mono d),f,A⟩};rintro y H4 ⟨c,r,w,rfl,a4⟩;exact⟨c,r,a.trans w,rfl,(a3.trans (b.old.mono d)).trans (a4.mono d)⟩};rw[G_ E]at a;by_cases kB:(hd ts).k=1/\zL (hd ts).s=0;{have z:(((hd ts).k:Int)==1)=zW:=by{rw[kB.1];rfl};have T:zT ((0:Int)<zL (hd ts).s)=zU:=by{rw[kB.2];rfl};have d5:(zL (hd ts).s==0)=zW:=by{rw[kB.2];rfl};rw[H_ kB]at a;(repeat ((conv=>whnf);first | refine Ah.run ?_ | rw[z] | rw[T] | rw[d5] | refine E_ ?_ | refine C_ ((g b).cellE rfl) zA ?_ | (refine Ab.of (Af K0 λG1 a1=>?_);have b:=b.call a1)));refine Ab.of (An.mk (HN b t) ?_);rintro _ H4 ⟨rfl,f⟩;(repeat ((conv=>whnf);first | refine E_ ?_ | refine C_ ((g f).cellE rfl) zA ?_));refine Ad underlying129 rfl _ rfl [B_ ((hd ts).p:Int),.string (hd ts).s] zX ?_;(conv=>whnf);exact fin zO a f rfl};rw[G_ kB]at a;by_cases Z:(hd ts).k=1;(all_goals
 have z:(hd ts).k≠1->(((hd ts).k:Int)==1)=zU:=Dl;have a8:(hd ts).k=1->(((hd ts).k:Int)==1)=zW:=λh=>by rw[h];rfl
 have T:(hd ts).k=1->zT ((0:Int)<zL (hd ts).s)=zU:=λh=>b_ λh2=>E ⟨h,h2⟩;have d5:(hd ts).k=1->(zL (hd ts).s==0)=zU:=λh=>beq_eq_false_iff_ne.2 λh2=>kB ⟨h,h2⟩;repeat ((conv=>whnf);first | refine Ah.run ?_ | rw[z Z] | rw[a8 Z] | rw[T Z] | rw[d5 Z] | refine E_ ?_ | refine C_ ((g b).cellE rfl) zA ?_ | (refine Ab.of (Af K0 λG1 a1=>?_);have b:=b.call a1))
 refine Ab.of (Af (qR b t) λG1 a1=>?_);have b:=b.call a1;cases J:yF ts (X_ 123)with|true=>{
 rw[J,H_ rfl]at a;unfold vR at a;refine Ab.mk (RI M b.rb t) ?_ ?_;rotate_left
 {rintro y H4 ⟨rfl,u,a4⟩;rw[G_ (by rw[J];exact nofun),H_ (u J)]at a;exact⟨23,_,a,by rw[H_ J],a3.trans ((b.old.mono d).trans (a4.mono d))⟩};rintro _ H4 ⟨rfl,-,a9,f⟩;have⟨R,S⟩:=t.tail (by have:=JG J;omega);rw[G_ (by rw[J];exact nofun),G_ zO]at a;have a4:A_ B H H4:=a3.trans ((b.thn f).old.mono d);refine Ab.mk ((ih m (I_ m)).ex (l:=0) (hR.up d a4) f.rb R zO zO zO) ?_ ?_;rotate_left
 {rintro y H5 ⟨c,r,w,rfl,x⟩;rw[w]at a;exact⟨c,r,a,rfl,a4.trans (x.mono d)⟩};rintro v H5 ⟨e,D,B5,w,F,I,j,x,h5,A⟩;rw[w]at a;refine Ab.mk (RJ h5 M F) ?_ ?_;rotate_left
 {rintro y H6 ⟨u,rfl,K⟩;exact⟨60,_,a.trans (G_ (by rw[u];exact nofun)),rfl,a4.trans ((x.mono d).trans (K.mono λk n=>j k (d k n)))⟩};rintro _ H6 ⟨rfl,u,C⟩;have⟨L,U⟩:=F.tail (by have:=JG u;omega);have K:A_ B H H6:=a4.trans ((x.mono d).trans (C.old.mono λk n=>j k (d k n)));have V:L_ H6 q 122 (zK (hd ts)):=(g b).agr (((f.old).trans x).trans (C.old.mono j)) (.inr rfl);obtain⟨t1,x1,rfl⟩:=A.ifc;repeat ((conv=>whnf);first | refine E_ ?_ | refine C_ (V.cellE rfl) zA ?_)
 refine Ad underlying139 rfl _ rfl [B_ ((hd ts).p:Int),.iface t1 x1] zX ?_;(conv=>whnf);exact⟨_,D.tail,B5,a.trans (H_ u),L,zO,λk n=>j k (d k n),K,C.rb,_,A.up (λ_ h=>h) C.old,rfl⟩}|false=>{
 rw[J,G_ nofun]at a;repeat ((conv=>whnf);first | refine Ah.run ?_)
 refine Ab.of (Af (qR b t) λG1 a1=>?_);have b:=b.call a1;cases e2:yF ts (X_ 40)with|true=>{
 rw[e2,H_ rfl]at a;unfold vR at a;refine Ab.mk (RI M b.rb t) ?_ ?_;rotate_left
 {rintro y H4 ⟨rfl,u,a4⟩;rw[G_ (by rw[e2];exact nofun),H_ (u e2)]at a;exact⟨23,_,a,by rw[H_ e2],a3.trans ((b.old.mono d).trans (a4.mono d))⟩};rintro _ H4 ⟨rfl,-,a9,f⟩;have⟨R,S⟩:=t.tail (by have:=JG e2;omega);rw[G_ (by rw[e2];exact nofun),G_ zO]at a;have a4:A_ B H H4:=a3.trans ((b.thn f).old.mono d);refine Ab.mk ((ih m (I_ m)).ex (l:=0) (hR.up d a4) f.rb R zO zO zO) ?_ ?_;rotate_left
 {rintro y H5 ⟨c,r,w,rfl,x⟩;rw[w]at a;exact⟨c,r,a,rfl,a4.trans (x.mono d)⟩};rintro v H5 ⟨e,D,B5,w,F,I,j,x,h5,A⟩;rw[w]at a;refine Ab.mk (RJ h5 M F) ?_ ?_;rotate_left
 {rintro y H6 ⟨u,rfl,K⟩;exact⟨60,_,a.trans (G_ (by rw[u];exact nofun)),rfl,a4.trans ((x.mono d).trans (K.mono λk n=>j k (d k n)))⟩};rintro _ H6 ⟨rfl,u,C⟩;have⟨L,U⟩:=F.tail (by have:=JG u;omega);have K:A_ B H H6:=a4.trans ((x.mono d).trans (C.old.mono λk n=>j k (d k n)));(conv=>whnf);exact⟨_,D.tail,B5,a.trans (H_ u),L,zO,λk n=>j k (d k n),K,C.rb,A.up (λ_ h=>h) C.old⟩}|false=>rw[e2,G_ nofun]at a;refine Ab.mk (LP (c:=60) b t) (λ_ _ h=>h.elim) ?_;rintro y H4 ⟨rfl,a4⟩;exact⟨60,_,a,rfl,a3.trans ((b.call a4).old.mono d)⟩})
def VN:∀n,Big n:=λn=>by
 induction n using Nat.strongRecOn with
 | ind n e=>
   refine⟨λa h b c f d=>AmL e a h b c f d,λa h b c d=>AmM e a h b c d,λa h b c d=>?_⟩;obtain⟨m,rfl⟩:∃m,n=m+1:=⟨n-1,zO⟩;exact AmK (λk g=>e k zO) a h b c zO
abbrev tN:=Nat×ByteArray×v_
def sT(d:tN):List v_:=[B_ (d.1:Int),.string d.2.1,d.2.2]
def tDf:Ty tN where
 size:=3
 rep _ _ cs d:=cs=sT d/\d.2.2.oneCell'=zW
 len h:=by rw[h.1];rfl
 frame h _:=h
 mono h _:=h
def Ia(B:Nat->Prop)(H:Aa):List Df->List tN->Prop | [],vs=>vs=[]| d::ds,vs=>∃v ws,vs=(d.p,d.s,v)::ws/\ExC B H d.a [v]/\Ia B H ds ws
section
variable{B B' S:Nat->Prop}{H0 H H':Aa}{p o q n l:Nat}{ts:List Tk}{s:ByteArray}{qs:List Pc}
def Ia.up(a:∀k,B k->B' k)(b:A_ B H H'):∀{ds:List Df} {vs:List tN},Ia B H ds vs->Ia B' H' ds vs | [],_,h=>h | _::_,_,⟨v,ws,e,h,h2⟩=>⟨v,ws,e,h.up a b,h2.up a b⟩
def Ia.snoc{d:Df}{v:v_}(b:ExC B H d.a [v]):∀{ds:List Df} {vs:List tN},Ia B H ds vs->Ia B H (ds++[d]) (vs++[(d.p,d.s,v)])| [],_,h=>by cases h;exact⟨v,[],rfl,b,rfl⟩ | _::_,_,⟨w,ws,e,h,h2⟩=>by subst e;exact⟨w,ws++[_],rfl,h,h2.snoc b⟩
structure PgV(B:Nat->Prop)(H:Aa)(v:v_)(ds:List Df)(e:Ex):Prop where
 ex:∃g a n vs w,v= J_ g/\B g/\L_ H g 95 [.slice a vs.length n,w]/\h_ tDf none_ H 0 97 (.slice a vs.length n) vs/\(∀b,R_ (.slice a vs.length n) b->B b)/\Ia B H ds vs/\ExC B H e [w]
def Ia.upT(a:∀k l,B k->L_ H k 93 l->B' k)(b:A_ B' H H'):∀{ds:List Df} {vs:List tN},Ia B H ds vs->Ia B' H' ds vs | [],_,h=>h | _::_,_,⟨v,ws,e,h,h2⟩=>⟨v,ws,e,h.upT a b,h2.upT a b⟩
def PgV.upT{v:v_}{ds:List Df}(j:∀k t l,t=93\/t=97\/t=95->B k->L_ H k t l->B' k)(m:A_ B' H H')(h:PgV B H v ds e):PgV B' H' v ds e:=by obtain⟨g,a,n,vs,w,rfl,p,q,hs,u,hd,y⟩:=h;have d:=λk l=>j k _ l (.inl rfl);have f:∀b,R_ (.slice a vs.length n) b->B' b:=λb c=>by{obtain⟨A,⟨z,⟨x,-⟩ | ⟨b',cap,r,x,-,p,g1,g2,C,D⟩⟩,E⟩:=hs;{rw[x]at c;obtain⟨_,_,_,h⟩:=c;cases h};have:=u b c;rw[x]at c;obtain⟨_,_,_,h⟩:=c;cases h;exact j _ _ _ (.inr (.inl rfl)) this p};exact⟨g,a,n,vs,w,rfl,j g _ _ (.inr (.inr rfl)) p q,q.agr m (j g _ _ (.inr (.inr rfl)) p q),hs.agr m f λb h=>h.elim,f,hd.upT d m,y.upT d m⟩
abbrev qM(a:Option Addr)(n:Nat)(vs:List tN):Pc:=pS tDf 97 a vs.length n vs
abbrev oJ(g:Nat)(a:Option Addr)(k n:Nat)(w:v_):Pc:=pB 95 g [.slice a k n,w]
def PgR(B:Nat->Prop)(H:Aa)(x:FT ⊕ (List Df×Ex))(v:v_)(H':Aa):Prop:=∃ds e B',x= .inr (ds,e)/\(∀k,B k->B' k)/\(∀k,B' k->k<H'.size)/\A_ B H H'/\PgV B' H' v ds e
def fS(B:Nat->Prop)(H:Aa)(x:FT ⊕ (List Df×Ex))(y:v_)(H':Aa):Prop:=∃c q,x= .inl (c,q)/\y=Bx c q/\A_ B H H'
def XR(hR:FS B H)(h:O' B H H p ts 0 [])(he:Ed ts)(az:ts.length<=1000000):Aw prog 22 #[J_ p] H (PgR B H (tK ts.length ts [])) (fS B H (tK ts.length ts [])):=by
 refine Aw.of_vc func22 rfl (call22 _) (Ad underlying95 rfl _ rfl [.slice zV 0 0,.nilIface] zX (BF [.slice zV 0 0,.nilIface] rfl ?_));intro g H1 hq K E I;have⟨a0,n0,L,sl⟩:=h;have s1:=((L.box hq K E I).rot.swp.nils tDf 97).rot.swp;have h1:O' B H1 H1 p ts 0 [qM zV 0 [],oJ g zV 0 0 .nilIface]:=⟨a0,n0,s1.rebase,sl.frame (A_.trans (λk t=>rfl) s1.old)⟩;have a1:A_ B H H1:=s1.old;clear hq K E I s1 L sl;obtain⟨F,u⟩:∃F,F=tK ts.length ts []:=⟨_,rfl⟩;rw[<-u];refine CU.mk [] (λ_:List Tk=>[]) (λm G=>∃ds B1 f vs a n,m.length<=f/\vs.length+m.length<=ts.length/\F=tK f m ds/\Ed m/\(∀k,B k->B1 k)/\A_ B H1 G/\O' B1 G G p m 0 [qM a n vs,oJ g a vs.length n .nilIface]/\Ia B1 G ds vs) (λm _=>m.length) ⟨ts,rfl,[],B,ts.length,[],zV,0,I_ _,zZ,u,he,λk t=>t,A_.refl _ _,h1,rfl⟩ ?_;rintro m G b0 ⟨ds,B1,f,vs,a,n,hf,bd,u,W,A,ag,D,hv⟩;have Q:A_ B H G:=a1.trans ag;obtain⟨f,rfl⟩:∃j,f=j+1:=⟨f-1,by have⟨be,e'⟩:=W.pos;rw[e']at hf;simp at hf;omega⟩
 rw[show tK (f+1) m ds=(if(hd m).k=1/\(hd m).s=lH then
     (if(hd m.tail).k≠1\/zL (hd m.tail).s≠0 then .inl (60,(hd m.tail).p)
     else if yF m.tail.tail (X_ 61)=zU then .inl (60,(hd m.tail.tail).p)
     else match sA 0 m.tail.tail.tail (.ex 0)with
      | .inl e=>.inl e
      | .inr (a,ws)=>if yF ws (X_ 59)=zU then .inl (60,(hd ws).p)else tK f ws.tail (ds++[⟨(hd m.tail).p,(hd m.tail).s,a⟩]))
  else match sA 0 m (.ex 0)with
   | .inl e=>.inl e
   | .inr (a,ws)=>if(hd ws).k≠0 then .inl (60,(hd ws).p)else .inr (ds,a))from rfl]at u
 refine Ab.of (Af (FK D W) λG1 b1=>?_);have D:=D.call b1;refine QV rfl ?_;by_cases hl:(hd m).k=1/\(hd m).s=lH;{
 have d1:(((hd m).k:Int)==1)=zW:=by rw[hl.1];rfl
 have d2:((hd m).s.toList==(⟨#[108,101,116]⟩:ByteArray).toList)=zW:=Li.2 hl.2;rw[H_ hl]at u;have⟨M,b5⟩:=W.tail zO;(conv=>whnf);rw[d1];refine Ab.of (Af (FK D W) λG2 b2=>?_);have D:=D.call b2;refine QV rfl ?_;(conv=>whnf);rw[d2];refine Ab.of (An.mk (HN D W) ?_);rintro _ G3 ⟨rfl,J⟩;refine Ab.of (Af (FK J M) λG4 b4=>?_);have J:=J.call b4;refine Aq (.agg (zK ⟨0,0,⟨#[]⟩⟩).toArray) (zK ⟨0,0,⟨#[]⟩⟩) M5 rfl ?_;intro q H2 hq K E I;refine TR J hq K E rfl I (k:=hd m.tail) λH3 J a3 ak=>?_;clear hq K E I b1 b2 b4;have C:∀k,B k->(B1 k\/k=q):=λk t=>.inl (A k t);have X:A_ B H H3:=Q.trans (a3.mono A);have Y:∀{G ws qs},O' (λk=>B1 k\/k=q) H3 G p ws 0 qs->L_ G q 122 (zK (hd m.tail)):=λh=>ak.agr h.old (.inr rfl);refine Ah.run ?_;repeat ((conv=>whnf);first | refine E_ ?_ | refine C_ ((Y J).cellE rfl) zA ?_)
 have ah:∀{G:Aa} {y:v_},((hd m.tail).k≠1\/zL (hd m.tail).s≠0)->O' (λk=>B1 k\/k=q) H3 G p m.tail 0 [qM a n vs,oJ g a vs.length n .nilIface]->y=Bx 60 (hd m.tail).p->fS B H F y G:=λhc h Z=>by{rw[H_ hc]at u;exact⟨60,_,u,Z,X.trans (h.old.mono C)⟩};by_cases k1:(hd m.tail).k=1;rotate_left
 {have d3:(((hd m.tail).k:Int) != 1)=zW:=bne_iff_ne.2 zO;(conv=>whnf);rw[d3];refine Ab.mk (LP (c:=60) J M) (λ_ _ h=>h.elim) ?_;rintro y H4 ⟨Z,a4⟩;exact ah (.inl k1) (J.call a4) Z};have d3:(((hd m.tail).k:Int) != 1)=zU:=by rw[k1];rfl
 repeat ((conv=>whnf);first | rw[d3] | refine E_ ?_ | refine C_ ((Y J).cellE rfl) zA ?_)
 refine Ab.of (Af K0 λG1 b1=>?_);have J:=J.call b1;by_cases k2:zL (hd m.tail).s=0;rotate_left
 {have d4:(zL (hd m.tail).s != 0)=zW:=bne_iff_ne.2 k2;(conv=>whnf);rw[d4];refine Ab.mk (LP (c:=60) J M) (λ_ _ h=>h.elim) ?_;rintro y H4 ⟨Z,a4⟩;exact ah (.inr k2) (J.call a4) Z};have d4:(zL (hd m.tail).s != 0)=zU:=by rw[k2];rfl
 rw[G_ zO]at u;(conv=>whnf);rw[d4];have⟨ai,b6⟩:=M.tail zO;refine Ab.of (An.mk (HN J M) ?_);rintro _ H4 ⟨-,h4⟩;refine Ab.mk (LQ h4.rb ai) ?_ ?_;rotate_left
 {rintro y H5 ⟨R,rfl,a5⟩;rw[H_ R]at u;exact⟨60,_,u,rfl,X.trans ((h4.old.trans a5).mono C)⟩};rintro _ H5 ⟨rfl,R,S⟩;rw[G_ (by rw[R];exact nofun)]at u;have S:=h4.thn S;have⟨am,b7⟩:=ai.tail (by have:=JG R;omega);have ab:A_ B H H5:=X.trans (S.old.mono C);have ao:=Y S;have aj:L_ H5 g 95 [.slice a vs.length n,.nilIface]:=by obtain⟨a5,n5,L,-⟩:=S;exact L.blk 2 rfl
 refine A7.held (λk=>k=g\/k=q) [16] (sq [0,1,2,3,4,5,6,7,8,9] (.f 10 (sq [11] (.f 12 (.f 13 (sq [14,15] (.f 16 .e))))))) (AG _ _) rfl zX ?_;repeat ((conv=>whnf);first | refine E_ ?_ | refine C_ (aj.cellE rfl) (.inl rfl) ?_ | refine C_ (ao.cellE rfl) (.inr rfl) ?_)
 refine Ab.mk ((VN (16*m.tail.tail.tail.length+16)).ex (l:=0) (hR.up C ab) S.rb am zQ zQ zO) ?_ ?_;rotate_left
 {rintro y H6 ⟨c,r,hx,rfl,N⟩;unfold sA at u;rw[hx]at u;exact⟨c,r,u,rfl,ab.trans (N.mono C)⟩};rintro w H6 ⟨e,ws,B6,hx,hw,ap,z,N,⟨a7,n7,L,sl⟩,O⟩;unfold sA at u;rw[hx]at u;have kp:∀{G:Aa} {ps:List Pc},D_ B6 H6 G (pB 85 p [.slice a7 ws.length n7,B_ ((0:Nat):Int)]::ps)->L_ G g 95 [.slice a vs.length n,.nilIface]->A_ (λk=>k=g\/k=q) H5 G:=λL hg k t=>by{rcases t with rfl | rfl;{exact FV aj hg k rfl};exact(N.trans (L.old.mono z)) k (.inr rfl)};obtain⟨U,V,rfl⟩:=O.ifc;refine⟨kp L.rebase (L.blk 2 rfl),?_⟩;refine Ad underlying97 rfl _ rfl (sT ((hd m.tail).p,(hd m.tail).s,Value.iface U V)) zX (Az lK (sT ((hd m.tail).p,(hd m.tail).s,Value.iface U V)) rfl rfl zQ zQ ?_);intro y H7 Z K E I;have ad:=L.rebase.skip Z I;refine⟨kp ad (ad.blk 2 rfl),?_⟩;refine Uj (ys:=[((hd m.tail).p,(hd m.tail).s,Value.iface U V)]) ad 1 lK rfl (E.cells (o:=0) (cs:=sT ((hd m.tail).p,(hd m.tail).s,Value.iface U V)) λj v hv=>by rw[N_];exact hv) (Ty.reps_one (T:=tDf) (x:=((hd m.tail).p,(hd m.tail).s,Value.iface U V)) ⟨rfl,rfl⟩) rfl (by simp[sT,Value.oneCell']) (by simp only[U_,i_];omega) zQ λa8 n8 H8 P _=>?_;refine⟨kp P (P.blk 2 rfl),?_⟩;refine E_ ?_;refine Bc P 2 rfl zZ rfl λH9 s9=>?_
 have h9:O' B6 H6 H9 p ws 0 [qM a8 n8 (vs++[((hd m.tail).p,(hd m.tail).s,Value.iface U V)]),oJ g a8 (vs++[((hd m.tail).p,(hd m.tail).s,Value.iface U V)]).length n8 .nilIface]:=⟨a7,n7,by
  unfold qM;rw[M_];exact s9,sl.frame s9.old⟩
 have aq:A_ B H H9:=ab.trans ((N.mono C).trans (h9.old.mono λk t=>z k (C k t)));refine Ab.mk (LQ h9.rb hw) ?_ ?_;rotate_left
 {rintro y H10 ⟨R,rfl,au⟩;exact⟨60,_,u.trans (H_ R),rfl,aq.trans (au.mono λk t=>z k (C k t))⟩};rintro _ H10 ⟨rfl,R,ae⟩;have⟨aw,b9⟩:=hw.tail (by have:=JG R;omega);(conv=>whnf);refine⟨rfl,ws.tail,rfl,⟨ds++[⟨(hd m.tail).p,(hd m.tail).s,e⟩],B6,f,_,a8,n8,zO,by rw[M_];show vs.length+1+ws.tail.length<=_;omega,u.trans (G_ (by rw[R];exact nofun)),aw,λk t=>z k (C k t),?_,ae.rb,?_⟩,zO⟩;{exact ag.trans ((a3.mono A).trans (((S.old.trans N).mono C).trans ((h9.old.trans ae.old).mono λk t=>z k (C k t))))};have e6:A_ (λk=>B1 k\/k=q) H3 H6:=S.old.trans N;refine(Ia.snoc (d:=⟨(hd m.tail).p,(hd m.tail).s,e⟩) O ?_).up (λ_ h=>h) (h9.old.trans ae.old);exact hv.up (λk t=>z k (.inl t)) (a3.trans (e6.mono λk t=>.inl t))};rw[G_ hl]at u;unfold sA at u;by_cases k1:(hd m).k=1;(all_goals
 have d1:(hd m).k≠1->(((hd m).k:Int)==1)=zU:=Dl;have ay:(hd m).k=1->(((hd m).k:Int)==1)=zW:=λh=>by rw[h];rfl
 have d2:(hd m).k=1->((hd m).s.toList==(⟨#[108,101,116]⟩:ByteArray).toList)=zU:=λh=>Lj λD=>hl ⟨h,D⟩;repeat ((conv=>whnf);first | rw[d1 k1] | rw[ay k1] | rw[d2 k1] | refine QV rfl ?_ | (refine Ab.of (Af (FK D W) λG1 b1=>?_);have D:=D.call b1))
 refine Ab.mk ((VN (16*m.length+16)).ex (l:=0) (hR.up A (Q.trans (D.old.mono A))) D.rb W zQ zQ zO) ?_ ?_;rotate_left
 {rintro y H6 ⟨c,r,hx,rfl,N⟩;rw[hx]at u;exact⟨c,r,u,rfl,Q.trans ((D.old.trans N).mono A)⟩};rintro w H6 ⟨e,ws,B6,hx,hw,ap,z,N,⟨a7,n7,L,sl⟩,O⟩;rw[hx]at u;refine E_ ?_;refine Bc L 2 rfl zZ (by obtain⟨U,V,rfl⟩:=O.ifc;rfl) λH7 s7=>?_;have h7:O' B6 H6 H7 p ws 0 [qM a n vs,oJ g a vs.length n w]:=⟨a7,n7,s7,sl.frame s7.old⟩;have ag7:A_ B H H7:=Q.trans (((D.old.trans N).mono A).trans (h7.old.mono λk t=>z k (A k t)));refine Ah.run (Ab.of (Af (FK h7 hw) λG8 b8=>?_));have h8:=h7.call b8;refine QV rfl ?_;by_cases k0:(hd ws).k=0;{have d3:(((hd ws).k:Int) != 0)=zU:=by{rw[k0];rfl};have u:=u.trans (G_ (by rw[k0];exact λh=>h rfl));(conv=>whnf);rw[d3];(conv=>whnf);have⟨a8,n8,P,bf⟩:=h8;have vw:=(P.at_ 1 rfl).1;have hg:=P.blk 2 rfl;have fr:∀k,B1 k->(B6 k\/k=g)\/R_ (.slice a vs.length n) k:=λk t=>.inl (.inl (z k t));refine⟨ds,e,λk=>k<G8.size,u,λk t=>P.up (z k (A k t)),λk t=>t,ag7.trans (b8.mono λk t=>s7.up (z k (A k t))),g,a,n,vs,w,rfl,hg.lt,hg,vw,λb hb=>(vw.lt hb).2,?_,?_⟩;{exact hv.up (λk t=>P.up (z k t)) (((D.old).trans N).trans (P.old.mono z))};exact O.up (λk t=>P.up t) P.old};have d3:(((hd ws).k:Int) != 0)=zW:=bne_iff_ne.2 zO;have u:=u.trans (H_ k0);(conv=>whnf);rw[d3];refine Ab.mk (LP (c:=60) h8 hw) (λ_ _ h=>h.elim) ?_;rintro y H9 ⟨rfl,a9⟩;exact⟨60,_,u,rfl,ag7.trans ((b8.trans (a9.mono λk t=>Ak b8 t)).mono λk t=>s7.up (z k (A k t)))⟩)
end
def FtB(b:Nat)(e:FT):Prop:=0<e.1/\e.1<=60/\e.2<=b
def FtB.of(h:p<=b)(a:0<c:=by decide)(h2:c<=60:=by decide):FtB b (c,p):=⟨a,h2,h⟩
def Oz{t:ByteArray}{o:Nat}{e:FT}(a:o<=t.size):∀n i l,GY t o n i l= .inl e->FtB t.size e
 | 0,i,l,h=>by cases h;exact .of a
 | n+1,i,l,h=>by
   unfold GY at h;have d:=MW t i;have b:=λl=>Oz (e:=e) a n (i+1) l;have c:=λl=>Oz (e:=e) a n ((Gv t i).2+1) l
   repeat' split at h
   all_goals first
    | exact b _ h
    | exact c _ h
    | (cases h;exact .of zO)
    | cases h
def O3{t:ByteArray}{o:Nat}{e:FT}(a:o<=t.size):∀n i,Ih t o n i= .inl e->FtB t.size e
 | 0,i,h=>by cases h;exact .of a
 | n+1,i,h=>by
   unfold Ih at h;have b:=O3 (e:=e) a n (i+1);have c:=O3 (e:=e) a n (i+2)
   repeat' split at h
   all_goals first
    | exact b h
    | exact c h
    | (cases h;exact .of zO)
    | cases h
theorem AeZ{t:ByteArray}{i:Nat}(b:i<t.size){e:FT}(h:uL t i= .inl e):FtB t.size e:=by
 unfold uL at h;split at h
 ·split at h
  ·cases h;exact .of (by omega)
  ·cases h
 ·split at h
  ·cases a:GY t i (t.size-(i+1)) (i+1) []with
   | inl e2=>rw[a]at h;cases h;exact Oz (by omega) _ _ _ a
   | inr r=>rw[a]at h;cases h
  ·split at h
   ·cases a:Ih t i (t.size-(i+1)) (i+1)with
    | inl e2=>rw[a]at h;cases h;exact O3 (by omega) _ _ a
    | inr r=>rw[a]at h;cases h
   ·repeat' split at h
    all_goals first | (cases h;exact .of (by omega)) | cases h
theorem O0{t:ByteArray}{o:Nat}:∀n i l r,l.length<=i->GY t o n i l= .inr r->r.1.length<=r.2
 | 0,i,l,r,_,h=>by cases h
 | n+1,i,l,r,hl,h=>by
   unfold GY at h;have d:=MW t i;have a:=λb=>O0 (t:=t) (o:=o) n (i+1) (l++[b]) r (by simp;omega);have c:=λb=>O0 (t:=t) (o:=o) n ((Gv t i).2+1) (l++[b]) r (by simp;omega)
   repeat' split at h
   all_goals first
    | (cases h;done)
    | (cases h;simp only;omega)
    | exact a _ h
    | exact c _ h
theorem Af0{t:ByteArray}{i:Nat}(f:i<t.size){x:Tk×Nat}(h:uL t i= .inr x):x.1.p=i/\x.1.s.size<=t.size:=by
 have d:∀a b,(t.extract a b).size<=t.size:=λa b=>by simp;omega
 unfold uL at h;split at h
 ·split at h
  ·cases h
  ·cases h;exact⟨rfl,d _ _⟩
 ·split at h
  ·cases c:GY t i (t.size-(i+1)) (i+1) []with
   | inl e2=>rw[c]at h;cases h
   | inr r=>
     rw[c]at h;cases h;have g:=O0 _ _ _ _ (V_ _) c;have e:=Nl _ _ _ _ c;exact⟨rfl,by show(List.toArray (r.1.map UInt8.ofNat)).size<=_;rw[List.size_toArray,d_];omega⟩
  ·split at h
   ·cases c:Ih t i (t.size-(i+1)) (i+1)with
    | inl e2=>rw[c]at h;cases h
    | inr r=>rw[c]at h;cases h;exact⟨rfl,d _ _⟩
   ·repeat' split at h
    ·cases h;exact⟨rfl,d _ _⟩
    ·rename_i e;cases h;have:i+1<t.size:=Et (by omega);exact⟨rfl,by show 2<=t.size;omega⟩
    ·cases h
def cW:∀(n i:Nat) (l:List Tk),i<=t.size->t.size<=i+n->l.length<=i->(∀k∈l,k.p<=t.size/\k.s.size<=t.size)->match IF t n i l with
  | .inl e=>FtB t.size e
  | .inr ts=>Ed ts/\(∀k∈ts,k.p<=t.size/\k.s.size<=t.size)/\ts.length<=t.size+1:=by
 have fin:∀{l:List Tk} {i},i<=t.size->l.length<=i->(∀k∈l,k.p<=t.size/\k.s.size<=t.size)->Ed (l++[⟨0,t.size,⟨#[]⟩⟩])/\(∀k∈l++[⟨0,t.size,⟨#[]⟩⟩],k.p<=t.size/\k.s.size<=t.size)/\(l++[⟨0,t.size,⟨#[]⟩⟩]:List Tk).length<=t.size+1:=λd f h=>⟨⟨_,_,rfl,rfl⟩,λk a=>by
  rcases n_.1 a with a | a
  ·exact h k a
  ·cases Q_.1 a;exact⟨I_ _,V_ _⟩,by simp;omega⟩
 intro n
 induction n with
 | zero=>intro i l d r f h;exact fin d f h
 | succ n u=>
   intro i l d r f h;unfold IF;by_cases b:t.size<=i
   ·rw[H_ b];exact fin d f h
   ·rw[G_ b];cases g:uL t i with
    | inl e=>exact AeZ (vO b) g
    | inr x=>
      have⟨k,j⟩:=x;have m:=iJ (vO b) g;have q:=Af0 (vO b) g;have w:=FJ (t:=t) (t.size-j) zU j;simp only at m q;refine u _ _ (w.2 m.2) zO (by simp;omega) λx c=>?_;rcases n_.1 c with c | c
      ·exact h x c
      ·cases Q_.1 c;exact⟨zO,q.2⟩
def T8(t:ByteArray):match OB t with | .inl e=>FtB 4096 e | .inr ts=>Ed ts/\(∀k∈ts,k.p<=4096/\k.s.size<=4096)/\ts.length<=4097:=by unfold OB;by_cases h:4096<t.size;{rw[H_ h];exact⟨zQ,zQ,zQ⟩};rw[G_ h];have:=cW (t:=t) t.size (BZ t t.size zU 0) [] ((FJ _ _ _).2 (V_ _)) zO (V_ _) (λk a=>by cases a);cases hs:IF t t.size (BZ t t.size zU 0) []with|inl e=>rw[hs]at this;exact⟨this.1,this.2.1,by have:=this.2.2;omega⟩|inr ts=>rw[hs]at this;exact⟨this.1,λk a=>by have:=this.2.1 k a;omega,by have:=this.2.2;omega⟩
def Ex.len:Ex->Nat | .cons _ l=>l.len+1 | _=>0
def Ex.len_snoc(a:Ex):∀l:Ex,(l.snoc a).len=l.len+1 | .cons x l=>congrArg (·+1) (len_snoc a l)| .nm _ _ | .tx _ _ | .re _ _ | .kd _ _ | .un _ _ _ | .bi _ _ _ _ | .cl _ _ _ | .nil=>rfl
def xC(b:Nat):Ex->Prop | .nm p s | .tx p s | .re p s=>p<=b/\s.size<=b | .kd p a | .un p _ a=>p<=b/\xC b a | .cl p s a=>p<=b/\xC b a/\0<zL s/\a.len=(zL s).toNat | .bi p _ a c=>p<=b/\xC b a/\xC b c | .nil=>True | .cons a l=>xC b a/\xC b l
def tkB(b:Nat)(ts:List Tk):Prop:=∀k∈ts,k.p<=b/\k.s.size<=b
def OkP(b:Nat):FT ⊕ (Ex×List Tk)->Prop | .inl e=>FtB b e | .inr x=>xC b x.1/\tkB b x.2
def tkB.hds(h:tkB b ts):(hd ts).p<=b/\(hd ts).s.size<=b:=by cases ts with|nil=>exact⟨V_ _,V_ _⟩|cons k ts=>exact h k (yN ..)
def tkB.hd(h:tkB b ts):(hd ts).p<=b:=h.hds.1
def tkB.tail(h:tkB b ts):tkB b ts.tail:=λk a=>h k (List.mem_of_mem_tail a)
def qG(r:FT ⊕ (Ex×List Tk))(f:Ex->List Tk->FT ⊕ (Ex×List Tk)):FT ⊕ (Ex×List Tk):=match r with
 | .inl e=>.inl e
 | .inr (a,us)=>f a us
def OkP.bind{f:Ex->List Tk->FT ⊕ (Ex×List Tk)}:∀{r:FT ⊕ (Ex×List Tk)},OkP b r->(∀a c,xC b a->tkB b c->OkP b (f a c))->OkP b (qG r f)| .inl _,h,_=>h | .inr _,h,hf=>hf _ _ h.1 h.2
def OkP.in_{o:Nat}{x y:ByteArray}{r:FT ⊕ (Ex×List Tk)}{f:Ex->Ex}(c:tkB b ts)(h:OkP b r)(d:∀a g,r= .inr (a,g)->xC b a->xC b (f a)):OkP b (vR o ts x y r f):=by unfold vR;split;{exact .of c.hd};split;{exact .of c.hd};cases r with|inl e=>exact h|inr q=>simp only;split;{exact⟨d _ _ rfl h.1,h.2.tail⟩};exact .of h.2.hd
def S2{b:Nat}{a:Ex}(c:xC b a):∀{l:Ex},xC b l->xC b (l.snoc a)| .cons x l,h=>⟨h.1,S2 c h.2⟩ | .nm _ _,h=>⟨c,trivial⟩ | .tx _ _,h=>⟨c,trivial⟩ | .re _ _,h=>⟨c,trivial⟩ | .kd _ _,h=>⟨c,trivial⟩ | .un _ _ _,h=>⟨c,trivial⟩ | .bi _ _ _ _,h=>⟨c,trivial⟩ | .cl _ _ _,h=>⟨c,trivial⟩ | .nil,h=>⟨c,trivial⟩
def ntB(b:Nat):NT->Prop | .xl _ a | .pl a | .ar _ _ a=>xC b a | _=>True
def iL:∀(n k m:Nat) (l:Ex) (o:Nat) (ts:List Tk) {e:Ex} {a:List Tk},pE n (.ar k m l) o ts= .inr (e,a)->l.len=k->k<=m->e.len=m
 | 0,_,_,_,_,_,_,_,h,_,_=>by cases h
 | n+1,k,m,l,o,ts,e,a,h,hl,hk=>by
   unfold pE at h;split at h
   ·split at h
    ·cases h
    ·split at h
     ·cases h
     ·exact iL n (k+1) m _ o _ h (by rw[Ex.len_snoc,hl]) (by omega)
   ·cases h;omega
def fL:∀(n:Nat) (x:NT) (o:Nat) (ts:List Tk),ntB b x->tkB b ts->OkP b (pE n x o ts):=by
 intro n
 induction n with
 | zero=>intro x o ts h d;exact .of (V_ _)
 | succ n e=>
   intro x o ts h d;have p:=d.hd;have g:=d.tail;have u:=g.hd;cases x with
   | ex l=>
     unfold pE;split
     ·exact e _ _ _ zA d
     ·exact(e (.ex (l+1)) _ _ zA d).bind λa q f j=>e _ _ _ f j
   | xl l a=>
     unfold pE;split
     ·exact(e (.ex (l+1)) _ _ zA g).bind λc q t j=>e _ _ _ ⟨p,h,t⟩ j
     ·exact⟨h,d⟩
   | po=>exact(e .at_ _ _ zA d).bind λa q f j=>e (.pl a) _ _ f j
   | pl a=>
     unfold pE;split
     ·exact e _ _ _ ⟨p,h⟩ g
     ·exact⟨h,d⟩
   | at_=>
     unfold pE
     repeat' split
     all_goals first
      | exact⟨d.hds,g⟩
      | exact .of p
      | exact .in_ g (e _ _ _ zA g.tail) λa q r f=>⟨p,f,zO,iL _ _ _ _ _ _ r rfl (V_ _)⟩
      | exact .in_ d (e _ _ _ zA g) λa q r f=>⟨p,f⟩
      | exact .in_ d (e _ _ _ zA g) λa q r f=>f
   | ar k m l=>
     unfold pE;split
     ·split
      ·exact .of p
      ·exact(e (.ex 0) _ _ zA (by split;exact g;exact d)).bind λa q f j=>e _ _ _ (S2 f h) j
     ·exact⟨h,d⟩
def mA(b:Nat)(ds:List Df):Prop:=∀d∈ds,d.p<=b/\xC b d.a
def fR(b:Nat):FT ⊕ (List Df×Ex)->Prop | .inl e=>FtB b e | .inr x=>mA b x.1/\xC b x.2
def Aj9:∀(n:Nat) (ts:List Tk) (ds:List Df),tkB b ts->mA b ds->fR b (tK n ts ds):=by intro n;induction n with|zero=>intro ts ds a hd;exact .of (V_ _)|succ n f=>{intro ts ds a hds;unfold tK;split;{split;{exact .of a.tail.hd};split;{exact .of a.tail.tail.hd};have:=fL (16*ts.tail.tail.tail.length+16) (.ex 0) 0 _ zA a.tail.tail.tail;unfold sA;cases c:pE (16*ts.tail.tail.tail.length+16) (.ex 0) 0 ts.tail.tail.tail with|inl e=>rw[c]at this;exact this|inr x=>{rw[c]at this;simp only;split;{exact .of this.2.hd};exact f _ _ this.2.tail λd hd=>by{rcases n_.1 hd with hd | hd;{exact hds d hd};cases Q_.1 hd;exact⟨a.tail.hd,this.1⟩}}};have:=fL (16*ts.length+16) (.ex 0) 0 _ zA a;unfold sA;cases c:pE (16*ts.length+16) (.ex 0) 0 ts with|inl e=>rw[c]at this;exact this|inr x=>rw[c]at this;simp only;split;{exact .of this.2.hd};exact⟨hds,this.1⟩}
def PL(t:ByteArray):fR 4096 (I9 t):=by unfold I9;have h:=T8 t;cases hs:OB t with|inl e=>rw[hs]at h;exact h|inr ts=>rw[hs]at h;exact Aj9 _ _ _ h.2.1 λd hd=>by cases hd
abbrev t_(c p:Nat)(w:ByteArray):List v_:=[B_ c,B_ p,.string w]
abbrev tY(c p:Nat)(w:ByteArray):v_:=.agg #[B_ c,B_ p,.string w]
abbrev uW(c p:Nat)(w:ByteArray):v_:=.iface 24 (tY c p w)
def FZ(h:L_ H b 24 (t_ c p w)):AO H b 0 (t_ c p w):=h.cells (λj v a=>by rw[N_];exact a)
def TQ(q2 q3:Nat)(v:v_)(c e:Nat)(w:ByteArray):List Pc:=[pB 49 q2 [v],pB 24 q3 (t_ c e w)]
def AfV{a:Nat}{K:Aa->Prop}(k:K H):BX prog 21 #[J_ a,J_ b] .returning .returning H K:=by refine BX.mk (R:=λH'=>H'=H) (Ce (R:=λH'=>H'=H) func21 rfl ⟨⟨_,rfl⟩,rfl,rfl,rfl,rfl,rfl⟩ .ret rfl ?_) (λH' h=>by rw[h];exact k);(conv=>whnf);refine⟨rfl,?_⟩;refine L9 underlying20 ?_;(conv=>whnf)
def AfU{a e c0 e0:Nat}{w0:ByteArray}{v:v_}{ps:List Pc}{K:Aa->Prop}(g:D_ B H0 H (TQ a b v c0 e0 w0++ps))(k:∀H',D_ B H0 H' (TQ a b (.pointer zV) c e w++ps)->K H'):BX prog 21 #[J_ a,J_ b] (.panicking (pe (uW c e w))) (.panicking [{v:=uW c e w,recovered:=zW}]) H K:=by refine BX.mk (R:=λH'=>D_ B H0 H' (TQ a b (.pointer zV) c e w++ps)) (Ce (R:=λH'=>D_ B H0 H' (TQ a b (.pointer zV) c e w++ps)) func21 rfl ⟨⟨_,rfl⟩,rfl,rfl,rfl,rfl,rfl⟩ (.pan _) rfl ?_) k;(conv=>whnf);refine⟨rfl,?_⟩;refine Mm underlying20 (Ap.held (λ_=>False) 3 (sq [0,1] (.f 2 (.f 3 .e))) rfl zX (He underlying24 (λl h=>by cases h) (Bc g 0 rfl zZ rfl λH1 st1=>(⟨λk j=>j.elim,?_⟩))));refine AB (cs:=t_ c e w) st1 1 rfl rfl (I_ _) rfl λH3 d=>?_;(conv=>whnf);exact d
def AkQ(v:v_)(H:Aa):FT ⊕ (List Df×Ex)->Prop | .inl e=>v= .tuple #[.pointer zV,Bb e.1 e.2]| .inr x=>∃pv,v= .tuple #[pv,Bb 0 0]/\PgV (λk=>k<H.size) H pv x.1 x.2
def Yj(hR:Mb H):Am prog 12 #[.string t] H λv H'=>A_ (F_ H) H H'/\AkQ v H' (I9 t):=by
 refine Am.of_rest func12 rfl (call12 _) (Bn.seq (Aq (.pointer zV) [.pointer zV] rfl rfl ?_));intro I H1 J K x L;have st1:=(St.nil H).box J K x L;refine Aq (Bb 0 0) (Ae 0 0) BY rfl ?_;intro z H2 A M C N;have O:D_ (F_ H) H H2 (TQ I z (.pointer zV) 0 0 ⟨#[]⟩):=st1.box A M C N;refine Bn.seq (An.mk AjN ?_);rintro _ H3 ⟨a3,j⟩;have D:=O.call a3;have m:=T8 t;obtain⟨F,d⟩:∃F,F=I9 t:=⟨_,rfl⟩;rw[<-d];unfold I9 at d;cases hs:OB t with|inl e=>have⟨c,p⟩:=e;rw[hs]at j m d;subst d;have⟨P,Q,R⟩:=m;simp only at P Q R;obtain rfl:=j;refine AB (cs:=Ae c p) D 1 rfl rfl (I_ _) rfl λH4 b=>(Bn.seq (K_ (cs:=Ae c p) (AY (b.blk 1 rfl)) zA (Ad underlying24 rfl _ rfl (Ae 0 0) rfl (Ht (c:=c) (e:=p) (c':=0) (e':=0) zO zO zQ zQ ?_))));rw[j_];refine Ap.heldZ (λk=>k=z) [2] (sq [0] (.f 1 (.f 2 .e))) rfl zX (K_ (cs:=Ae c p) (AY (b.blk 1 rfl)) rfl (M1 b 0 rfl zZ rfl λH5 S j5 n5=>(⟨j5.mono λk h=>?_,?_⟩)));{have:z=H1.size:=A;have:I<H1.size:=x.lt;omega};refine AB (cs:=Ae c p) S 1 rfl rfl (I_ _) rfl λH6 r=>(C_ ((r.blk 0 rfl).cellE rfl) zA (K_ (cs:=Ae c p) (AY (r.blk 1 rfl)) zA ?_));exact⟨r.old,rfl⟩|inr ts=>{
 rw[hs]at j m d;have⟨he,a8,a0⟩:=m;obtain⟨a,n,rfl,sl⟩:=j;refine Bd (cs:=Ae 0 0) D 1 rfl rfl (I_ _) rfl λH4 b ja js=>(Bn.seq (K_ (cs:=Ae 0 0) (AY (b.blk 1 rfl)) zA (Ad underlying24 rfl _ rfl (Ae 0 0) rfl (Ht (c:=0) (e:=0) (c':=0) (e':=0) zQ zQ zQ zQ (Bn.defer_ ⟨rfl,rfl,rfl,⟨_,rfl⟩,rfl,rfl⟩ (λvs w=>call21 _ w) (⟨rfl,?_⟩))))));refine Ad underlying85 rfl _ rfl [.slice a ts.length n,B_ 0] zX (Ec (St.nil H4) [.slice a ts.length n,B_ 0] rfl λp H5 E=>?_);have a9:z<H2.size:=C.lt;have h5:O' (F_ H4) H5 H5 p ts 0 []:=⟨a,n,E.rebase,(sl.frame (A_.trans (ja.mono λk h=>zO) (E.old.mono λk h=>by unfold F_;omega))).mono λk h=>by unfold F_;omega⟩;have u:=hR.agr b.old;refine Ab.mk (XR (B:=F_ H4) ⟨u.1.eq (E.old _ u.2),u.2⟩ h5 he zO) ?_ ?_;{
 rintro v H6 ⟨ds,e,B',T,hB,U,V,W⟩;have d:=d.trans T;subst d;obtain⟨g,ga,gn,vs,w,rfl,X⟩:=W.ex;have W:PgV B' H6 (J_ g) ds e:=⟨g,ga,gn,vs,w,rfl,X⟩;have Y:=b.call (E.old.trans V);refine Ad underlying24 rfl _ rfl (Ae 0 0) rfl (M1 Y 0 rfl zZ rfl λH7 G j7 n7=>(Bd (cs:=Ae 0 0) G 1 rfl rfl (I_ _) rfl λH8 Z j8 n8=>(AfV (C_ ((Z.blk 0 rfl).cellE rfl) zA (K_ (cs:=Ae 0 0) (AY (Z.blk 1 rfl)) zA (⟨Z.old,_,rfl,?_⟩))))));have b2:=Y.blk 0 rfl;have b3:=Y.blk 1 rfl;refine(W.upT (B':=λk=>k<H6.size/\k≠I/\k≠z) (λk t l ht h hb=>⟨U k h,?_,?_⟩) (A_.trans (j7.mono λk h=>h.2.1) (j8.mono λk h=>h.2.2))).upT (λk t l _ h _=>zO) (A_.refl _ _);rintro rfl;have:=Option.some.inj (b2.symm.trans hb);rotate_left
 rintro rfl;have:=Option.some.inj (b3.symm.trans hb);all_goals injection this with _ this;rcases ht with rfl | rfl | rfl<;>cases this};rintro y H6 ⟨c,q,T,rfl,V⟩;have d:=d.trans T;subst d;(conv=>whnf);refine AfU (c:=c) (e:=q) (w:=⟨#[]⟩) (ps:=[]) (b.call (E.old.trans V)) λH7 G=>(C_ ((G.blk 0 rfl).cellE rfl) zA (K_ (cs:=Ae c q) (AY (G.blk 1 rfl)) zA ?_));exact⟨G.old,rfl⟩}
def noV:Option ReM->v_ | none=>.nilIface | some r=>Al r
def Tm.isC:Tm->Bool | .ca .. | .nil=>zW | _=>zU
def Tm.isL:Tm->Bool | .le .. | .nil=>zW | _=>zU
abbrev qJ(p:Nat)(op:CO)(n:Option ReM)(to back:ByteArray)(va vb:v_):List v_:=[B_ p,.string op.s,noV n,.string to,.string back,va,vb]
abbrev wZ(p:Nat)(op:LO)(n:Option ReM)(s:ByteArray)(vq va vb:v_):List v_:=[B_ p,.string op.s,noV n,.string s,vq,va,vb]
def Z'(B:Nat->Prop)(H:Aa):Tm->v_->Prop | .ca p op n to back a b,v=>∃g va vb,v= J_ g/\B g/\L_ H g 191 (qJ p op n to back va vb)/\a.isC=zW/\b.isC=zW/\Z' B H a va/\Z' B H b vb | .le p op n s q a b,v=>∃g vq va vb,v= J_ g/\B g/\L_ H g 105 (wZ p op n s vq va vb)/\q.isC=zW/\a.isL=zW/\b.isL=zW/\Z' B H q vq/\Z' B H a va/\Z' B H b vb | _,v=>v= .pointer zV
def uO:Tm->v_->v_ | .txt p s,_=>.iface 132 (.agg #[B_ p,.string s])| .rx p r,_=>.iface 137 (.agg #[B_ p,Al r])| .ca ..,v=>.iface 103 v | .le ..,v=>.iface 33 v | .nil,_=>.nilIface
def TmI(B:Nat->Prop)(H:Aa)(t:Tm)(x:v_):Prop:=∃v,Z' B H t v/\x=uO t v
def Z'.up{B':Nat->Prop}(a:∀k,B k->B' k)(b:A_ B H H'):∀{t:Tm} {v:v_},Z' B H t v->Z' B' H' t v | .txt _ _,_,h=>h | .rx _ _,_,h=>h | .nil,_,h=>h | .ca ..,_,⟨g,va,vb,e,hg,hb,h1,h2,h3,h4⟩=>⟨g,va,vb,e,a g hg,hb.agr b hg,h1,h2,h3.up a b,h4.up a b⟩ | .le ..,_,⟨g,vq,va,vb,e,hg,hb,h1,h2,h3,h4,h5,h6⟩=>⟨g,vq,va,vb,e,a g hg,hb.agr b hg,h1,h2,h3,h4.up a b,h5.up a b,h6.up a b⟩
def TmI.up{B':Nat->Prop}(a:∀k,B k->B' k)(b:A_ B H H'){t:Tm}{v:v_}:TmI B H t v->TmI B' H' t v | ⟨w,h,e⟩=>⟨w,h.up a b,e⟩
def hH{s:ByteArray}(hs:s.size<=1000000000):AT prog 119 #[.string s] H (.int .i64 (GH s:Int)):=by refine Am.of_vc func119 rfl (call119 _) ?_;(conv=>whnf);rw[m_ (x:=(2:Int)*s.size) zO,m_ (x:=(2:Int)*s.size-1) zO];refine mS ?_;(conv=>whnf);exact⟨by congr 1;unfold GH;omega,A_.refl _ _⟩
def ZZ(a:DJ n<=1000000000):AT prog 120 #[noV n] H (.int .i64 (DJ n:Int)):=by cases n with|none=>show AT prog 120 #[.nilIface] H (.int .i64 (0:Int));refine Am.of_vc func120 rfl (call120 _) (gX underlying35 ?_);(conv=>whnf);exact⟨rfl,A_.refl _ _⟩|some r=>show AT prog 120 #[Al r] H (.int .i64 (r.nodes:Int));rw[Dk];refine Am.of_vc func120 rfl (call120 _) (X4 underlying35 (Fb.mk (KX r) #[Fa r] (Kr r) (RF r a H) ?_));rintro _ H1 ⟨rfl,a1⟩;(conv=>whnf);exact⟨rfl,a1⟩
abbrev iD:v_:=.agg #[B_ 0,.string ⟨#[]⟩]
abbrev iB:v_:=.agg #[B_ 0,.nilIface]
abbrev tzC:v_:=.pointer zV
abbrev tzL:v_:=.pointer zV
section
variable{S:Nat->Prop}{t:x_}{v:v_}
def TT(k:K (.tuple #[iD,.bool zU]))(h:T≠132:=by decide):A8 prog (Instr.typeAssert (.iface T v) t 132 zW) S H K:=Bp underlying132 (by intro a h;cases h) zX h k
def oQ(k:K (.tuple #[v,.bool zW])):A8 prog (Instr.typeAssert (.iface 132 v) t 132 zW) S H K:=Bz underlying132 (by intro a h;cases h) k
def oU(k:K (.tuple #[iB,.bool zU]))(h:T≠137:=by decide):A8 prog (Instr.typeAssert (.iface T v) t 137 zW) S H K:=Bp underlying137 (by intro a h;cases h) zX h k
def oP(k:K (.tuple #[v,.bool zW])):A8 prog (Instr.typeAssert (.iface 137 v) t 137 zW) S H K:=Bz underlying137 (by intro a h;cases h) k
def V3(k:K (.tuple #[tzC,.bool zU]))(h:T≠103:=by decide):A8 prog (Instr.typeAssert (.iface T v) t 103 zW) S H K:=Bp underlying103 (by intro a h;cases h) zX h k
def V4(k:K (.tuple #[v,.bool zW])):A8 prog (Instr.typeAssert (.iface 103 v) t 103 zW) S H K:=Bz underlying103 (by intro a h;cases h) k
def nE(k:K (.tuple #[tzL,.bool zU]))(h:T≠33:=by decide):A8 prog (Instr.typeAssert (.iface T v) t 33 zW) S H K:=Bp underlying33 (by intro a h;cases h) zX h k
def TS(k:K (.tuple #[v,.bool zW])):A8 prog (Instr.typeAssert (.iface 33 v) t 33 zW) S H K:=Bz underlying33 (by intro a h;cases h) k
end
def CO.isN:CO->Bool | .norm=>zW | _=>zU
def LO.isI:LO->Bool | .ins=>zW | _=>zU
def P'(op:CO):(op.s.toList==(⟨#[110,111,114,109]⟩:ByteArray).toList)=op.isN:=by rw[CP];cases op<;>decide
def AiU(op:LO):(op.s.toList==(⟨#[105,110,115]⟩:ByteArray).toList)=op.isI:=by rw[CP];cases op<;>decide
def Me{p op n to back a b}:(Tm.ca p op n to back a b).sz=1+DJ n+a.sz+b.sz+(if op.isN then GH to else 0):=by cases op<;>rfl
def Mp{p op n s q a b}:(Tm.le p op n s q a b).sz=1+DJ n+q.sz+a.sz+b.sz+(if op.isI then GH s else 0):=by cases op<;>rfl
def WZ{s:ByteArray}:s.size<=GH s:=by unfold GH;omega
def Ku:∀(t:Tm),t.sz<=1000000000->∀{B:Nat->Prop} {H:Aa} {v:v_},(∀k,B k->k<H.size)->Z' B H t v->
  (t.isC=zW->AT prog 85 #[.iface 103 v] H (.int .i64 (t.sz:Int)))/\(t.isL=zW->AT prog 85 #[.iface 33 v] H (.int .i64 (t.sz:Int)))
 | .txt _ _,_,_,_,_,_,_=>⟨nofun,nofun⟩
 | .rx _ _,_,_,_,_,_,_=>⟨nofun,nofun⟩
 | .nil,_,B,H,v,hB,h=>by
   obtain rfl:=h;constructor
   all_goals
    intro _;refine Am.of_vc func85 rfl (call85 _) ?_
    repeat ((conv=>whnf);first | refine AC.run ?_ | refine TT ?_ | refine oU ?_ | refine V3 ?_ | refine V4 ?_ | refine TS ?_ | refine Pi underlying103 ?_ | refine Pi underlying33 ?_)
   all_goals exact⟨rfl,A_.refl _ _⟩
 | .ca p op n to back a b,hs,B,H,v,hB,h=>by
   refine⟨λ_=>?_,nofun⟩;obtain⟨g,va,vb,rfl,l,m,u,w,f,j⟩:=h;rw[Me]at hs ⊢;refine Am.of_vc func85 rfl (call85 _) ?_
   repeat ((conv=>whnf);first | refine AC.run ?_ | refine TT ?_ | refine oU ?_ | refine V4 ?_ | refine Oo underlying103 ?_)
   refine Ap.quiet (F_ H) rfl zX ?_;have sa:=fun{H'} (c:A_ (F_ H) H H')=>(Ku a zO (B:=B) (H:=H') (λk d=>Ak c (hB k d)) (f.up (λ_ h=>h) (c.mono hB))).1 u;have y:=fun{H'} (c:A_ (F_ H) H H')=>(Ku b zO (B:=B) (H:=H') (λk d=>Ak c (hB k d)) (j.up (λ_ h=>h) (c.mono hB))).1 w
   repeat ((conv=>whnf);first | refine E_ ?_ | refine C_ (m.cellE rfl) (hB g l) ?_ | refine Ei (λH' c=>ZZ zO) ?_ | refine Ei (λH' c=>sa c) ?_ | refine Ei (λH' c=>y c) ?_ | rw[m_ (x:=1+(DJ n:Int)) zO] | rw[m_ (x:=1+(DJ n:Int)+a.sz) zO] | rw[m_ (x:=1+(DJ n:Int)+a.sz+b.sz) zO])
   intro H1 a1;have e:=m.agr a1 (hB g l)
   repeat ((conv=>whnf);first | refine AC.run ?_ | refine E_ ?_ | refine C_ (e.cellE rfl) zA ?_ | rw[P'])
   cases r:op.isN with
   | false=>
     rw[r]at hs;(conv=>whnf);exact⟨zZ,a1⟩
   | true=>
     rw[r,H_ rfl]at hs;have:=WZ (s:=to)
     repeat ((conv=>whnf);first | refine E_ ?_ | refine C_ (e.cellE rfl) zA ?_)
     refine Af (hH zO) λH2 a2=>?_;(conv=>whnf);rw[m_ (x:=1+(DJ n:Int)+a.sz+b.sz+GH to) zO];(conv=>whnf);exact⟨zZ,a1.trans (a2.mono λk d=>Ak a1 d)⟩
 | .le p op n s q a b,hs,B,H,v,hB,h=>by
   refine⟨nofun,λ_=>?_⟩;obtain⟨g,vq,va,vb,rfl,l,m,A,u,w,z,f,j⟩:=h;rw[Mp]at hs ⊢;refine Am.of_vc func85 rfl (call85 _) ?_
   repeat ((conv=>whnf);first | refine AC.run ?_ | refine TT ?_ | refine oU ?_ | refine V3 ?_ | refine TS ?_ | refine Oo underlying33 ?_)
   refine Ap.quiet (F_ H) rfl zX ?_;have sq:=fun{H'} (c:A_ (F_ H) H H')=>(Ku q zO (B:=B) (H:=H') (λk d=>Ak c (hB k d)) (z.up (λ_ h=>h) (c.mono hB))).1 A;have sa:=fun{H'} (c:A_ (F_ H) H H')=>(Ku a zO (B:=B) (H:=H') (λk d=>Ak c (hB k d)) (f.up (λ_ h=>h) (c.mono hB))).2 u;have y:=fun{H'} (c:A_ (F_ H) H H')=>(Ku b zO (B:=B) (H:=H') (λk d=>Ak c (hB k d)) (j.up (λ_ h=>h) (c.mono hB))).2 w
   repeat ((conv=>whnf);first | refine E_ ?_ | refine C_ (m.cellE rfl) (hB g l) ?_ | refine Ei (λH' c=>ZZ zO) ?_ | refine Ei (λH' c=>sq c) ?_ | refine Ei (λH' c=>sa c) ?_ | refine Ei (λH' c=>y c) ?_ | rw[m_ (x:=1+(DJ n:Int)) zO] | rw[m_ (x:=1+(DJ n:Int)+q.sz) zO] | rw[m_ (x:=1+(DJ n:Int)+q.sz+a.sz) zO] | rw[m_ (x:=1+(DJ n:Int)+q.sz+a.sz+b.sz) zO])
   intro H1 a1;have e:=m.agr a1 (hB g l)
   repeat ((conv=>whnf);first | refine AC.run ?_ | refine E_ ?_ | refine C_ (e.cellE rfl) zA ?_ | rw[AiU])
   cases r:op.isI with
   | false=>
     rw[r]at hs;(conv=>whnf);exact⟨zZ,a1⟩
   | true=>
     rw[r,H_ rfl]at hs;have:=WZ (s:=s)
     repeat ((conv=>whnf);first | refine E_ ?_ | refine C_ (e.cellE rfl) zA ?_)
     refine Af (hH zO) λH2 a2=>?_;(conv=>whnf);rw[m_ (x:=1+(DJ n:Int)+q.sz+a.sz+b.sz+GH s) zO];(conv=>whnf);exact⟨zZ,a1.trans (a2.mono λk d=>Ak a1 d)⟩
def Tm.short:Tm->Prop | .txt _ s=>s.size<=1048576 | .nil=>False | _=>True
def K1{t:Tm}{v:v_}(m:t.short):AT prog 80 #[uO t v] H (.tuple #[noV t.node,.bool t.node.isSome]):=by refine Am.of_vc func80 rfl (call80 _) ?_;cases t;(case nil=>exact m.elim);(case' ca p op n to u a b=>skip);(case' le p op n s q a b=>skip);(case txt p s=>(repeat ((conv=>whnf);first | refine AC.run ?_ | refine oQ ?_));refine Aq iD [B_ 0,.string ⟨#[]⟩] zX rfl ?_;intro q H1 y h j k;have l:=(St.nil H).box y h j k;refine AB (cs:=[B_ p,.string s]) l 0 rfl rfl (I_ _) rfl λH2 c=>(E_ ?_);refine C_ ((c.blk 0 rfl).cellE rfl) zA (Af (V5 s m H2) λH3 a3=>?_);(conv=>whnf);exact⟨rfl,(c.call a3).old⟩);(case rx p r=>obtain⟨z,A,w⟩:∃t x,Al r= .iface t x:=⟨_,_,Dk r⟩;show Oi (#[Value.iface 137 (.agg #[B_ p,Al r])].toList++_) _;rw[w];(repeat ((conv=>whnf);first | refine AC.run ?_ | refine TT ?_ | refine oP ?_));refine Aq iB [B_ 0,.nilIface] zX rfl ?_;intro q H1 d e f g;have l:=(St.nil H).box d e f g;refine AB (cs:=[B_ p,.iface z A]) l 0 rfl rfl (I_ _) rfl λH2 c=>(E_ ?_);refine lT ((c.blk 0 rfl).cellE rfl) ?_;(conv=>whnf);exact⟨by show _=Value.tuple #[Al r,.bool zW];rw[w],c.old⟩);all_goals (repeat ((conv=>whnf);first | refine AC.run ?_ | refine TT ?_ | refine oU ?_));exact⟨rfl,A_.refl _ _⟩
def s_(B:Nat->Prop)(H H':Aa)(k:Nat):Prop:=B k\/(H.size<=k/\k<H'.size)
def rR(B:Nat->Prop)(H:Aa)(x:FT ⊕ Tm)(v:v_)(H':Aa):Prop:=∃t,x= .inr t/\A_ (F_ H) H H'/\TmI (s_ B H H') H' t v
def MkE(H:Aa){α:Type}(x:FT ⊕ α)(y:v_)(H':Aa):Prop:=∃c q,x= .inl (c,q)/\y=Bx c q/\A_ (F_ H) H H'
def GG{q:Nat}:Aw prog 24 #[B_ c,B_ q] H (λ_ _=>False) (λy H'=>y=Bx c q/\H'=H):=by refine Aw.of_vc func24 rfl (call24 _) (Ad underlying24 rfl _ rfl (Ae c q) rfl ?_);(conv=>whnf);exact⟨rfl,rfl⟩
def Z'.ptr:∀{t:Tm} {v:v_},Z' B H t v->∃a,v= .pointer a | .txt _ _,_,h=>⟨_,h⟩ | .rx _ _,_,h=>⟨_,h⟩ | .nil,_,h=>⟨_,h⟩ | .ca ..,_,⟨g,_,_,e,_⟩=>⟨_,e⟩ | .le ..,_,⟨g,_,_,_,e,_⟩=>⟨_,e⟩
def Z'.fr{t:Tm}{v:v_}(a:∀k,B k->k<H.size)(h:Z' B H t v)(b:A_ (F_ H) H H'):Z' (s_ B H H') H' t v:=h.up (λ_ h=>.inl h) (b.mono a)
def s_.old(a:∀k,B k->k<H.size)(b:A_ (F_ H) H H'){k:Nat}(h:s_ B H H' k):k<H'.size:=h.elim (λh=>Ak b (a k h)) And.right
def Z'.fr2{t:Tm}{v:v_}(b:∀k,B k->k<H.size)(c:A_ (F_ H) H H')(a:A_ (F_ H') H' H0)(h:Z' (s_ B H H') H' t v):Z' (s_ B H H0) H0 t v:=h.up (λk h=>h.elim .inl λh=>.inr ⟨h.1,Ak a h.2⟩) (a.mono λk h=>s_.old b c h)
def Ag7{t:Tm}{v:v_}{s:ByteArray}(L:∀k,B k->k<H.size)(ht:t.short)(h:Z' B H t v)(ad:v0.oneCell'=zW):Aw prog 48 #[.agg #[B_ p,.string s,v0],uO t v] H (rR B H (wJ p s t)) (MkE H (wJ p s t)):=by
 refine Aw.of_vc func48 rfl (call48 _) (BF [B_ p,.string s,v0] rfl ?_);intro q H1 M N O P;have s1:=(St.nil H).box M N O P;refine Ab.of (Af (K1 ht) λH2 a2=>?_);have Q:=s1.call a2;have A:=Q.blk 0 rfl;have l:=Q.old;have d:∀{b},zT (s=X_ 42)=b->(s.toList==(⟨#[42]⟩:ByteArray).toList)=b:=λh=>CP.trans h;have j:∀{b},zT (s=X_ 43)=b->(s.toList==(⟨#[43]⟩:ByteArray).toList)=b:=λh=>CP.trans h;cases R:t.node with|some n=>{obtain⟨D,E,V⟩:∃t x,Al n= .iface t x:=⟨_,_,Dk n⟩;show _;have a0:noV (zY n)= .iface D E:=V;rw[a0];have fin:∀{r:ReM} {v:v_},wJ p s t= .inr (.rx p r)->v=Al r->rR B H (wJ p s t) (.iface 137 (.agg #[B_ p,v])) H2:=λh e=>⟨_,h,l,_,rfl,by rw[e];rfl⟩;by_cases f:s=X_ 42;{have d:=d (a_ f);(repeat ((conv=>whnf);first | refine Ah.run ?_ | refine E_ ?_ | refine C_ (A.cellE rfl) zA ?_ | rw[d] | rw[j]));refine Ad underlying75 rfl _ rfl [.iface D E] zX (Ad underlying137 rfl _ rfl [B_ p,.iface 75 (.agg #[.iface D E])] zX ?_);(conv=>whnf);exact fin (r:=.star n) (by simp only[wJ,R,H_ f]) (by rw[<-V];rfl)};have d:=d (b_ f);by_cases m:s=X_ 43;{have j:=j (a_ m);(repeat ((conv=>whnf);first | refine Ah.run ?_ | refine E_ ?_ | refine C_ (A.cellE rfl) zA ?_ | rw[d] | rw[j]));refine Ad underlying75 rfl _ rfl [.iface D E] zX (Ad underlying73 rfl _ rfl [.iface D E,.iface 75 (.agg #[.iface D E])] zX (Ad underlying137 rfl _ rfl [B_ p,.iface 73 (.agg #[.iface D E,.iface 75 (.agg #[.iface D E])])] zX ?_));(conv=>whnf);exact fin (r:=.cat n (.star n)) (by simp only[wJ,R,G_ f,H_ m]) (by rw[<-V];rfl)};have j:=j (b_ m);(repeat ((conv=>whnf);first | refine Ah.run ?_ | refine E_ ?_ | refine C_ (A.cellE rfl) zA ?_ | rw[d] | rw[j]));refine Ad underlying62 rfl _ rfl [] zX (Ad underlying70 rfl _ rfl [.iface D E,.iface 62 (.agg #[])] zX (Ad underlying137 rfl _ rfl [B_ p,.iface 70 (.agg #[.iface D E,.iface 62 (.agg #[])])] zX ?_));(conv=>whnf);exact fin (r:=.alt n .eps) (by simp only[wJ,R,G_ f,G_ m]) (by rw[<-V];rfl)}|none=>{
 have C:=h.fr L l;obtain⟨a,rfl⟩:=h.ptr;have z2:=Ay l;cases t with|txt=>cases R|rx=>cases R|nil=>exact ht.elim|ca cp a8 cn a9 J ab cb=>{by_cases f:s=X_ 42;{have d:=d (a_ f);(repeat ((conv=>whnf);first | refine Ah.run ?_ | refine V4 ?_ | refine E_ ?_ | refine C_ (A.cellE rfl) zA ?_ | rw[d] | rw[j]));refine Ad underlying191 rfl _ rfl (qJ p .star zV nx nx (.pointer a) (.pointer zV)) zX (BF (qJ p .star zV nx nx (.pointer a) (.pointer zV)) rfl ?_);intro g H3 w S u z;(conv=>whnf);exact⟨.ca p .star zV nx nx (.ca cp a8 cn a9 J ab cb) .nil,by simp only[wJ,Tm.node,H_ f],(Q.skip w z).old,_,⟨g,_,_,rfl,.inr ⟨zO,u.lt⟩,u,rfl,rfl,C.fr2 L l (z.new w),rfl⟩,rfl⟩};have d:=d (b_ f);(repeat ((conv=>whnf);first | refine Ah.run ?_ | refine V4 ?_ | refine E_ ?_ | refine C_ (A.cellE rfl) zA ?_ | rw[d] | rw[j]));refine Ab.mk (GG (c:=72) (q:=p)) (λ_ _ h=>h.elim) ?_;rintro y _ ⟨rfl,rfl⟩;exact⟨72,p,by simp only[wJ,Tm.node,G_ f],rfl,l⟩}|le W lop ln X Y la Z=>{
 by_cases f:s=X_ 42;{have d:=d (a_ f);(repeat ((conv=>whnf);first | refine Ah.run ?_ | refine V3 ?_ | refine TS ?_ | refine E_ ?_ | refine C_ (A.cellE rfl) zA ?_ | rw[d] | rw[j]));refine Ad underlying105 rfl _ rfl (wZ p .star zV nx (.pointer zV) (.pointer a) (.pointer zV)) zX (BF (wZ p .star zV nx (.pointer zV) (.pointer a) (.pointer zV)) rfl ?_);intro G H3 w S u z;(conv=>whnf);exact⟨.le p .star zV nx .nil (.le W lop ln X Y la Z) .nil,by simp only[wJ,Tm.node,H_ f],(Q.skip w z).old,_,⟨G,_,_,_,rfl,.inr ⟨zO,u.lt⟩,u,rfl,rfl,rfl,rfl,C.fr2 L l (z.new w),rfl⟩,rfl⟩};have d:=d (b_ f);by_cases m:s=X_ 43;have I:=j (a_ m);rotate_left
 have I:=j (b_ m);(all_goals have j:=I;repeat ((conv=>whnf);first | refine Ah.run ?_ | refine V3 ?_ | refine TS ?_ | refine E_ ?_ | refine C_ (A.cellE rfl) zA ?_ | rw[d] | rw[j]));refine Ad underlying62 rfl _ rfl [] zX (Ad underlying105 rfl _ rfl (wZ p .copy (zY .eps) nx (.pointer zV) (.pointer zV) (.pointer zV)) zX (BF (wZ p .copy (zY .eps) nx (.pointer zV) (.pointer zV) (.pointer zV)) rfl ?_));rotate_left
 refine Ad underlying105 rfl _ rfl (wZ p .star zV nx (.pointer zV) (.pointer a) (.pointer zV)) zX (BF (wZ p .star zV nx (.pointer zV) (.pointer a) (.pointer zV)) rfl ?_);(all_goals intro G H3 w S u z;have s3:=Q.skip w z;have a3:=z.new w);refine Ad underlying105 rfl _ rfl (wZ p .cat zV nx (.pointer zV) (.pointer a) (J_ G)) zX (BF (wZ p .cat zV nx (.pointer zV) (.pointer a) (J_ G)) rfl ?_);rotate_left
 refine Ad underlying105 rfl _ rfl (wZ p .alt zV nx (.pointer zV) (.pointer a) (J_ G)) zX (BF (wZ p .alt zV nx (.pointer zV) (.pointer a) (J_ G)) rfl ?_);(all_goals intro g4 H4 T ae F U;have s4:=s3.skip T U;have a4:=U.new T;(conv=>whnf);have K:=a3.trans (a4.mono λk hk=>Ak a3 hk);have z3:=u.lt);{exact⟨.le p .alt zV nx .nil (.le W lop ln X Y la Z) (.le p .copy (zY .eps) nx .nil .nil .nil),by simp only[wJ,Tm.node,G_ f,G_ m],s4.old,_,⟨g4,_,_,_,rfl,.inr ⟨zO,F.lt⟩,F,rfl,rfl,rfl,rfl,C.fr2 L l K,⟨G,_,_,_,rfl,.inr ⟨zO,Ak a4 z3⟩,u.agr a4 z3,rfl,rfl,rfl,rfl,rfl,rfl⟩⟩,rfl⟩};exact⟨.le p .cat zV nx .nil (.le W lop ln X Y la Z) (.le p .star zV nx .nil (.le W lop ln X Y la Z) .nil),by simp only[wJ,Tm.node,G_ f,H_ m],s4.old,_,⟨g4,_,_,_,rfl,.inr ⟨zO,F.lt⟩,F,rfl,rfl,rfl,rfl,C.fr2 L l K,⟨G,_,_,_,rfl,.inr ⟨zO,Ak a4 z3⟩,u.agr a4 z3,rfl,rfl,rfl,rfl,C.fr2 L l K,rfl⟩⟩,rfl⟩}}
def SN:Xh prog 192 9 3 .string (.int .i64 0):=⟨rfl,rfl,rfl⟩
def sB(s:ByteArray):Int:=if s=X_ 124 then 1 else if s=X_ 46 then 2 else if s=X_ 126 then 3 else if s=Ez then 4 else 0
def Aj6(s:ByteArray):(put (put (put (put (λ_=>zV) (X_ 124) (zY (.int .i64 1))) (X_ 46) (zY (.int .i64 2))) (X_ 126) (zY (.int .i64 3))) Ez (zY (.int .i64 4)) s).getD (.int .i64 0)= .int .i64 (sB s):=by unfold put sB;have a:X_ 124≠X_ 46:=zQ;have b:X_ 124≠X_ 126:=zQ;have c:X_ 124≠Ez:=zQ;have d:X_ 46≠X_ 126:=zQ;have e:X_ 46≠Ez:=zQ;have f:X_ 126≠Ez:=zQ;by_cases g:s=X_ 124;{subst g;simp[a,b,c]};by_cases e2:s=X_ 46;{subst e2;simp[a.symm,d,e]};by_cases h:s=X_ 126;{subst h;simp[b.symm,d.symm,f]};by_cases j:s=Ez;{subst j;simp[c.symm,e.symm,f.symm]};simp[g,e2,h,j]
def oE:List v_:=[.string nx,.string mV,.string mX,.string LO.swap.s,.string LO.chain.s]
def oF:(prog.info? 193).bind (·.zero)=zY (.agg (Aq4 5 (.string nx)).toArray):=zX
def Ld(p:Nat)(s:ByteArray)(a b:Tm):FT ⊕ Tm:=match a,b with
 | .le ..,.le .. =>(match SH s with
   | some o=>.inr (.le p o zV nx .nil a b)
   | none=>.inl (72,p))
 | .ca ..,.ca .. =>(match Su s with
   | some o=>.inr (.ca p o zV nx nx a b)
   | none=>.inl (72,p))
 | _,_=>.inl (72,p)
theorem AiV(s:ByteArray):(∃o,∃k:Nat,SH s=zY o/\sB s=(k:Int)/\0<k/\k<5/\oE[k]?=zY (.string o.s))\/(SH s=zV/\sB s=0):=by
 unfold SH sB
 repeat' split
 ·exact .inl ⟨.alt,1,rfl,rfl,by decide,by decide,rfl⟩
 ·exact .inl ⟨.cat,2,rfl,rfl,by decide,by decide,rfl⟩
 ·exact .inl ⟨.swap,3,rfl,rfl,by decide,by decide,rfl⟩
 ·exact .inl ⟨.chain,4,rfl,rfl,by decide,by decide,rfl⟩
 ·exact .inr ⟨rfl,rfl⟩
theorem Ai7(s:ByteArray):(∃o,∃k:Nat,Su s=zY o/\sB s=(k:Int)/\(k=1\/k=2)/\oE[k]?=zY (.string o.s))\/(Su s=zV/\(sB s==1)=zU/\(sB s==2)=zU):=by
 unfold Su sB
 repeat' split
 ·exact .inl ⟨.alt,1,rfl,rfl,.inl rfl,rfl⟩
 ·exact .inl ⟨.cat,2,rfl,rfl,.inr rfl,rfl⟩
 ·exact .inr ⟨rfl,rfl,rfl⟩
 ·exact .inr ⟨rfl,rfl,rfl⟩
 ·exact .inr ⟨rfl,rfl,rfl⟩
variable{a:Tm}
def YJ{b:Tm}{va vb v1:v_}{s:ByteArray}(hB:∀k,B k->k<H.size)(R:a.short)(S:b.short)(ha:Z' B H a va)(hb:Z' B H b vb):Aw prog 49 #[.agg #[B_ p,.string s,v0,v1],uO a va,uO b vb] H (rR B H (vI p s a b)) (MkE H (vI p s a b)):=by
 refine Aw.of_vc func49 rfl (call49 _) (Ec (St.nil H) [B_ p,.string s,v0,v1] rfl λq H1 s1=>(Ab.of (Af (K1 R) λH2 a2=>?_)));have s2:=s1.call a2;refine Ab.of (Af (K1 S) λH3 a3=>?_);have Q:=s2.call a3;have D:=Q.blk 0 rfl;have T:(s.toList==(⟨#[124]⟩:ByteArray).toList)=zT (s=X_ 124):=CP;have e2:(s.toList==(⟨#[46]⟩:ByteArray).toList)=zT (s=X_ 46):=CP;have U:(s.toList==(⟨#[38]⟩:ByteArray).toList)=zT (s=X_ 38):=CP;have V:(s.toList==(⟨#[45]⟩:ByteArray).toList)=zT (s=X_ 45):=CP;rcases m:a.node with _ | x<;>rcases n:b.node with _ | y;rotate_left 3
 obtain⟨I,J,W⟩:∃t z,Al x= .iface t z:=⟨_,_,Dk x⟩;obtain⟨K,L,X⟩:∃t z,Al y= .iface t z:=⟨_,_,Dk y⟩;rw[show noV (zY x)= .iface I J from W,show noV (zY y)= .iface K L from X];cases C:zT (s=X_ 124);rotate_left
 {have hs:=of_decide_eq_true C;(repeat ((conv=>whnf);first | refine Ah.run ?_ | refine E_ ?_ | refine C_ (D.cellE rfl) zA ?_ | rw[T] | rw[e2] | rw[U] | rw[V] | rw[C]));refine Ad underlying70 rfl _ rfl [.iface I J,.iface K L] zX (Ad underlying137 rfl _ rfl [B_ p,.iface 70 (.agg #[.iface I J,.iface K L])] zX ?_);(conv=>whnf);refine⟨.rx p (.alt x y),?_,Q.old,_,rfl,by show _=Value.iface 137 (.agg #[B_ p,Al (.alt x y)]);rw[<-W,<-X];rfl⟩;unfold vI Tv;rw[m,n];simp[hs]};rotate_right;have g1:=of_decide_eq_false C;cases F:zT (s=X_ 46);rotate_left
 {have hs:=of_decide_eq_true F;(repeat ((conv=>whnf);first | refine Ah.run ?_ | refine E_ ?_ | refine C_ (D.cellE rfl) zA ?_ | rw[T] | rw[e2] | rw[U] | rw[V] | rw[C] | rw[F]));refine Ad underlying73 rfl _ rfl [.iface I J,.iface K L] zX (Ad underlying137 rfl _ rfl [B_ p,.iface 73 (.agg #[.iface I J,.iface K L])] zX ?_);(conv=>whnf);refine⟨.rx p (.cat x y),?_,Q.old,_,rfl,by show _=Value.iface 137 (.agg #[B_ p,Al (.cat x y)]);rw[<-W,<-X];rfl⟩;unfold vI Tv;rw[m,n];simp[g1,hs]};rotate_right;have g2:=of_decide_eq_false F;cases Y:zT (s=X_ 38);rotate_left
 {have hs:=of_decide_eq_true Y;(repeat ((conv=>whnf);first | refine Ah.run ?_ | refine E_ ?_ | refine C_ (D.cellE rfl) zA ?_ | rw[T] | rw[e2] | rw[U] | rw[V] | rw[C] | rw[F] | rw[Y]));refine Ad underlying71 rfl _ rfl [.iface I J,.iface K L] zX (Ad underlying137 rfl _ rfl [B_ p,.iface 71 (.agg #[.iface I J,.iface K L])] zX ?_);(conv=>whnf);refine⟨.rx p (.and_ x y),?_,Q.old,_,rfl,by show _=Value.iface 137 (.agg #[B_ p,Al (.and_ x y)]);rw[<-W,<-X];rfl⟩;unfold vI Tv;rw[m,n];simp[g1,g2,hs]};rotate_right;have g3:=of_decide_eq_false Y;cases d4:zT (s=X_ 45);rotate_left
 {have hs:=of_decide_eq_true d4;(repeat ((conv=>whnf);first | refine Ah.run ?_ | refine E_ ?_ | refine C_ (D.cellE rfl) zA ?_ | rw[T] | rw[e2] | rw[U] | rw[V] | rw[C] | rw[F] | rw[Y] | rw[d4]));refine Ad underlying72 rfl _ rfl [.iface I J,.iface K L] zX (Ad underlying137 rfl _ rfl [B_ p,.iface 72 (.agg #[.iface I J,.iface K L])] zX ?_);(conv=>whnf);refine⟨.rx p (.minus x y),?_,Q.old,_,rfl,by show _=Value.iface 137 (.agg #[B_ p,Al (.minus x y)]);rw[<-W,<-X];rfl⟩;unfold vI Tv;rw[m,n];simp[g1,g2,g3,hs]};rotate_right;have g4:=of_decide_eq_false d4;(all_goals
 have hF:vI p s a b=Ld p s a b:=by{
 unfold vI;rw[m,n]
 first
  | rfl
  | (have:Tv s x y=zV:=by unfold Tv;rw[G_ g1,G_ g2,G_ g3,G_ g4]
     simp only[this];cases a<;>first | (cases m;done) | (cases b<;>first | (cases n;done) | rfl))};rw[hF];repeat ((conv=>whnf);first | refine Ah.run ?_ | refine E_ ?_ | refine C_ (D.cellE rfl) zA ?_ | rw[T] | rw[e2] | rw[U] | rw[V] | rw[C] | rw[F] | rw[Y] | rw[d4])
 refine SU (enc:=Value.string) ?_;intro mb H4 Z a0 a8 a9;have s4:=(Q.mapNew Z a0 a8 a9).rot;refine SW (a:=X_ 124) (m':=put _ (X_ 124) _) s4 0 SN tX rfl (λa'=>rfl) λH5 s5=>(SW (a:=X_ 46) (m':=put _ (X_ 46) _) s5 0 SN tX rfl (λa'=>rfl) λH6 s6=>(SW (a:=X_ 126) (m':=put _ (X_ 126) _) s6 0 SN tX rfl (λa'=>rfl) λH7 s7=>(SW (a:=Ez) (m':=put _ Ez _) s7 0 SN tX rfl (λa'=>rfl) λH8 s8=>?_)));have ab:=s8.blk 1 rfl;repeat ((conv=>whnf);first | refine E_ ?_ | refine C_ (ab.cellE rfl) zA ?_)
 refine AlG (a:=s) SN tX (s8.map 0 rfl) zA ?_;rw[Aj6];refine Em VM _ oF oE zX (Aq _ (Aq4 5 (.string nx)) oF rfl ?_);intro g H9 ad ae ah ai;have s9:=(s8.box ad ae ah ai).rot;refine AB (cs:=oE) s9 0 rfl rfl (I_ _) rfl λH10 u=>?_;have A:L_ H10 g 193 oE:=u.blk 0 rfl;have d:=u.blk 2 rfl;clear s4 s5 s6 s7 s8 s9 ab Z a0 a8 a9 ad ae ah ai;have M:∀{y:v_} {G:Aa},Ld p s a b= .inl (72,p)->y=Bx 72 p/\G=H10->MkE H (Ld p s a b) y G:=λh h2=>⟨72,p,h,h2.1,by rw[h2.2];exact u.old⟩;cases a<;>first | exact R.elim | skip
 all_goals (cases b<;>first | exact S.elim | skip)
 all_goals first | (cases m;done) | (cases n;done) | skip
 (all_goals
 repeat ((conv=>whnf);first | refine Ah.run ?_ | refine nE ?_ | refine TS ?_ | refine V3 ?_ | refine V4 ?_ | refine E_ ?_ | refine C_ (d.cellE rfl) zA ?_)
 first
  | (refine Ab.mk (GG (c:=72) (q:=p)) (λ_ _ h=>h.elim) λy G h=>M rfl h)
  | skip));{
 obtain⟨pa,rfl⟩:=ha.ptr;obtain⟨pb,rfl⟩:=hb.ptr;rcases Ai7 s with⟨o,k,N,O,am,P⟩ | ⟨N,h1,h2⟩;rotate_left
 {(repeat ((conv=>whnf);first | rw[h1] | rw[h2] | refine Ah.run ?_ | refine E_ ?_ | refine C_ (d.cellE rfl) zA ?_));refine Ab.mk (GG (c:=72) (q:=p)) (λ_ _ h=>h.elim) λy G h=>M ?_ h;unfold Ld;rw[N]};have ak:k<5:=zO;rw[O];cases C:((k:Int)==1)<;>cases F:((k:Int)==2);all_goals first | (simp at C F;omega) | skip
 (all_goals (repeat ((conv=>whnf);first | rw[C] | rw[F]));refine A7.of (Ap.heldZ (λk=>k=q\/k=g) [10] (sq [0,1,2,3,4,5,6,7] (.f 8 (sq [9] (.f 10 .e)))) rfl zX ?_);(repeat ((conv=>whnf);first | refine E_ ?_ | refine C_ (d.cellE rfl) (.inl rfl) ?_ | refine yX VM zO zO ?_ | refine C_ (v:=.string o.s) (by rw[A.cell,(zO:0+(k:Int).toNat*1=k)];exact P) (.inr rfl) ?_));refine Ad underlying191 rfl _ rfl (qJ p o zV nx nx (.pointer pa) (.pointer pb)) zX (BF (qJ p o zV nx nx (.pointer pa) (.pointer pb)) rfl ?_);intro r H11 E aj j l;have w:=u.skip E l;refine⟨λk O=>l k (by have:=d.lt;have:=A.lt;rcases O with rfl | rfl<;>omega),?_⟩;(conv=>whnf);refine⟨.ca p o zV nx nx _ _,?_,w.old,_,⟨r,_,_,rfl,.inr ⟨by have:=Ay u.old;have:=j.lt;omega,j.lt⟩,j,rfl,rfl,ha.fr hB w.old,hb.fr hB w.old⟩,rfl⟩;unfold Ld;rw[N])};obtain⟨pa,rfl⟩:=ha.ptr;obtain⟨pb,rfl⟩:=hb.ptr;rcases AiV s with⟨o,k,N,O,ap,ao,P⟩ | ⟨N,h1⟩;rotate_left
 {(repeat ((conv=>whnf);first | rw[h1] | rw[show zT ((0:Int)<0)=zU from rfl] | refine Ah.run ?_ | refine V3 ?_ | refine E_ ?_ | refine C_ (d.cellE rfl) zA ?_));refine Ab.mk (GG (c:=72) (q:=p)) (λ_ _ h=>h.elim) λy G h=>M ?_ h;unfold Ld;rw[N]};have ak:k<5:=zO;rw[O];have C:zT ((0:Int)<(k:Int))=zW:=Y';repeat ((conv=>whnf);first | rw[C] | rw[F])
 refine A7.of (Ap.heldZ (λk=>k=q\/k=g) [10] (sq [0,1,2,3,4,5,6,7] (.f 8 (sq [9] (.f 10 .e)))) rfl zX ?_);repeat ((conv=>whnf);first | refine E_ ?_ | refine C_ (d.cellE rfl) (.inl rfl) ?_ | refine yX VM zO zO ?_ | refine C_ (v:=.string o.s) (by rw[A.cell,(zO:0+(k:Int).toNat*1=k)];exact P) (.inr rfl) ?_)
 refine Ad underlying105 rfl _ rfl (wZ p o zV nx (.pointer zV) (.pointer pa) (.pointer pb)) zX (BF (wZ p o zV nx (.pointer zV) (.pointer pa) (.pointer pb)) rfl ?_);intro r H11 E aj j l;have w:=u.skip E l;refine⟨λk O=>l k (by have:=d.lt;have:=A.lt;rcases O with rfl | rfl<;>omega),?_⟩;(conv=>whnf);refine⟨.le p o zV nx .nil _ _,?_,w.old,_,⟨r,_,_,_,rfl,.inr ⟨by have:=Ay u.old;have:=j.lt;omega,j.lt⟩,j,rfl,rfl,rfl,rfl,ha.fr hB w.old,hb.fr hB w.old⟩,rfl⟩;unfold Ld;rw[N]
def AlL(x:v_)(w:y_):(callMethod (.iface 129 x) "Place" #[]).run prog w= .ok (.enter 276 #[x]) w:=zX
def Am2{s:ByteArray}{v w:v_}:AT prog 276 #[.agg #[B_ p,.string s]] H (.int .i64 (p:Int)):=by refine Am.of_vc func276 rfl (call276 _) (BF [B_ p,.string s] rfl ?_);intro q H1 d b a c;have e:=(St.nil H).box d b a c;refine E_ ?_;refine lT (a.cellE rfl) ?_;(conv=>whnf);exact⟨rfl,e.old⟩
def AlN(x:v_)(w:y_):(callMethod (.iface 131 x) "Place" #[]).run prog w= .ok (.enter 277 #[x]) w:=zX
def Am4{s:ByteArray}{v w:v_}:AT prog 277 #[.agg #[B_ p,.string s]] H (.int .i64 (p:Int)):=by refine Am.of_vc func277 rfl (call277 _) (BF [B_ p,.string s] rfl ?_);intro q H1 d b a c;have e:=(St.nil H).box d b a c;refine E_ ?_;refine lT (a.cellE rfl) ?_;(conv=>whnf);exact⟨rfl,e.old⟩
def AlM(x:v_)(w:y_):(callMethod (.iface 133 x) "Place" #[]).run prog w= .ok (.enter 280 #[x]) w:=zX
def Am3{s:ByteArray}{v w:v_}:AT prog 280 #[.agg #[B_ p,.string s]] H (.int .i64 (p:Int)):=by refine Am.of_vc func280 rfl (call280 _) (BF [B_ p,.string s] rfl ?_);intro q H1 d b a c;have e:=(St.nil H).box d b a c;refine E_ ?_;refine lT (a.cellE rfl) ?_;(conv=>whnf);exact⟨rfl,e.old⟩
def AlK(x:v_)(w:y_):(callMethod (.iface 139 x) "Place" #[]).run prog w= .ok (.enter 283 #[x]) w:=zX
def Am1{s:ByteArray}{v w:v_}:AT prog 283 #[.agg #[B_ p,v]] H (.int .i64 (p:Int)):=by refine Am.of_vc func283 rfl (call283 _) (BF [B_ p,v] rfl ?_);intro q H1 d b a c;have e:=(St.nil H).box d b a c;refine E_ ?_;refine lT (a.cellE rfl) ?_;(conv=>whnf);exact⟨rfl,e.old⟩
def AlO(x:v_)(w:y_):(callMethod (.iface 141 x) "Place" #[]).run prog w= .ok (.enter 284 #[x]) w:=zX
def Am5{s:ByteArray}{v w:v_}:AT prog 284 #[.agg #[B_ p,.string s,v]] H (.int .i64 (p:Int)):=by refine Am.of_vc func284 rfl (call284 _) (BF [B_ p,.string s,v] rfl ?_);intro q H1 d b a c;have e:=(St.nil H).box d b a c;refine E_ ?_;refine lT (a.cellE rfl) ?_;(conv=>whnf);exact⟨rfl,e.old⟩
def AlI(x:v_)(w:y_):(callMethod (.iface 144 x) "Place" #[]).run prog w= .ok (.enter 285 #[x]) w:=zX
def AlZ{s:ByteArray}{v w:v_}:AT prog 285 #[.agg #[B_ p,.string s,v,w]] H (.int .i64 (p:Int)):=by refine Am.of_vc func285 rfl (call285 _) (BF [B_ p,.string s,v,w] rfl ?_);intro q H1 d b a c;have e:=(St.nil H).box d b a c;refine E_ ?_;refine lT (a.cellE rfl) ?_;(conv=>whnf);exact⟨rfl,e.old⟩
def AlJ(x:v_)(w:y_):(callMethod (.iface 148 x) "Place" #[]).run prog w= .ok (.enter 286 #[x]) w:=zX
def Am0{s:ByteArray}{v w:v_}:AT prog 286 #[.agg #[B_ p,.string s,v]] H (.int .i64 (p:Int)):=by refine Am.of_vc func286 rfl (call286 _) (BF [B_ p,.string s,v] rfl ?_);intro q H1 d b a c;have e:=(St.nil H).box d b a c;refine E_ ?_;refine lT (a.cellE rfl) ?_;(conv=>whnf);exact⟨rfl,e.old⟩
def R2{B:Nat->Prop}{H:Aa}{T:x_}{x:v_}{K:v_->Aa->Prop}:∀{e:Ex},ExC B H e [.iface T x]->(∀H',A_ (F_ H) H H'->K (.int .i64 (e.place:Int)) H')->Fb prog T x "Place" #[] H K:=by
 intro e h k;have c:∀{p:Nat},e.place=p->∀v H',v= .int .i64 (p:Int)/\A_ (F_ H) H H'->K v H':=λd v H' h=>by rw[h.1,<-d];exact k H' h.2
 cases e with|nm p s=>cases h;exact Fb.mk _ _ (AlL _) (Am2 (v:=undef) (w:=undef)) (c rfl)|tx p s=>cases h;exact Fb.mk _ _ (AlN _) (Am4 (v:=undef) (w:=undef)) (c rfl)|re p s=>cases h;exact Fb.mk _ _ (AlM _) (Am3 (v:=undef) (w:=undef)) (c rfl)|kd p a=>obtain⟨v,-,h⟩:=h;cases h;exact Fb.mk _ _ (AlK _) (Am1 (s:=⟨#[]⟩) (w:=undef)) (c rfl)|un p s a=>obtain⟨v,-,h⟩:=h;cases h;exact Fb.mk _ _ (AlO _) (Am5 (w:=undef)) (c rfl)|bi p s a b=>obtain⟨v,w,-,-,h⟩:=h;cases h;exact Fb.mk _ _ (AlI _) AlZ (c rfl)|cl p s l=>obtain⟨vs,b,n,r,-,-,-,-,-,-,h⟩:=h;cases h;exact Fb.mk _ _ (AlJ _) (Am0 (w:=undef)) (c rfl)|nil=>cases h|cons a l=>have⟨w,vs,f,g,h⟩:=h;cases h;exact R2 f k
def TmL(B:Nat->Prop)(H:Aa):List Tm->List v_->Prop | [],xs=>xs=[]| t::ts,xs=>∃x ys,xs=x::ys/\TmI B H t x/\t.short/\TmL B H ts ys
abbrev agL(p:Nat)(w:ByteArray)(b k n:Nat)(a:Option Addr)(k2 n2 i:Nat):List v_:=[B_ p,.string w,.slice (k_ b) k n,.slice a k2 n2,B_ i]
structure ArS(B C:Nat->Prop)(H0 H:Aa)(g p:Nat)(w:ByteArray)(l:Ex)(ts:List Tm)(qs:List Pc)(i:Nat):Prop where
 ex:∃vs b n r a n2 xs,D_ B H0 H (pB 198 g (agL p w b vs.length n a xs.length n2 i)::pS MJ 42 a xs.length n2 xs::qs)/\ExC B H l vs/\l.isL=zW/\B b/\L_ H b 93 (vs++r)/\vs.length<=n/\n<=maxLen/\TmL C H ts xs/\∀k,C k->B k
def TmL.up{B':Nat->Prop}(a:∀k,B k->B' k)(b:A_ B H H'):∀{ts:List Tm} {xs:List v_},TmL B H ts xs->TmL B' H' ts xs | [],_,h=>h | _::_,_,⟨x,ys,e,h,hs,h2⟩=>⟨x,ys,e,h.up a b,hs,h2.up a b⟩
def TmL.get:∀{ts:List Tm} {xs:List v_} {i:Nat} {t:Tm},TmL B H ts xs->ts[i]?=zY t->∃x,xs[i]?=zY x/\TmI B H t x/\t.short | _::_,_,0,_,⟨x,ys,e,h,hs,h2⟩,ht=>by cases ht;exact⟨x,by rw[e];rfl,h,hs⟩ | _::_,_,i+1,_,⟨x,ys,e,h,hs,h2⟩,ht=>by have⟨y,a,b⟩:=TmL.get h2 ht;exact⟨y,by rw[e];exact a,b⟩
def KP:Ex->Nat->Option Ex | .cons a _,0=>zY a | .cons _ l,i+1=>KP l i | _,_=>zV
def RK{B S:Nat->Prop}{H H':Aa}:∀{l:Ex} {vs:List v_},l.isL=zW->ExC B H l vs->MJ.reps S H' vs vs
 | .nil,_,_,h=>by cases h;rfl
 | .cons a l,_,hl,⟨v,ws,h,h2,e⟩=>by
   subst e;obtain⟨T,x,rfl⟩:=h.ifc;exact⟨_,_,rfl,⟨rfl,rfl⟩,RK (l:=l) hl h2⟩
def ExC.nth:∀{l:Ex} {vs:List v_} {i:Nat} {e:Ex},ExC B H l vs->KP l i=zY e->∃v,vs[i]?=zY v/\ExC B H e [v]| .cons a l,_,0,_,⟨v,ws,h,h2,e⟩,he=>by cases he;exact⟨v,by rw[e];rfl,h⟩ | .cons a l,_,i+1,_,⟨v,ws,h,h2,e⟩,he=>by have⟨u,b,c⟩:=ExC.nth h2 he;exact⟨u,by rw[e];exact b,c⟩
section
variable{i:Nat}{ts:List Tm}
def Ky(h:ArS B C H0 H g p w l ts qs i)(E:KP l i=zY e):Aw prog 118 #[J_ g] H (λ_ _=>False) (λy H'=>y=Bx 72 e.place/\A_ (F_ H) H H'):=by
 have⟨vs,b,n,r,a,P,xs,t,z,F,G,m,I,J,Q,R⟩:=h;have⟨v,d,k⟩:=z.nth E;obtain⟨T,x,rfl⟩:=k.ifc;have A:=t.blk 0 rfl;have K:=(P_.1 d).1;refine Aw.of_vc func118 rfl (call118 _) (A7.held (F_ H) [] (sq [0,1,2,3,4,5,6,7,8,9,10] (.f 11 (.f 12 .e))) (AG _ _) rfl zX ?_);have L:c_ MJ (F_ H) H (k_ b) n vs:=.intro (t.up G) I J (m.cells (o:=0) λj u D=>by rw[N_,zE (P_.1 D).1];exact D) (RK F z);repeat ((conv=>whnf);first | refine E_ ?_ | refine C_ (A.cellE rfl) A.lt ?_)
 refine zP WN L d rfl (λS U V M N O=>?_);obtain⟨rfl,-⟩:=O;refine C_ (v:=.iface T x) N.one M (R2 k λH1 a1=>(⟨a1,?_⟩));refine Ab.mk (GG (c:=72) (q:=e.place)) (λ_ _ h=>h.elim) ?_;rintro y _ ⟨rfl,rfl⟩;exact⟨rfl,a1⟩
def ArS.call(h:ArS B C H0 H g p w l ts qs i)(e:A_ (F_ H) H H'):ArS B C H0 H' g p w l ts qs i:=by have⟨vs,b,n,r,a,q,xs,f,t,u,j,c,x,y,z,m⟩:=h;have d:A_ B H H':=e.mono λk A=>f.up A;exact⟨vs,b,n,r,a,q,xs,f.call e,t.up (λ_ h=>h) d,u,j,c.agr d j,x,y,z.up (λ_ h=>h) (d.mono m),m⟩
def N4{t:Tm}(h:ArS B C H0 H g p w l ts qs i)(G:ts[i]?=zY t)(I:KP l i=zY e)(V:i<=1000:=by omega):Aw prog 81 #[J_ g] H (λv H'=>t.node.isSome=zW/\v=noV t.node/\ArS B C H0 H' g p w l ts qs (i+1)) (λy H'=>t.node.isSome=zU/\y=Bx 72 e.place/\A_ (F_ H) H H'):=by
 have J:=h;have⟨vs,b,n,r,a,K,xs,d,L,M,A,j,N,O,c,D⟩:=h;obtain⟨x,P,⟨v,Q,rfl⟩,hs⟩:=c.get G;have E:=d.blk 0 rfl;refine Aw.of_vc func81 rfl (call81 _) (A7.of (Ap.heldZ (F_ H) [15] (sq [0,1,2,3,4,5,6,7,8,9] (.f 10 (sq [11,12,13,14] (.f 15 .e)))) rfl zX ?_));have R:=d.view 1 rfl;repeat ((conv=>whnf);first | refine E_ ?_ | refine C_ (E.cellE rfl) E.lt ?_)
 refine zP Qd R P rfl (λW X Y S T U=>?_);obtain⟨rfl,-⟩:=U;refine C_ (v:=uO t v) T.one S (Af (K1 hs) λH1 a1=>(⟨a1,?_⟩));have m:=J.call a1;have st1:=d.call a1;have q:=st1.blk 0 rfl;cases Z:t.node.isSome;{refine Ah.run (Ab.mk (Ky m I) (λ_ _ h=>h.elim) ?_);rintro y H2 ⟨rfl,a2⟩;exact⟨rfl,rfl,a1.trans (a2.mono λk u=>Ak a1 u)⟩};refine Ah.run ?_;repeat ((conv=>whnf);first | refine E_ ?_ | refine C_ (q.cellE rfl) zA ?_ | rw[S_ i zO])
 refine Bc st1 0 rfl zZ rfl λH2 F=>?_;(conv=>whnf);have z:A_ B H H2:=A_.trans (λk u=>(d.old k u).symm) F.old;exact⟨rfl,rfl,vs,b,n,r,a,K,xs,F,L.up (λ_ h=>h) z,M,A,j.agr z A,N,O,c.up (λ_ h=>h) (z.mono D),D⟩
def Uh{t:Tm}(h:ArS B C H0 H g p w l ts qs i)(D:ts[i]?=zY t)(E:KP l i=zY e)(R:i<=1000:=by omega):Aw prog 84 #[J_ g] H (λv H'=>AK.lens.ok t=zW/\Z' C H t v/\ArS B C H0 H' g p w l ts qs (i+1)) (λy H'=>AK.lens.ok t=zU/\y=Bx 72 e.place/\A_ (F_ H) H H'):=by
 have F:=h;have⟨vs,b,n,r,a,G,xs,d,I,J,q,f,K,L,c,u⟩:=h;obtain⟨x,M,⟨v,j,rfl⟩,hs⟩:=c.get D;have z:=d.blk 0 rfl;refine Aw.of_vc func84 rfl (call84 _) (A7.of (Ap.lex rfl zX ?_));have N:=d.view 1 rfl;repeat ((conv=>whnf);first | refine E_ ?_ | refine C_ (z.cellE rfl) zA ?_)
 refine zP Qd N M rfl (λS T U V O P=>?_);obtain⟨rfl,-⟩:=P;refine lT (v:=uO t v) O.one ?_;cases t<;>first | exact hs.elim | skip
 (all_goals
 (conv=>whnf);first | refine TS ?_ | refine nE ?_
 refine Ah.run ?_
 first
  | (refine Ab.mk (Ky F E) (λ_ _ h=>h.elim) ?_
     rintro y H2 ⟨rfl,a2⟩;exact⟨rfl,rfl,a2⟩)
  | (repeat ((conv=>whnf);first | refine E_ ?_ | refine C_ (z.cellE rfl) zA ?_ | rw[S_ i zO])
     refine Bc d 0 rfl zZ rfl λH2 A=>?_;(conv=>whnf);have m:A_ B H H2:=A_.trans (λk Q=>(d.old k Q).symm) A.old;exact⟨rfl,j,vs,b,n,r,a,G,xs,A,I.up (λ_ h=>h) m,J,q,f.agr m q,K,L,c.up (λ_ h=>h) (m.mono u),u⟩))
def VK{t:Tm}(h:ArS B C H0 H g p w l ts qs i)(D:ts[i]?=zY t)(E:KP l i=zY e)(R:i<=1000:=by omega):Aw prog 83 #[J_ g] H (λv H'=>AK.canon.ok t=zW/\Z' C H t v/\ArS B C H0 H' g p w l ts qs (i+1)) (λy H'=>AK.canon.ok t=zU/\y=Bx 72 e.place/\A_ (F_ H) H H'):=by
 have F:=h;have⟨vs,b,n,r,a,G,xs,d,I,J,q,f,K,L,c,u⟩:=h;obtain⟨x,M,⟨v,j,rfl⟩,hs⟩:=c.get D;have z:=d.blk 0 rfl;refine Aw.of_vc func83 rfl (call83 _) (A7.of (Ap.lex rfl zX ?_));have N:=d.view 1 rfl;repeat ((conv=>whnf);first | refine E_ ?_ | refine C_ (z.cellE rfl) zA ?_)
 refine zP Qd N M rfl (λS T U V O P=>?_);obtain⟨rfl,-⟩:=P;refine lT (v:=uO t v) O.one ?_;cases t<;>first | exact hs.elim | skip
 (all_goals
 (conv=>whnf);first | refine V4 ?_ | refine V3 ?_
 refine Ah.run ?_
 first
  | (refine Ab.mk (Ky F E) (λ_ _ h=>h.elim) ?_
     rintro y H2 ⟨rfl,a2⟩;exact⟨rfl,rfl,a2⟩)
  | (repeat ((conv=>whnf);first | refine E_ ?_ | refine C_ (z.cellE rfl) zA ?_ | rw[S_ i zO])
     refine Bc d 0 rfl zZ rfl λH2 A=>?_;(conv=>whnf);have m:A_ B H H2:=A_.trans (λk Q=>(d.old k Q).symm) A.old;exact⟨rfl,j,vs,b,n,r,a,G,xs,A,I.up (λ_ h=>h) m,J,q,f.agr m q,K,L,c.up (λ_ h=>h) (m.mono u),u⟩))
def N5{t:Tm}(h:ArS B C H0 H g p w l ts qs i)(P:ts[i]?=zY t)(Q:KP l i=zY e)(hi:i<=1000:=by omega):Aw prog 82 #[J_ g] H (λv H'=>AK.text.ok t=zW/\v= .string (Kv t)/\ArS B C H0 H' g p w l ts qs (i+1)) (λy H'=>AK.text.ok t=zU/\y=Bx 72 e.place/\A_ (F_ H) H H'):=by
 have R:=h;have⟨vs,b,n,r,a,S,xs,c,T,U,K,u,V,W,d,L⟩:=h;obtain⟨x,X,⟨v,Y,rfl⟩,hs⟩:=d.get P;have M:=c.blk 0 rfl;refine Aw.of_vc func82 rfl (call82 _) (A7.of (Ap.heldZ (F_ H) [16] (sq [0,1,2,3,4,5,6,7,8,9,10,11,12,13] (.f 14 (.f 15 (.f 16 .e)))) rfl zX ?_));have Z:=c.view 1 rfl;repeat ((conv=>whnf);first | refine E_ ?_ | refine C_ (M.cellE rfl) M.lt ?_)
 refine zP Qd Z X rfl (λb2 o2 c2 hS hc hr=>?_);obtain⟨rfl,-⟩:=hr;refine C_ (v:=uO t v) hc.one hS ?_;cases t<;>first | exact hs.elim | skip
 (all_goals
 (conv=>whnf);first | refine oQ ?_ | refine TT ?_
 refine Aq iD [B_ 0,.string ⟨#[]⟩] zX rfl ?_;intro q H1 N z A j;have s1:=(c.box N z A j).rot;have a1:=j.new N;refine⟨a1,?_⟩;refine Bd (cs:=[_,_]) s1 0 rfl rfl (I_ _) rfl λH2 O j2 z2=>?_;have a2:A_ (F_ H) H H2:=a1.trans (j2.mono λk m=>by unfold F_ at m;omega);refine⟨a2,?_⟩;have D:=R.call a2;have E:=c.call a2;have F:=E.blk 0 rfl;have a0:=O.blk 0 rfl;refine Ah.run ?_
 first
  | (refine Ab.mk (Ky D Q) (λ_ _ h=>h.elim) ?_
     rintro y H3 ⟨rfl,a3⟩;exact⟨rfl,rfl,a2.trans (a3.mono λk m=>Ak a2 m)⟩)
  | (repeat ((conv=>whnf);first | refine E_ ?_ | refine C_ (F.cellE rfl) zA ?_ | rw[S_ i zO])
     refine Bc O 1 rfl zZ rfl λH3 G=>?_;have I:=G.blk 0 rfl;refine E_ ?_;refine lT (I.cellE rfl) ?_;(conv=>whnf);have J:A_ B H H3:=A_.trans (λk m=>(c.old k m).symm) G.old;exact⟨rfl,rfl,vs,b,n,r,a,S,xs,G.tl,T.up (λ_ h=>h) J,U,K,u.agr J K,V,W,d.up (λ_ h=>h) (J.mono L),L⟩))
end
def Tm.good(t:Tm):Prop:=t.short/\t.sz<=10000
def MkS(B:Nat->Prop)(H:Aa)(mb:Nat)(env:ByteArray->Option Tm):Prop:=∃bm mv,B mb/\B bm/\L_ H mb 90 [.map (zY bm)]/\Ew Value.string H bm mv/\∀s,match env s with
  | none=>mv s=zV
  | some t=>∃x,mv s=zY x/\TmI B H t x/\t.good
def MkS.up{B':Nat->Prop}{mb:Nat}{env:ByteArray->Option Tm}(h:MkS B H mb env)(a:∀k,B k->B' k)(b:A_ B H H'):MkS B' H' mb env:=by have⟨f,g,c,d,j,l,m⟩:=h;refine⟨f,g,a _ c,a _ d,j.agr b c,l.agr b d,λs=>?_⟩;have:=m s;cases e:env s with|none=>rw[e]at this;exact this|some t=>rw[e]at this;have⟨x,n,e2,p⟩:=this;exact⟨x,n,e2.up a b,p⟩
def sY(env:ByteArray->Option Tm)(e:Ex):Prop:=∀{B:Nat->Prop} {H:Aa} {mb:Nat} {v:v_},(∀k,B k->k<H.size)->DY H->MkS B H mb env->ExC B H e [v]->
 Aw prog 25 #[J_ mb,v] H (λx H'=>∃t,p_ env e= .inr [t]/\t.good/\A_ (F_ H) H H'/\TmI (s_ B H H') H' t x) (MkE H (p_ env e))
def TmI.ifc{t:Tm}{x:v_}(h:TmI B H t x)(a:t.short):∃T y,x= .iface T y:=by obtain⟨v,b,rfl⟩:=h;cases t<;>first | exact⟨_,_,rfl⟩ | exact a.elim
def QG(env:ByteArray->Option Tm)(p:Nat)(w:ByteArray)(l:Ex):FT ⊕ Tm:=match p_ env l with
 | .inl e=>.inl e
 | .inr ts=>xE p w l ts
def ExC.len:∀{l:Ex} {vs:List v_},l.isL=zW->ExC B H l vs->vs.length=l.len | .nil,_,_,h=>by cases h;rfl | .cons a l,_,hl,⟨v,ws,h,h2,e⟩=>by subst e;exact congrArg (·+1) (ExC.len (l:=l) hl h2)
def Kz(h:0<zL w):w=CO.id.s\/w=CO.fold.s\/w=CO.norm.s\/w=LO.del.s\/w=LO.ins.s\/w=LO.copy.s\/w=LO.key.s\/w=LO.left.s\/w=LO.right.s\/w=LO.default_.s:=by by_cases a:w=CO.id.s\/w=CO.fold.s\/w=CO.norm.s\/w=LO.del.s\/w=LO.ins.s\/w=LO.copy.s\/w=LO.key.s\/w=LO.left.s\/w=LO.right.s\/w=LO.default_.s;{exact a};simp only[not_or,CO.s,LO.s]at a;exfalso;unfold zL at h;simp only[a,or_self,if_false]at h;split at h<;>omega
def vV(w:ByteArray):Nat:=if w=CO.id.s then 0 else if w=CO.fold.s then 1 else if w=CO.norm.s then 2 else if w=LO.del.s then 3 else if w=LO.ins.s then 4 else if w=LO.copy.s then 5 else if w=LO.key.s then 6 else if w=LO.left.s then 7 else if w=LO.right.s then 8 else 9
abbrev tQ(w:ByteArray)(l:List UInt8)(i:Nat):Prop:=(w.toList==(⟨l.toArray⟩:ByteArray).toList)=zT (vV w=i)
def iF(a:0<zL w):tQ w [105,100] 0/\tQ w [102,111,108,100] 1/\tQ w [110,111,114,109] 2/\tQ w [100,101,108] 3/\tQ w [105,110,115] 4/\tQ w [99,111,112,121] 5/\tQ w [107,101,121] 6/\tQ w [108,101,102,116] 7/\tQ w [114,105,103,104,116] 8/\tQ w [100,101,102,97,117,108,116] 9:=by unfold tQ;simp only[CP];rcases Kz a with rfl | rfl | rfl | rfl | rfl | rfl | rfl | rfl | rfl | rfl<;>decide
def Rv(n:Option ReM):(noV n).oneCell'=zW:=by cases n<;>first | rfl | exact AV _
def ArS.st1{i q:Nat}{ts:List Tm}{t o:Nat}{v:v_}{K:Aa->Prop}{c:List v_}{e:x_}(h:ArS B C H0 H g p w l ts (pB e q c::qs) i) [ht:CellT prog t](A:o<c.length)(D:v.oneCell'=zW)(k:∀H',ArS B C H0 H' g p w l ts (pB e q (c.set o v)::qs) i->K H'):BK prog (Instr.storeAt t (.pointer (zY ⟨q,o,zV⟩)) v) H K:=by have⟨vs,b,n,r,a,E,xs,u,d,F,x,f,G,I,j,y⟩:=h;refine Bc u 2 rfl A D λH' z=>?_;have m:A_ B H H':=A_.trans (λk J=>(u.old k J).symm) z.old;exact k H' ⟨vs,b,n,r,a,E,xs,z,d.up (λ_ h=>h) m,F,x,f.agr m x,G,I,j.up (λ_ h=>h) (m.mono y),y⟩
def ArS.blk{i q:Nat}{ts:List Tm}{c:List v_}{e:x_}(h:ArS B C H0 H g p w l ts (pB e q c::qs) i):L_ H q e c:=by obtain⟨vs,b,n,r,a,f,xs,d,-⟩:=h;exact d.blk 2 rfl
def ArS.old{i:Nat}{ts:List Tm}(h:ArS B C H0 H g p w l ts qs i):A_ B H0 H:=by obtain⟨vs,b,n,r,a,d,xs,c,-⟩:=h;exact c.old
def yE(l:Ex)(ts:List Tm)(ks:List AK)(r:Tm):FT ⊕ Tm:=match DF ks ts l with
 | some q=>.inl (72,q)
 | none=>.inr r
def Xl(ts:List Tm):FT ⊕ List Tm->FT ⊕ List Tm | .inl e=>.inl e | .inr us=>.inr (ts++us)
def TmL.len:∀{ts:List Tm} {xs:List v_},TmL B H ts xs->xs.length=ts.length | [],_,h=>by cases h;rfl | _::_,_,⟨x,ys,e,h,hs,h2⟩=>by subst e;exact congrArg (·+1) h2.len
def TmL.snoc{t:Tm}{x:v_}(h:TmI B H t x)(a:t.short):∀{ts:List Tm} {xs:List v_},TmL B H ts xs->TmL B H (ts++[t]) (xs++[x])| [],_,e=>by cases e;exact⟨x,[],rfl,h,a,rfl⟩ | _::_,_,⟨y,ys,e,h1,hs,h2⟩=>by subst e;exact⟨y,_,rfl,h1,hs,h2.snoc h a⟩
def D_.low{B':Nat->Prop}{ps:List Pc}(a:D_ B H0 H ps)(c:∀k,B' k->B k):D_ B' H0 H ps:=⟨a.old.mono c,λk b=>a.lt0 k (c k b),a.size,a.oks,λp d k b=>⟨λh=>(a.rng p d k b).1 (c k h),(a.rng p d k b).2⟩,a.dis⟩
def fC:∀{l:Ex},l.isL=zW->l.len=1->∃a,l= .cons a .nil | .cons a .nil,_,_=>⟨a,rfl⟩ | .cons a (.cons b l),_,h=>by simp only[Ex.len]at h;omega
def fD:∀{l:Ex},l.isL=zW->l.len=2->∃a b,l= .cons a (.cons b .nil)| .cons a l,hl,h=>by obtain⟨b,rfl⟩:=fC (l:=l) hl (by simp only[Ex.len]at h;omega);exact⟨a,b,rfl⟩
def AlE:∀{l:Ex},l.isL=zW->l.len=3->∃a b c,l= .cons a (.cons b (.cons c .nil))| .cons a l,hl,h=>by obtain⟨b,c,rfl⟩:=fD (l:=l) hl (by simp only[Ex.len]at h;omega);exact⟨a,b,c,rfl⟩
def YZ(p:Nat)(l:Ex)(ts:List Tm):xE p CO.id.s l ts=yE l ts [.node] (.ca p .id (ts.getD 0 .nil).node nx nx .nil .nil):=by unfold xE;simp only;rw[H_ trivial]<;>rfl
def QK(p:Nat)(l:Ex)(ts:List Tm):xE p CO.fold.s l ts=yE l ts [.node] (.ca p .fold (ts.getD 0 .nil).node nx nx .nil .nil):=by unfold xE;simp only;rw[G_ zQ,H_ trivial]<;>rfl
def QM(p:Nat)(l:Ex)(ts:List Tm):xE p CO.norm.s l ts=yE l ts [.node,.text,.text] (.ca p .norm (ts.getD 0 .nil).node (Kv (ts.getD 1 .nil)) (Kv (ts.getD 2 .nil)) .nil .nil):=by unfold xE;simp only;rw[G_ zQ,G_ zQ,H_ trivial]<;>rfl
def Uw(p:Nat)(l:Ex)(ts:List Tm):xE p LO.del.s l ts=yE l ts [.node,.text] (.le p .del (ts.getD 0 .nil).node (Kv (ts.getD 1 .nil)) .nil .nil .nil):=by unfold xE;simp only;rw[G_ zQ,G_ zQ,G_ zQ,H_ trivial]<;>rfl
def Ux(p:Nat)(l:Ex)(ts:List Tm):xE p LO.ins.s l ts=yE l ts [.text] (.le p .ins zV (Kv (ts.getD 0 .nil)) .nil .nil .nil):=by unfold xE;simp only;rw[G_ zQ,G_ zQ,G_ zQ,G_ zQ,H_ trivial]<;>rfl
def QJ(p:Nat)(l:Ex)(ts:List Tm):xE p LO.copy.s l ts=yE l ts [.node] (.le p .copy (ts.getD 0 .nil).node nx .nil .nil .nil):=by unfold xE;simp only;rw[G_ zQ,G_ zQ,G_ zQ,G_ zQ,G_ zQ,H_ trivial]<;>rfl
def Uy(p:Nat)(l:Ex)(ts:List Tm):xE p LO.key.s l ts=yE l ts [.node] (.le p .key (ts.getD 0 .nil).node nx .nil .nil .nil):=by unfold xE;simp only;rw[G_ zQ,G_ zQ,G_ zQ,G_ zQ,G_ zQ,G_ zQ,H_ trivial]<;>rfl
def QL(p:Nat)(l:Ex)(ts:List Tm):xE p LO.left.s l ts=yE l ts [.canon,.lens] (.le p .left zV nx (ts.getD 0 .nil) (ts.getD 1 .nil) .nil):=by unfold xE;simp only;rw[G_ zQ,G_ zQ,G_ zQ,G_ zQ,G_ zQ,G_ zQ,G_ zQ,H_ trivial]<;>rfl
def NC(p:Nat)(l:Ex)(ts:List Tm):xE p LO.right.s l ts=yE l ts [.lens,.canon] (.le p .right zV nx (ts.getD 1 .nil) (ts.getD 0 .nil) .nil):=by unfold xE;simp only;rw[G_ zQ,G_ zQ,G_ zQ,G_ zQ,G_ zQ,G_ zQ,G_ zQ,G_ zQ,H_ trivial]<;>rfl
def It(p:Nat)(l:Ex)(ts:List Tm):xE p LO.default_.s l ts=yE l ts [.lens,.text] (.le p .default_ zV (Kv (ts.getD 1 .nil)) .nil (ts.getD 0 .nil) .nil):=by unfold xE;simp only;rw[G_ zQ,G_ zQ,G_ zQ,G_ zQ,G_ zQ,G_ zQ,G_ zQ,G_ zQ,G_ zQ]<;>rfl
def oH{t:Tm}(h:AK.canon.ok t=zW):t.isC=zW:=by cases t<;>first | rfl | cases h
def lI{t:Tm}(h:AK.lens.ok t=zW):t.isL=zW:=by cases t<;>first | rfl | cases h
def iG(h:n.isSome=zW):∃T v,noV n= .iface T v:=by cases n with|none=>cases h|some r=>exact AN r
def ArS.box{i q:Nat}{ts:List Tm}{x:Pc}{e:x_}(h:ArS B C H0 H g p w l ts [x] i)(D:q=H.size)(hs:H'.size=q+1)(d:L_ H' q e u)(E:A_ (λk=>k<q) H H'):ArS B C H0 H' g p w l ts [pB e q u] i:=by have⟨vs,b,n,r,a,F,xs,y,f,G,c,j,I,J,m,z⟩:=h;have A:=(y.sub (.cons_cons _ (.cons_cons _ (.cons _ .slnil)))).box D hs d E;have t:A_ B H H':=A_.trans (λk d=>(y.old k d).symm) A.old;exact⟨vs,b,n,r,a,F,xs,A,f.up (λ_ h=>h) t,G,c,j.agr t c,I,J,m.up (λ_ h=>h) (t.mono z),z⟩
def ArS.size{i:Nat}{ts:List Tm}(h:ArS B C H0 H g p w l ts qs i):H0.size<=H.size:=by obtain⟨vs,b,n,r,a,d,xs,c,-⟩:=h;exact c.size
abbrev qI(p:Nat)(w:ByteArray)(b k n:Nat):List v_:=[B_ p,.string w,.slice (k_ b) k n]
def Ab.ag{P:w_}{f:FuncId}{a:Array v_}{H G:Aa}{b:Bool}{q:Nat}{X:FT ⊕ Tm}{R K:v_->Aa->Prop}(h:Aw P f a G R λy H'=>b=zU/\y=Bx 72 q/\A_ (F_ G) G H')(c:b=zU->X= .inl (72,q))(ag:A_ (F_ H) H G)(k:∀v H',R v H'->K v H'):Ab P f a G K (MkE H X):=Ab.mk h k λy G9 h=>⟨72,q,c h.1,h.2.1,ag.trans (h.2.2.mono λk d=>Ak ag d)⟩
def wdS:Nat->ByteArray | 0=>CO.id.s | 1=>CO.fold.s | 2=>CO.norm.s | 3=>LO.del.s | 4=>LO.ins.s | 5=>LO.copy.s | 6=>LO.key.s | 7=>LO.left.s | 8=>LO.right.s | _=>LO.default_.s
def Pm(a:0<zL w){k:Nat}(h:vV w=k):w=wdS k:=by subst h;rcases Kz a with rfl | rfl | rfl | rfl | rfl | rfl | rfl | rfl | rfl | rfl<;>decide
theorem AkG(w:ByteArray):vV w<=9:=by
 unfold vV
 repeat' split
 all_goals decide
section
variable{ts:List Tm}
def nC(c:l.isL=zW)(d:ts.length=l.len)(h:l.len=1):∃a b,ts=[a]/\l= .cons b .nil:=by obtain⟨b,rfl⟩:=fC c h;match ts,d with|[a],_=>exact⟨a,b,rfl,rfl⟩
def nG(e:l.isL=zW)(f:ts.length=l.len)(h:l.len=2):∃a b c d,ts=[a,b]/\l= .cons c (.cons d .nil):=by obtain⟨c,d,rfl⟩:=fD e h;match ts,f with|[a,b],_=>exact⟨a,b,c,d,rfl,rfl⟩
def Ak1(g:l.isL=zW)(j:ts.length=l.len)(h:l.len=3):∃a b c d e f,ts=[a,b,c]/\l= .cons d (.cons e (.cons f .nil)):=by obtain⟨d,e,f,rfl⟩:=AlE g h;match ts,j with|[a,b,c],_=>exact⟨a,b,c,d,e,f,rfl,rfl⟩
end
def AhY{env:ByteArray->Option Tm}{mb n:Nat}{vs r:List v_}(hB:∀k,B k->k<H.size)(hE:DY H)(hm:MkS B H mb env)(Q:l.isL=zW)(hv:ExC B H l vs)(hb:B b)(ak:L_ H b 93 (vs++r))(h1:vs.length<=n)(h2:n<=maxLen)(R:0<zL w)(hn:l.len=(zL w).toNat)(ih:∀i e,KP l i=zY e->sY env e):Aw prog 50 #[J_ mb,.agg (qI p w b vs.length n).toArray] H (rR B H (QG env p w l)) (MkE H (QG env p w l)):=by
 have c5:=ExC.len Q hv;obtain⟨X,E⟩:∃X,QG env p w l=X:=⟨_,rfl⟩;rw[E];have b8:l.len<=3:=by have:=YD w;omega
 refine Aw.of_vc func50 rfl (call50 _) (BF (qI p w b vs.length n) rfl ?_);intro q H1 hq bd ai be;have s1:=(St.nil H).box hq bd ai be;refine K_ (cs:=qI p w b vs.length n) (ai.cells λj v hv=>by rw[N_];exact hv) zA ?_;refine Ad underlying198 rfl _ rfl (agL p w b vs.length n zV 0 0 0) zX (Ec s1.keep (agL p w b vs.length n zV 0 0 0) rfl λg H2 s2=>?_);have am:A_ (λk=>F_ H k\/k=q) H1 H2:=s2.old;have ae:=ai.agr am (.inr rfl);have bf:A_ (F_ H) H H2:=s1.old.trans (am.mono λk d=>.inl d);have bh:D_ (λk=>F_ H k\/B k\/k=q) H2 H2 [pB 198 g (agL p w b vs.length n zV ([]:List v_).length 0 0),pS MJ 42 zV ([]:List v_).length 0 []]:=(s2.nils MJ 42).rebase.low λk d=>d.elim .inl λh=>h.imp_left (hB k);repeat ((conv=>whnf);first | refine E_ ?_ | refine C_ (ae.cellE rfl) zA ?_ | refine Ah.run ?_)
 refine CU.mk [16] (λx:Nat×Ex×List Tm=>match x with | (k,_,_)=>[B_ k]) (λx G=>match x with | (k,m,ts)=>∃B1 a n2 xs,(∀j,KP m j=KP l (k+j))/\k+m.len=vs.length/\ts.length=k/\m.isL=zW/\p_ env l=Xl ts (p_ env m)/\(∀k,(B k\/k=q)->B1 k)/\(∀k,B1 k->B k\/H.size<=k)/\A_ (F_ H) H G/\A_ (λk=>k=q) H2 G/\D_ (λk=>F_ H k\/B1 k) G G [pB 198 g (agL p w b vs.length n a xs.length n2 0),pS MJ 42 a xs.length n2 xs]/\TmL B1 G ts xs) (λx _=>match x with | (k,_,_)=>vs.length-k) ⟨(0,l,[]),rfl,λk=>B k\/k=q,zV,0,[],λj=>by rw[N_],zO,rfl,Q,by cases p_ env l<;>rfl,λk h=>h,λk h=>h.imp_right λh=>by rw[h,hq];exact I_ _,bf,A_.refl _ _,bh,rfl⟩ ?_;rintro⟨k,m,ts⟩ G c4 ⟨B1,a,n2,xs,hj,d,bj,ao,hF,N,ah,M,ap,st,hT⟩;have O:=ae.agr ap rfl;have a8:=st.blk 0 rfl;have aj:∀k,B1 k->k<G.size:=λk d=>st.up (.inr d);have T:A_ B H G:=M.mono hB;by_cases c6:k<vs.length;{
 have d1:zT ((k:Int)<(vs.length:Int))=zW:=Y';obtain⟨e0,m',rfl⟩:∃e0 m',m= .cons e0 m':=by{cases m<;>first | exact⟨_,_,rfl⟩ | (simp only[Ex.len]at d;omega)};have aq:KP l k=zY e0:=(hj 0).symm;have⟨v0,bn,au⟩:=hv.nth aq;obtain⟨T0,x0,rfl⟩:=au.ifc;have sl:c_ MJ (λ_=>True) G (k_ b) n vs:=.intro zA h1 h2 ((ak.agr T hb).cells (o:=0) λj u hu=>by rw[N_,zE (P_.1 hu).1];exact hu) (RK Q hv);(conv=>whnf);rw[d1];refine zP WN sl bn rfl (λb2 o2 c2 hS hc hr=>?_);obtain⟨rfl,-⟩:=hr;refine C_ (v:=.iface T0 x0) hc.one zA (A7.held (λk=>k=g) [12] (sq [0,1,2,3,4,5,6] (.f 7 (.f 8 (.f 9 (sq [10,11] (.f 12 .e)))))) (AG _ _) rfl zX ?_);repeat ((conv=>whnf);first | refine E_ ?_ | refine C_ (a8.cellE rfl) rfl ?_)
 refine Ab.mk (ih k e0 aq aj (hE.agr M) (hm.up (λk d=>N k (.inl d)) T) (au.up (λk d=>N k (.inl d)) T)) ?_ ?_;rotate_left
 {rintro y G2 ⟨c,z,D,rfl,a2⟩;refine⟨c,z,?_,rfl,M.trans (a2.mono λk d=>Ak M d)⟩;rw[<-E];unfold QG;rw[hF];simp only[p_,D,Xl]};rintro x G2 ⟨t,D,ht,a2,aw⟩;have ay:D_ (λk=>F_ H k\/s_ B1 G G2 k) G2 G2 [pB 198 g (agL p w b vs.length n a xs.length n2 0),pS MJ 42 a xs.length n2 xs]:=(st.widen a2 _ λk d=>d).low λk d=>d.elim (λh=>.inl (.inl h)) λh=>h.elim (λh=>.inl (.inr h)) .inr;have az:=M.trans (a2.mono λk d=>Ak M d);refine⟨FV a8 (ay.blk 0 rfl),?_⟩;obtain⟨U,x1,rfl⟩:=aw.ifc ht.1;refine Az Qd [.iface U x1] rfl rfl zQ zQ ?_;intro y G3 hy c7 bo bp;have b0:=ay.skip hy bp;refine⟨FV a8 (b0.blk 0 rfl),?_⟩;have c8:=hT.len;refine Ip b0 1 Qd rfl bo ⟨rfl,rfl⟩ rfl zO zQ λa5 n5 G5 s5 j5=>(⟨FV a8 (s5.blk 0 rfl),?_⟩);refine E_ ?_;refine Bc s5 0 rfl zZ rfl λG6 s6=>?_;(conv=>whnf);rw[S_ k zO];have bq:(xs++[Value.iface U x1]).length=xs.length+1:=zZ;have a9:∀k,(B k\/k=q)->s_ B1 G G2 k:=λk d=>.inl (N k d);have br:=O.lt;have b4:=s6.old;have b5:A_ (s_ B1 G G2) G2 G6:=b4.mono λk d=>.inr d;refine⟨rfl,(k+1,m',ts++[t]),zZ,⟨s_ B1 G G2,a5,n5,xs++[.iface U x1],λj=>by rw[(zO:k+1+j=k+(j+1)),<-hj (j+1)];rfl,by simp only[Ex.len]at d;omega,by simp[bj],ao,?_,a9,?_,?_,?_,?_,?_⟩,by show vs.length-(k+1)<vs.length-k;omega⟩;{rw[hF];simp only[p_,D];cases p_ env m'<;>simp[wC,Xl]};{rintro k (d | d);{exact ah k d};exact .inr (V' (Ay M) d.1)};{exact az.trans (b4.mono λk d=>.inl d)};{exact(ap.trans (a2.mono λk d=>by rw[d];exact br)).trans (b5.mono λk d=>a9 k (.inr d))};{rw[bq];exact s6.rebase};exact(TmL.snoc aw ht.1 (hT.up (λk d=>.inl d) (a2.mono aj))).up (λk d=>d) b5};have d1:zT ((k:Int)<(vs.length:Int))=zU:=j_;obtain rfl:m= .nil:=by{cases m<;>first | rfl | cases ao | (simp only[Ex.len]at d;omega)};rw[show p_ env .nil= .inr []from rfl]at hF;have hF:p_ env l= .inr ts:=by rw[hF];simp[Xl]
 have E:X=xE p w l ts:=by{rw[<-E];unfold QG;rw[hF]};have J:ts.length=(zL w).toNat:=zO;have⟨e0,e1,e2,e3,e4,e5,e6,e7,e8,e9⟩:=iF R;have C1:∀k,B1 k->(F_ H k\/B1 k):=λk d=>.inr d;have fin:∀{G2:Aa} {S:Nat->Prop},(∀k,F_ H k->S k)->A_ S G G2->A_ (F_ H) H G2:=λhS h=>M.trans (h.mono hS);have a9:∀{G2:Aa} {t:Tm} {v:v_},Z' B1 G t v->A_ B1 G G2->G.size<=G2.size->Z' (s_ B H G2) G2 t v:=λh a hs=>h.up (λk d=>(ah k d).imp_right λh=>⟨h,yQ (aj k d) hs⟩) a;have c9:H.size<=G.size:=Ay M;(conv=>whnf);rw[d1];repeat ((conv=>whnf);first | refine E_ ?_ | refine C_ (O.cellE rfl) zA ?_)
 refine Ad underlying105 rfl _ rfl [B_ p,.string w,.nilIface,.string nx,.pointer zV,.pointer zV,.pointer zV] zX (BF [B_ p,.string w,.nilIface,.string nx,.pointer zV,.pointer zV,.pointer zV] rfl ?_);intro lb G2 bu bv bw bx;have A0:ArS (λk=>F_ H k\/B1 k) B1 G G2 g p w l ts [pB 105 lb [B_ p,.string w,.nilIface,.string nx,.pointer zV,.pointer zV,.pointer zV]] 0:=by{have s4:=st.box bu bv bw bx;have h4:A_ (λk=>F_ H k\/B1 k) G G2:=s4.old;have bz:B1 b:=N b (.inl hb);exact⟨vs,b,n,r,a,n2,xs,s4,(hv.up (λk d=>.inr (N k (.inl d))) (T.trans (h4.mono λk d=>.inl (hB k d)))),Q,.inr bz,ak.agr (T.trans (h4.mono λk d=>.inl (hB k d))) hb,h1,h2,hT.up (λk d=>d) (h4.mono C1),C1⟩};have K:=O.agr (A0.old.mono λk (d:k=q)=>.inr (N k (.inr d))) rfl;have cd:G.size<=lb:=zO;have old_:∀{G3:Aa} {qs:List Pc} {i:Nat},ArS (λk=>F_ H k\/B1 k) B1 G G3 g p w l ts qs i->A_ (F_ H) H G3/\A_ B1 G G3/\A_ (λk=>k=q) G2 G3:=λA=>⟨fin (λk d=>.inl d) A.old,A.old.mono C1,A_.trans (λk d=>(A0.old k (.inr (N k (.inr d)))).symm) (A.old.mono λk d=>.inr (N k (.inr d)))⟩;refine Ah.run (E_ ?_);refine lT (K.cellE rfl) ?_;clear hF b8;have V:∀{G3 G4:Aa} {qs qs':List Pc} {i i':Nat} {t:Tm} {v:v_},ArS (λk=>F_ H k\/B1 k) B1 G G3 g p w l ts qs i->ArS (λk=>F_ H k\/B1 k) B1 G G4 g p w l ts qs' i'->Z' B1 G3 t v->Z' (s_ B H G4) G4 t v:=λA A' h=>a9 (h.up (λ_ h=>h) λk d=>((old_ A).2.1 k d).symm) (old_ A').2.1 A'.size;have L:∀(op:LO) (n:Option ReM) (q a b:Tm) {G6:Aa} {qs:List Pc} {i:Nat} {s:ByteArray} {vq va vb:v_},w=op.s->ArS (λk=>F_ H k\/B1 k) B1 G G6 g p w l ts (pB 105 lb [B_ p,.string w,noV n,.string s,vq,va,vb]::qs) i->X= .inr (.le p op n s q a b)->q.isC=zW->a.isL=zW->b.isL=zW->Z' (s_ B H G6) G6 q vq->Z' (s_ B H G6) G6 a va->Z' (s_ B H G6) G6 b vb->rR B H X (.iface 33 (J_ lb)) G6:=λop n q a b G6 qs i s vq va vb D A E kq ka kb tq ta tb=>by{have b9:=A.blk;have z9:G.size<=G6.size:=A.size;refine⟨_,E,(old_ A).1,_,⟨lb,_,_,_,rfl,.inr ⟨zO,b9.lt⟩,?_,kq,ka,kb,tq,ta,tb⟩,rfl⟩;rw[D]at b9;exact b9};have J:=J.trans hn.symm;repeat (refine Ah.run ?_)
 (conv=>whnf);by_cases h:vV w=0;have D:w=CO.id.s:=Pm R h;have hc:=YZ p l ts;rw[<-D,<-E]at hc;have b6:∃op:CO,w=op.s/\X=yE l ts [.node] (.ca p op (ts.getD 0 .nil).node nx nx .nil .nil):=⟨_,D,hc⟩;refine Av.tt (e0.trans (a_ h)) ?_;rotate_left
 refine Av.ff (e0.trans (b_ h)) ?_;repeat (refine Ah.run ?_)
 (conv=>whnf);by_cases h:vV w=1;have D:w=CO.fold.s:=Pm R h;have hc:=QK p l ts;rw[<-D,<-E]at hc;have b6:∃op:CO,w=op.s/\X=yE l ts [.node] (.ca p op (ts.getD 0 .nil).node nx nx .nil .nil):=⟨_,D,hc⟩;refine Av.tt (e1.trans (a_ h)) ?_;rotate_left
 refine Av.ff (e1.trans (b_ h)) ?_;repeat (refine Ah.run ?_)
 (conv=>whnf);by_cases h:vV w=2;{have D:w=CO.norm.s:=Pm R h;obtain⟨F,U,t2,u0,u1,u2,rfl,rfl⟩:=Ak1 Q J (by rw[hn,D];decide);rw[D,QM]at E;refine Av.tt (e2.trans (a_ h)) (A7.held (λk=>k=q) [] (sq [0,1,2,3,4] (.f 5 (sq [6] (.f 7 (sq [8] .e))))) (AG _ _) rfl zX ?_);(repeat ((conv=>whnf);first | refine E_ ?_ | refine C_ (K.cellE rfl) rfl ?_));refine Ab.ag (N4 A0 rfl rfl) (λh=>by rw[E];simp[yE,DF,AK.ok,h]) (old_ A0).1 ?_;rintro v3 G3 ⟨C,W,A1⟩;have⟨T1,x1,Y⟩:=iG C;rw[Y]at W;subst W;have o9:=old_ A1;refine⟨o9.2.2,?_⟩;refine Ad underlying191 rfl _ rfl [B_ p,.string w,.iface T1 x1,.string nx,.string nx,.pointer zV,.pointer zV] zX (BF [B_ p,.string w,.iface T1 x1,.string nx,.string nx,.pointer zV,.pointer zV] rfl ?_);intro cb G4 ab b7 Z ad;have a5:=ad.new ab;have z3:=A1.size;have A2:=A1.box ab b7 Z ad;refine⟨o9.2.2.trans (a5.mono λk d=>by rw[d];have:=K.lt;have:=A0.size;have:=O.lt;unfold F_;omega),?_⟩;refine Ab.ag (N5 A2 rfl rfl) (λh=>by rw[E];simp[yE,DF,show AK.node.ok F=zW from C,h]) (old_ A2).1 ?_;rintro _ G5 ⟨I,rfl,A3⟩;refine E_ ?_;refine A3.st1 zZ rfl λG6 A4=>?_;refine Ab.ag (N5 A4 rfl rfl) (λh=>by rw[E];simp[yE,DF,show AK.node.ok F=zW from C,I,h]) (old_ A4).1 ?_;rintro _ G7 ⟨c3,rfl,A5⟩;refine E_ ?_;refine A5.st1 zZ rfl λG8 A6=>?_;(conv=>whnf);have b9:=A6.blk;have z9:G.size<=G8.size:=A6.size;have z4:=A0.size;refine⟨.ca p .norm F.node (Kv U) (Kv t2) .nil .nil,by rw[E];simp[yE,DF,show AK.node.ok F=zW from C,I,c3],(old_ A6).1,_,⟨cb,_,_,rfl,.inr ⟨zO,b9.lt⟩,?_,rfl,rfl,rfl,rfl⟩,rfl⟩;rw[D]at b9;show L_ _ _ _ [_,_,noV F.node,_,_,_,_];rw[Y];exact b9};refine Av.ff (e2.trans (b_ h)) ?_;repeat (refine Ah.run ?_)
 (conv=>whnf);by_cases h:vV w=3;{have D:w=LO.del.s:=Pm R h;obtain⟨F,U,u0,u1,rfl,rfl⟩:=nG Q J (by rw[hn,D];decide);rw[D,Uw]at E;refine Av.tt (e3.trans (a_ h)) ?_;refine Ab.ag (N4 A0 rfl rfl) (λh=>by rw[E];simp[yE,DF,AK.ok,h]) (old_ A0).1 ?_;rintro _ G3 ⟨C,rfl,A1⟩;refine E_ ?_;refine A1.st1 zZ (Rv _) λG4 A2=>?_;refine Ab.ag (N5 A2 rfl rfl) (λh=>by rw[E];simp[yE,DF,show AK.node.ok F=zW from C,h]) (old_ A2).1 ?_;rintro _ G5 ⟨I,rfl,A3⟩;refine E_ ?_;refine A3.st1 zZ rfl λG6 A4=>?_;(conv=>whnf);exact L .del F.node .nil .nil .nil D A4 (by rw[E];simp[yE,DF,show AK.node.ok F=zW from C,I]) rfl rfl rfl rfl rfl rfl};refine Av.ff (e3.trans (b_ h)) ?_;repeat (refine Ah.run ?_)
 (conv=>whnf);by_cases h:vV w=4;{have D:w=LO.ins.s:=Pm R h;obtain⟨F,u0,rfl,rfl⟩:=nC Q J (by rw[hn,D];decide);rw[D,Ux]at E;refine Av.tt (e4.trans (a_ h)) ?_;refine Ab.ag (N5 A0 rfl rfl) (λh=>by rw[E];simp[yE,DF,h]) (old_ A0).1 ?_;rintro _ G3 ⟨C,rfl,A1⟩;refine E_ ?_;refine A1.st1 zZ rfl λG4 A2=>?_;(conv=>whnf);exact L .ins zV .nil .nil .nil D A2 (by rw[E];simp[yE,DF,C]) rfl rfl rfl rfl rfl rfl};refine Av.ff (e4.trans (b_ h)) ?_;repeat (refine Ah.run ?_)
 (conv=>whnf);by_cases h:vV w=5;{have D:w=LO.copy.s:=Pm R h;obtain⟨F,u0,rfl,rfl⟩:=nC Q J (by rw[hn,D];decide);rw[D,QJ]at E;refine Av.tt (e5.trans (a_ h)) ?_;refine Ab.ag (N4 A0 rfl rfl) (λh=>by rw[E];simp[yE,DF,AK.ok,h]) (old_ A0).1 ?_;rintro _ G3 ⟨C,rfl,A1⟩;refine E_ ?_;refine A1.st1 zZ (Rv _) λG4 A2=>?_;(conv=>whnf);exact L .copy F.node .nil .nil .nil D A2 (by rw[E];simp[yE,DF,show AK.node.ok F=zW from C]) rfl rfl rfl rfl rfl rfl};refine Av.ff (e5.trans (b_ h)) ?_;repeat (refine Ah.run ?_)
 (conv=>whnf);by_cases h:vV w=6;{have D:w=LO.key.s:=Pm R h;obtain⟨F,u0,rfl,rfl⟩:=nC Q J (by rw[hn,D];decide);rw[D,Uy]at E;refine Av.tt (e6.trans (a_ h)) ?_;refine Ab.ag (N4 A0 rfl rfl) (λh=>by rw[E];simp[yE,DF,AK.ok,h]) (old_ A0).1 ?_;rintro _ G3 ⟨C,rfl,A1⟩;refine E_ ?_;refine A1.st1 zZ (Rv _) λG4 A2=>?_;(conv=>whnf);exact L .key F.node .nil .nil .nil D A2 (by rw[E];simp[yE,DF,show AK.node.ok F=zW from C]) rfl rfl rfl rfl rfl rfl};refine Av.ff (e6.trans (b_ h)) ?_;repeat (refine Ah.run ?_)
 (conv=>whnf);by_cases h:vV w=7;{have D:w=LO.left.s:=Pm R h;obtain⟨F,U,u0,u1,rfl,rfl⟩:=nG Q J (by rw[hn,D];decide);rw[D,QL]at E;refine Av.tt (e7.trans (a_ h)) ?_;refine Ab.ag (VK A0 rfl rfl) (λh=>by rw[E];simp[yE,DF,h]) (old_ A0).1 ?_;rintro v0 G3 ⟨C,P,A1⟩;obtain⟨z0,rfl⟩:=P.ptr;refine E_ ?_;refine A1.st1 zZ rfl λG4 A2=>?_;refine Ab.ag (Uh A2 rfl rfl) (λh=>by rw[E];simp[yE,DF,C,h]) (old_ A2).1 ?_;rintro v1 G5 ⟨I,a0,A3⟩;obtain⟨z1,rfl⟩:=a0.ptr;refine E_ ?_;refine A3.st1 zZ rfl λG6 A4=>?_;(conv=>whnf);exact L .left zV F U .nil D A4 (by rw[E];simp[yE,DF,C,I]) (oH C) (lI I) rfl (V A0 A4 P) (V A2 A4 a0) rfl};refine Av.ff (e7.trans (b_ h)) ?_;repeat (refine Ah.run ?_)
 (conv=>whnf);by_cases h:vV w=8;{have D:w=LO.right.s:=Pm R h;obtain⟨F,U,u0,u1,rfl,rfl⟩:=nG Q J (by rw[hn,D];decide);rw[D,NC]at E;refine Av.tt (e8.trans (a_ h)) ?_;refine Ab.ag (Uh A0 rfl rfl) (λh=>by rw[E];simp[yE,DF,h]) (old_ A0).1 ?_;rintro v0 G3 ⟨C,P,A1⟩;obtain⟨z0,rfl⟩:=P.ptr;refine E_ ?_;refine A1.st1 zZ rfl λG4 A2=>?_;refine Ab.ag (VK A2 rfl rfl) (λh=>by rw[E];simp[yE,DF,C,h]) (old_ A2).1 ?_;rintro v1 G5 ⟨I,a0,A3⟩;obtain⟨z1,rfl⟩:=a0.ptr;refine E_ ?_;refine A3.st1 zZ rfl λG6 A4=>?_;(conv=>whnf);exact L .right zV U F .nil D A4 (by rw[E];simp[yE,DF,C,I]) (oH I) (lI C) rfl (V A2 A4 a0) (V A0 A4 P) rfl};refine Av.ff (e8.trans (b_ h)) ?_;repeat (refine Ah.run ?_)
 (conv=>whnf);by_cases h:vV w=9;{have D:w=LO.default_.s:=Pm R h;obtain⟨F,U,u0,u1,rfl,rfl⟩:=nG Q J (by rw[hn,D];decide);rw[D,It]at E;refine Av.tt (e9.trans (a_ h)) ?_;refine Ab.ag (Uh A0 rfl rfl) (λh=>by rw[E];simp[yE,DF,h]) (old_ A0).1 ?_;rintro v0 G3 ⟨C,P,A1⟩;obtain⟨z0,rfl⟩:=P.ptr;refine E_ ?_;refine A1.st1 zZ rfl λG4 A2=>?_;refine Ab.ag (N5 A2 rfl rfl) (λh=>by rw[E];simp[yE,DF,C,h]) (old_ A2).1 ?_;rintro _ G5 ⟨I,rfl,A3⟩;refine E_ ?_;refine A3.st1 zZ rfl λG6 A4=>?_;(conv=>whnf);exact L .default_ zV .nil F .nil D A4 (by rw[E];simp[yE,DF,C,I]) rfl (lI C) rfl rfl (V A0 A4 P) rfl};exact absurd (AkG w) zO;(all_goals obtain⟨F,u0,rfl,rfl⟩:=nC Q J (by rw[hn,D];decide);have⟨op,D,E⟩:=b6;refine A7.held (λk=>k=q) [] (sq [0,1,2,3,4] (.f 5 (sq [6] (.f 7 (sq [8,9] .e))))) (AG _ _) rfl zX ?_;(repeat ((conv=>whnf);first | refine E_ ?_ | refine C_ (K.cellE rfl) rfl ?_));refine Ab.ag (N4 A0 rfl rfl) (λh=>by rw[E];simp[yE,DF,AK.ok,h]) (old_ A0).1 ?_;rintro v3 G3 ⟨C,W,A1⟩;have⟨T1,x1,Y⟩:=iG C;rw[Y]at W;subst W;have o9:=old_ A1;refine⟨o9.2.2,?_⟩;refine Ad underlying191 rfl _ rfl [B_ p,.string w,.iface T1 x1,.string nx,.string nx,.pointer zV,.pointer zV] zX (BF [B_ p,.string w,.iface T1 x1,.string nx,.string nx,.pointer zV,.pointer zV] rfl ?_);intro cb G4 ab b7 Z ad;have a5:=ad.new ab;have z3:=A1.size;refine⟨o9.2.2.trans (a5.mono λk d=>by rw[d];have:=K.lt;have:=A0.size;have:=O.lt;unfold F_;omega),?_⟩;(conv=>whnf);rw[D,<-Y]at Z;exact⟨.ca p op F.node nx nx .nil .nil,by rw[E];simp[yE,DF,show AK.node.ok F=zW from C],o9.1.trans (a5.mono λk d=>Ak o9.1 d),_,⟨cb,_,_,rfl,.inr ⟨zO,Z.lt⟩,Z,rfl,rfl,rfl,rfl⟩,rfl⟩)
def MC(t:ByteArray)(f:AF):Prop:= -1<=f.place/\f.place<=(t.size:Int)
structure AcG(t:ByteArray)(s:RdS):Prop where
 f:MC t s.f
 fs:∀g∈s.fs,MC t g
def mU(t:ByteArray)(c:Nat)(p:Int):Prop:=c≠0/\c<=30/\ -1<=p/\p<=(t.size:Int)+10
def Qz(t:ByteArray):Sum (Nat×Int) ReM->Prop | .inl (c,p)=>mU t c p | .inr r=>r.nodes<=2000
def AkA{m i:Nat}{e:Nat×Nat}(h:uD t m i= .inl e):e.1=20/\e.2<=i+1:=by unfold uD at h;split at h;{split at h;{cases h};split at h;{cases h};cases h;exact⟨rfl,I_ _⟩};cases h
def AdH{m i:Nat}{n:Int}{e:Nat×Nat}(h:NI t p m n i= .inl e):(e.1=20/\e.2=i)\/(e.1=22/\e.2=p):=by unfold NI at h;split at h;{split at h;{cases h;exact .inr ⟨rfl,rfl⟩};cases h};cases h;exact .inl ⟨rfl,rfl⟩
def Ut{i:Nat}{e:Nat×Nat}(h:DB t i= .inl e):e.1≠0/\e.1<=30/\e.2<=i+10:=by unfold DB at h;split at h;{obtain⟨a1,a2,-⟩:=Gb (t:=t) 3 (i+1) 0;generalize Eb t 3 (i+1) 0=q at*;split at h;{rename_i e2 a;cases h;have:=AkA a;refine⟨?_,?_,?_⟩<;>omega};rename_i g b a;have c:b<=i+9:=by{unfold uD at a;split at a;{split at a;{cases a;omega};split at a;{obtain⟨j,k,-⟩:=Gb (t:=t) 3 (q.2+1) 0;cases a;omega};cases a};cases a;omega};rcases AdH h with⟨d,f⟩ | ⟨d,f⟩;{refine⟨?_,?_,?_⟩<;>omega};refine⟨?_,?_,?_⟩<;>omega};cases h;exact⟨show(20:Nat)≠0 by decide,show(20:Nat)<=30 by decide,show i+1<=i+10 by omega⟩
def cN{s:RdS}{e:Nat×Nat}(b:s.i<t.size)(h:Ci t s= .inl e):e.1≠0/\e.1<=30/\e.2<=t.size+10:=by have k:∀c:Nat,c≠0->c<=30->c≠0/\c<=30/\s.i<=t.size+10:=λc d f=>⟨d,f,zO⟩;unfold Ci at h;split at h;{split at h;{cases h;exact k 20 zQ zQ};split at h;{rename_i e2 a;cases h;unfold GW at a;split at a;{cases a};split at a;{cases a};split at a;{cases a};have:=Ut a;exact⟨this.1,this.2.1,zO⟩};cases h};split at h;{cases h};split at h;{cases h};split at h;{split at h;{cases h;exact k 20 zQ zQ};cases h};split at h;{split at h;{cases h;exact k 23 zQ zQ};cases h};split at h;{rename_i e2 g;cases h;have:=O1 g b;exact⟨show(10:Nat)≠0 by decide,show(10:Nat)<=30 by decide,by show e2<=_;omega⟩};cases h
def PN(h:MC t f):MC t (AU f):=by unfold MC;rw[(Gh f).2.2.2];exact h
def Af7(h:MC t f):MC t (CZ f):=by unfold MC;rw[(Dr f).2.1];exact h
def cK(h:MC t f):MC t (CV f):=by unfold MC;rw[(F4 f).2.1];exact h
def cO{s c:RdS}(e:s.i<t.size)(hs:AcG t s)(h:Ci t s= .inr c):AcG t c:=by unfold Ci at h;split at h;{split at h;{cases h};split at h;{cases h};cases h;exact⟨hs.f,hs.fs⟩};split at h;{cases h;exact⟨cK hs.f,hs.fs⟩};split at h;{cases h;exact⟨Af7 hs.f,hs.fs⟩};split at h;{split at h;{cases h};rename_i g r a;cases h;have:=hs.fs;rw[a]at this;exact⟨this g yN,λx d=>this x (yD _ d)⟩};split at h;{split at h;{cases h};cases h;refine⟨⟨by show(-1:Int)<=(s.i:Int);omega,by show(s.i:Int)<=_;omega⟩,λg b=>?_⟩;rcases J'.1 b with rfl | b;{exact PN hs.f};exact hs.fs g b};split at h;{cases h};cases h;exact⟨PN hs.f,hs.fs⟩
def WC{s:RdS}(hs:AcG t s):Qz t (qP s):=by unfold qP;split;{show Qz t (if _ then _ else _);split;{exact⟨zQ,zQ,zQ,zO⟩};rename_i h;show ReM.nodes _<=2000;omega};have:=hs.f;unfold MC at this;exact⟨zQ,zQ,this.1,zO⟩
def Ti{t:ByteArray}:∀(n:Nat) (s:RdS),AcG t s->Qz t (GX t n s)
 | 0,s,h=>WC h
 | n+1,s,h=>by
   unfold GX;by_cases a:s.i<t.size
   ·rw[H_ a];cases b:Ci t s with
    | inl e=>
      have:=cN a b;exact⟨this.1,this.2.1,by show(-1:Int)<=(e.2:Int);omega,by show(e.2:Int)<=_;omega⟩
    | inr c=>exact Ti n c (cO a h b)
   ·rw[G_ a];exact WC h
def LE(t:ByteArray):Qz t (GD t):=by unfold GD;split;{exact⟨zQ,zQ,zQ,zO⟩};exact Ti _ _ ⟨⟨zQ,by show(-1:Int)<=_;omega⟩,λg a=>by cases a⟩
def wY(c:Nat)(p:Int):List v_:=[B_ c,B_ p,.string ⟨#[]⟩]
def Kc(c:Nat)(p:Int):List Lit:=[.int .i64 (c:Int),.int .i64 p,.string []]
def Wg{p:Int}(b:c<9223372036854775808)(d:zC .i64 p):prog.keyLits 3 24 (wY c p)=zY (Kc c p):=by have e:prog.cellsOf 24=3:=zX;have f:prog.cellsOf 22=1:=zX;have g:prog.cellsOf 3=1:=zX;have h:prog.cellsOf 9=1:=zX;have a:(⟨#[]⟩:ByteArray).size<=maxLen:=V_ _;simp[Program.keyLits,underlying24,underlying22,underlying3,underlying9,e,f,g,h,wY,Kc,a,Fe (CF b),Fe d]
def UF{c':Nat}{p:Int}:zT (c=c'/\p=p')=zW↔Kc c p=Kc c' p':=by unfold Kc;rw[yL];constructor;{rintro⟨rfl,rfl⟩;rfl};intro h;simp only[List.cons.injEq,Lit.int.injEq,true_and,and_true]at h;exact⟨zO,zO⟩
end Go.Proofs.YtjbnocjgdmnkoaaGreatDoor
