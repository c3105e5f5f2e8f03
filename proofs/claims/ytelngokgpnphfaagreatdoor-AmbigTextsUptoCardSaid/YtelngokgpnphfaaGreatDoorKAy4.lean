import Derived.Test.YtelngokgpnphfaaGreatDoorKAy3
import Derived.Shelf.Strconv.AppendIntPublic10
set_option maxHeartbeats 0
open BitVec renaming allOnes -> ApW
open Bool renaming noConfusion -> Aq5
open Int renaming ofNat -> AqD
open List renaming replicate -> An8, range -> AqW
open Nat renaming cast -> Aq7
open Option renaming some -> ApC
set_option maxRecDepth 100000
open Go.Proofs.Tryz
open Go renaming Value -> v_, Program -> w_, TypeId -> x_, Operand -> z_, World -> y_
open Option renaming some -> zY, none -> zV
open Bool renaming true -> zW, false -> zU
open Decidable renaming decide -> zT
set_option linter.unusedVariables false
set_option linter.unusedSimpArgs false
set_option linter.defProp false
namespace Go.Proofs.YtelngokgpnphfaaGreatDoor
variable{xs al:List Bool}{i L b k j c:Nat}{x:Bool}{S B:Nat->Prop}{H H0:Aa}{ps:List Pc}{m U:Nat->Nat->Option Nat}{R:Nat->Nat->List Bool}{K:Aa->Prop}{ns:List h_}{l:List Nat}{a r:ReM}{v cv nv fv av:v_}{P:w_}{te e:x_}{d:h_}{na:Option Addr}{f:AF}{t:ByteArray}{td os:List Int}{fs:List AF}{s:RdS}{q p:Int}{ss:Nat->I9}{vs:List v_}{bk I:List (List Int)}
open Go.Lib
def wS(xs ys:List Bool)(k:Nat):List Bool:=(List.zipWith (·|| ·) (xs.take k) (ys.take k))++xs.drop k
section
variable{ys:List Bool}
def YT(h:ys.length=xs.length)(a:k<=xs.length):(wS xs ys k).length=xs.length:=by unfold wS;simp[h];omega
def AiK(h:ys.length=xs.length)(a:xs[k]?=zY x):(wS xs ys k)[k]?=zY x:=by have b:=(T_.1 a).1;unfold wS;rw[zL (by simp[h];omega)];simp[h];rw[(zO:min k xs.length=k),wZ,Nat.add_zero];exact a
def aT{y:Bool}(h:ys.length=xs.length)(a:xs[k]?=zY x)(b:ys[k]?=zY y):(wS xs ys k).set k (x|| y)=wS xs ys (k+1):=by
 have c:=(T_.1 a).1;have d:xs.drop k=x::xs.drop (k+1):=by rw[fS c,(T_.1 a).2]
 have e2:xs.take (k+1)=xs.take k++[x]:=by rw[sS,a];rfl
 have e:ys.take (k+1)=ys.take k++[y]:=by rw[sS,b];rfl
 unfold wS;rw[d,e2,e,List.zipWith_append (by simp[h])];rw[tD _ _ (by simp[h];omega)];simp[h];rw[(zO:k-min k xs.length=0)];rfl
end
def jY{kb ob s n:Nat}{ys:List Bool}{p:Pc}(t:B_ B H0 H ps)(g:ps[k]?=zY (pS Ay 4 (N_ ob) n n xs))(h:ps[kb]?=zY p)(i:k≠kb)(C:∀H',p.ok H'->S_ H' s 4 (ys.map Value.bool)) (l:ys.length=xs.length) (L:n<=4194304):Ai prog 67 #[.slice (N_ ob) n n,.slice (N_ s) n n] H (λ_ H'=>B_ B H0 H' (ps.set k (pS Ay 4 (N_ ob) n n (wS xs ys xs.length)))):=by
 have M:=t.len k g;refine Ai.of_vc func67 rfl (call67 _) ?_;(conv=>whnf);refine A0.mk [4] (λj:Nat=>[A_ j]) (λj G=>j<=xs.length/\B_ B H0 G (ps.set k (pS Ay 4 (N_ ob) n n (wS xs ys j)))) (λj _=>xs.length-j) ?_ ?_;{(conv=>whnf);refine⟨0,rfl,p_ _,?_⟩;have e:wS xs ys 0=xs:=rfl;rw[e,CI g];exact t};rintro j G u ⟨D,a⟩;have c:(ps.set k (pS Ay 4 (N_ ob) n n (wS xs ys j)))[k]?=zY (pS Ay 4 (N_ ob) n n (wS xs ys j)):=JE g;have f:(ps.set k (pS Ay 4 (N_ ob) n n (wS xs ys j)))[kb]?=zY p:=by rw[yX i];exact h
 refine AB.m2 (λm=>?_) (λm=>?_);{have d:j<xs.length:=zO;obtain⟨x,w⟩:∃x,xs[j]?=zY x:=⟨_,zJ d⟩;obtain⟨y,A⟩:∃y,ys[j]?=zY y:=⟨_,zJ zO⟩;have E:=YT l D;have fin:∀z:Bool,z=(x|| y)->∀K:Aa->Prop,(∀G',B_ B H0 G' (ps.set k (pS Ay 4 (N_ ob) n n (wS xs ys (j+1))))->K G')->Co prog (Instr.storeAt 4 (.pointer (zY ⟨ob,j*Ay.size,zV⟩)) (.bool z)) G K:=λz m K F=>by{refine LB (T:=Ay) (j:=j) (x:=z) a k zE c rfl (zI _) zO rfl (λ_ _=>rfl) λG' b=>F G' ?_;rw[List.set_set,m,aT l w A]at b;exact b};(conv=>whnf);(try refine A7.run ?_);refine zK (j:=j) (x:=x) Ci a k c (AiK l w) rfl λN O I J o q=>?_;obtain rfl:=q;refine lT zE o.one ?_;cases x;(case' true=>refine xT (T:=Ay) (j:=j) Ci a k c zO rfl (fin zW rfl _ λG' b=>?_));(case' false=>have r:=C G (a.at_ kb f);refine ix Ci zO zO ?_;refine C_ (v:=.bool y) zE (by rw[r.cell,O',zI,K_,Y',A];rfl) zA ?_;refine xT (T:=Ay) (j:=j) Ci a k c zO rfl (fin y zZ _ λG' b=>?_));all_goals (conv=>whnf);rw[R_ j zO];exact⟨rfl,j+1,rfl,⟨d,b⟩,zO⟩};obtain rfl:j=xs.length:=zO;(conv=>whnf);exact a
def T8(m:Nat->Option Nat)(L:Nat):List v_:=(AqW (L+1)).map λi=>match m i with | none=>.slice zV 0 0 | some rb=>.slice (N_ rb) (L+1) (L+1)
structure Iv(mb:Nat)(nbs:List Nat)(L:Nat)(m:Nat->Nat->Option Nat)(R:Nat->Nat->List Bool)(H:Aa):Prop where
 top:S_ H mb 158 (nbs.map λnb=>.slice (N_ nb) (L+1) (L+1))
 rows:∀(j nb:Nat),nbs[j]?=zY nb->S_ H nb 41 (T8 (m j) L)
 cont:∀(j i rb:Nat),m j i=zY rb->S_ H rb 4 ((R j i).map Value.bool)
 nd:nbs.Nodup
 ntop:mb∉nbs
 nrow:∀(j i rb:Nat),m j i=zY rb->rb≠mb/\rb∉nbs
 dom:∀(j i rb:Nat),m j i=zY rb->j<nbs.length/\i<=L
def F6(mb:Nat)(nbs:List Nat)(L:Nat)(m:Nat->Nat->Option Nat)(R:Nat->Nat->List Bool):Pc where
 foot k:=k=mb\/k∈nbs\/∃j i,m j i=zY k
 ok H:=Iv mb nbs L m R H
 fr h hp:=⟨hp.top.agr h (.inl rfl),λj nb hj=>(hp.rows j nb hj).agr h (.inr (.inl (d_ hj))),λj i rb hm=>(hp.cont j i rb hm).agr h (.inr (.inr ⟨j,i,hm⟩)),hp.nd,hp.ntop,hp.nrow,hp.dom⟩
def Kx{m:Nat->Option Nat}(a:i<=L):(T8 m L)[i]?=zY (match m i with | none=>.slice zV 0 0 | some rb=>.slice (N_ rb) (L+1) (L+1)):=by unfold T8;rw[Y',wJ zO];rfl
def Ky(m:Nat->Option Nat)(L:Nat):(T8 m L).length=L+1:=by unfold T8;simp
def L9(m:Nat->Nat->Option Nat)(j i rb:Nat):Nat->Nat->Option Nat:=λj' i'=>if j'=j/\i'=i then zY rb else m j' i'
def aM(d:i<=L):(T8 (m j) L).set i (.slice (N_ b) (L+1) (L+1))=T8 (L9 m j i b j) L:=by apply yP;intro x;by_cases c:x<=L;{rw[Kx c];by_cases a:x=i;{subst a;rw[yQ (by rw[Ky];omega)];unfold L9;simp};rw[yX zO,Kx c];unfold L9;simp[a]};rw[zC (by rw[yT,Ky];omega),zC (by rw[Ky];omega)]
def Aj0{n:Nat}(i:B_ B H0 H ps)(j:ps[k]?=zY (pS Ay 4 (N_ L) n n xs)):S_ H L 4 (xs.map Value.bool):=by have w:=i.len k j;obtain⟨a,⟨y,d⟩,o⟩:=(i.at_ k j).1;have f:∀(xs:List Bool) (a:List v_),Ay.reps none_ H a xs->a=xs.map Value.bool:=by{intro xs;induction xs with|nil=>intro a h;exact h|cons x xs p=>rintro a ⟨c,r,rfl,q,s⟩;rw[show c=[Value.bool x]from q,p r s];rfl};rcases d with⟨d,z⟩ | ⟨b,m,l,d,A,t,C,D,u,v⟩;{cases d};cases d;have e:l=a:=by{have g:l.length=xs.length:=by{rw[u];show _*1=_;omega};rw[<-v,uJ (by rw[g];show _<=_*1;omega)]};rw[<-f xs a o,<-e];exact t
def AmR{mb nb ob:Nat}{nbs:List Nat}
  (y:B_ B H0 H (F6 mb nbs L m R::(ps++[pS Ay 4 (N_ ob) (L+1) (L+1) xs]))) (D:nbs[j]?=zY nb) (U:i<=L) (W:R j i=xs)
  (k:∀H',B_ B H0 H' (F6 mb nbs L (L9 m j i ob) R::ps)->K H'):Co prog (Instr.storeAt 41 (.pointer (zY ⟨nb,i,zV⟩)) (.slice (N_ ob) (L+1) (L+1))) H K:=by have d:Iv mb nbs L m R H:=y.at_ 0 rfl;have f:(F6 mb nbs L m R::(ps++[pS Ay 4 (N_ ob) (L+1) (L+1) xs]))[(F6 mb nbs L m R::ps).length+0]?=zY (pS Ay 4 (N_ ob) (L+1) (L+1) xs):=X_ (F6 mb nbs L m R::ps) [pS Ay 4 (N_ ob) (L+1) (L+1) xs] 0;have O:=Aj0 y f;have n:(pS Ay 4 (N_ ob) (L+1) (L+1) xs).foot ob:=.inl ⟨0,L+1,L+1,rfl⟩;have E:=y.apart2 (i:=0) (j:=(F6 mb nbs L m R::ps).length+0) rfl f zZ;have o:¬(F6 mb nbs L m R).foot ob:=λh=>E ob h n;have q:nb∈nbs:=d_ D;have F:=d.rows j nb D;have P:=(T_.1 D).1;refine uU FX F (by rw[Ky];omega) rfl ?_;intro H' G r X;have I:∀b,b≠nb->H'[b]?=H[b]? :=λb a=>r b a;have Q:mb≠nb:=λe=>d.ntop (e ▸ q);have J:ob≠nb:=λe=>o (.inr (.inl (e ▸ q)));have M:Iv mb nbs L (L9 m j i ob) R H':=by{refine⟨d.top.agr r Q,λg N s=>?_,λg t C c=>?_,d.nd,d.ntop,λg t C c=>?_,λg t C c=>?_⟩;{by_cases A:g=j;{subst A;rw[D]at s;cases s;rw[aM U]at G;exact G};{have S:N≠nb:=λe=>A ((List.getElem?_inj (T_.1 s).1 d.nd).1 (by rw[s,D,e]));have e:L9 m j i ob g=m g:=by{funext x;unfold L9;rw[I_ (λh=>A h.1)]};rw[e];exact(d.rows g N s).agr r S}};{unfold L9 at c;split at c;{rename_i h;cases c;rw[h.1,h.2,W];exact O.agr r J};{exact(d.cont g t C c).agr r (λe=>(d.nrow g t C c).2 (e ▸ q))}};{unfold L9 at c;split at c;{cases c;exact⟨λe=>o (.inl e),λh=>o (.inr (.inl h))⟩};{exact d.nrow g t C c}};{unfold L9 at c;split at c;{rename_i h;rw[h.1,h.2];exact⟨P,U⟩};{exact d.dom g t C c}}};refine k H' ?_;have u:B_ B H0 H (F6 mb nbs L m R::ps):=y.subl (List.Sublist.cons_cons _ (List.sublist_append_left _ _));have l:=y.rng _ xI;refine⟨λb a=>(I b λe=>(l nb (.inr (.inl q))).1 (e ▸ a)).trans (y.old b a),y.lt0,by have:=y.size;omega,λp v=>?_,λp v b a=>?_,?_⟩;{rcases zM.1 v with rfl | v;{exact M};{refine p.fr (H:=H) (λb a=>I b λe=>?_) (u.oks p (yH _ v));exact(vL.1 u.dis).1 p v nb (.inr (.inl q)) (e ▸ a)}};{have w:∀b,b<H.size->b<H'.size:=λb a=>zO;rcases zM.1 v with rfl | v;{rcases a with a | a | ⟨g,t,a⟩;{exact⟨(l b (.inl a)).1,w _ (l b (.inl a)).2⟩};{exact⟨(l b (.inr (.inl a))).1,w _ (l b (.inr (.inl a))).2⟩};{unfold L9 at a;split at a;{cases a;have:=y.in_ _ f n;exact⟨this.1,w _ this.2⟩};{exact⟨(l b (.inr (.inr ⟨g,t,a⟩))).1,w _ (l b (.inr (.inr ⟨g,t,a⟩))).2⟩}}};{have:=u.rng p (yH _ v) b a;exact⟨this.1,w _ this.2⟩}};{refine vL.2 ⟨λp v b a z=>?_,(vL.1 u.dis).2⟩;have hd0:=(vL.1 u.dis).1 p v;rcases a with a | a | ⟨g,t,a⟩;{exact hd0 b (.inl a) z};{exact hd0 b (.inr (.inl a)) z};{unfold L9 at a;split at a;{cases a;have⟨x,V⟩:=List.getElem?_of_mem v;have T:(F6 mb nbs L m R::(ps++[pS Ay 4 (N_ ob) (L+1) (L+1) xs]))[x+1]?=zY p:=by{show(ps++[_])[x]?=zY p;exact sD V};have Y:=(T_.1 V).1;exact y.apart2 (i:=x+1) (j:=(F6 mb nbs L m R::ps).length+0) T f (by simp only[b_];omega) ob z n};{exact hd0 b (.inr (.inr ⟨g,t,a⟩)) z}}}
def AO.inj:∀{r m:ReM} {i:Nat},AO ns r i->AO ns m i->r=m:=by
 have one:∀{i:Nat} {d d':h_},ns[i]?=zY d->ns[i]?=zY d'->d=d':=λh v=>ApC.inj (h.symm.trans v);intro r;induction r with|eps=>{rintro m i ⟨d,l,c⟩ h;cases m with|eps=>rfl|cls s=>obtain⟨d',f,g,-⟩:=h;rw[one l f,g]at c;cases c|star a=>obtain⟨d',j,f,g,-⟩:=h;rw[one l f,g]at c;cases c|_=>obtain⟨d',j,k,f,g,-⟩:=h;rw[one l f,g]at c;cases c}|cls s=>{rintro m i ⟨d,l,c,o⟩ h;cases m with|eps=>have⟨d',f,g⟩:=h;rw[one l f,g]at c;cases c|cls C=>have⟨d',f,g,p⟩:=h;rw[<-o,<-p,one l f]|star a=>obtain⟨d',j,f,g,-⟩:=h;rw[one l f,g]at c;cases c|_=>obtain⟨d',j,k,f,g,-⟩:=h;rw[one l f,g]at c;cases c}|star a w=>{rintro m i ⟨d,j,l,c,o,q⟩ h;cases m with|eps=>have⟨d',f,g⟩:=h;rw[one l f,g]at c;cases c|cls s=>obtain⟨d',f,g,-⟩:=h;rw[one l f,g]at c;cases c|star a'=>have⟨d',n,f,g,p,t⟩:=h;have e:=one l f;subst e;have:j=n:=zO;subst this;rw[w q t]|_=>obtain⟨d',n,u,f,g,-⟩:=h;rw[one l f,g]at c;cases c}|_ a b iha ihb=>{
 rintro m i ⟨d,j,k,l,c,o,q,x,y⟩ h;cases m with|eps=>have⟨d',f,g⟩:=h;rw[one l f,g]at c;cases c|cls s=>obtain⟨d',f,g,-⟩:=h;rw[one l f,g]at c;cases c|star a'=>obtain⟨d',n,f,g,-⟩:=h;rw[one l f,g]at c;cases c|_ a' b'=>{
 have⟨d',n,u,f,g,p,t,z,A⟩:=h;have e:=one l f;subst e
 first
  | (have B:j=n:=zO
     have e2:k=u:=zO
     subst B e2;rw[iha x z,ihb y A]
     done)
  | (rw[g]at c;cases c)}}
def HS{l:List Nat}:∀{r:ReM} {i j:Nat},Mt l r i j->i<=j/\(i<=l.length->j<=l.length)
 | .eps,i,j,h=>by rw[show i=j from h];exact⟨M_ _,λh=>h⟩
 | .cls s,i,j,⟨c,h1,_,h3⟩=>by have:=(T_.1 h1).1;omega
 | .cat a b,i,j,⟨k,h1,d⟩=>by have:=HS h1;have:=HS d;omega
 | .alt a b,i,j,h=>by
   rcases h with h | h
   ·exact HS h
   ·exact HS h
 | .star a,i,j,h=>by
   replace h:E9 (Mt l a) i j:=h
   induction h with
   | refl=>exact⟨M_ _,λh=>h⟩
   | step _ d e=>have:=HS d;omega
 | .and_ a b,i,j,h=>HS h.1
 | .minus a b,i,j,h=>HS h.1
noncomputable def BC(L:Nat)(P:Nat->Prop):List Bool:=(AqW (L+1)).map λx=> @zT (P x) (Classical.propDecidable _)
def Bq(L:Nat)(P:Nat->Prop):(BC L P).length=L+1:=by unfold BC;simp
def HH{x:Nat}(P:Nat->Prop)(h:x<=L):(BC L P)[x]?=zY (@zT (P x) (Classical.propDecidable _)):=by unfold BC;rw[Y',wJ zO];rfl
def Ng{P:Nat->Prop}(e:xs.length=L+1)(h:∀x b,x<=L->xs[x]?=zY b->(b=zW↔P x)):xs=BC L P:=by apply yP;intro x;by_cases c:x<=L;{obtain⟨b,d⟩:∃b,xs[x]?=zY b:=⟨_,zJ zO⟩;rw[HH P c,d];have:=h x b c d;by_cases a:P x;{rw[this.2 a,@r_ (P x) (Classical.propDecidable _) a]};rw[@n_ (P x) (Classical.propDecidable _) a];cases b with|true=>exact absurd (this.1 rfl) a|false=>rfl};rw[zC zO,zC (by rw[Bq];omega)]
def Ik{x:Nat}{P:Nat->Prop}{b:Bool}(a:x<=L)(h:(BC L P)[x]?=zY b):b=zW↔P x:=by rw[HH P a]at h;cases h;exact @decide_eq_true_iff (P x) (Classical.propDecidable _)
def BV{P Q:Nat->Prop}(h:∀x,x<=L->(P x↔Q x)):BC L P=BC L Q:=Ng (Bq L P) λx b a c=>(Ik a c).trans (h x a)
def dN(L:Nat):An8 (L+1) zU=BC L λ_=>False:=Ng zZ λx b c a=>by
 rw[wU,J_ zO]at a;cases a;simp
def Nh{P:Nat->Prop}{b:Bool}(f:k<=L):(BC L P).set k b=BC L λx=>if x=k then b=zW else P x:=Ng (by rw[yT,Bq]) λx c d a=>by
 by_cases e:x=k
 ·subst e;rw[yQ (by rw[Bq];omega)]at a;cases a;rw[J_ rfl]
 ·rw[yX (λh=>e h.symm)]at a;rw[I_ e];exact Ik d a
def Zb(P Q:Nat->Prop):wS (BC L P) (BC L Q) (L+1)=BC L λx=>P x\/Q x:=Ng (by rw[YT (by rw[Bq,Bq]) (by rw[Bq];omega),Bq]) λx b c a=>by
 unfold wS at a;rw[uJ (by rw[Bq];omega),uJ (by rw[Bq];omega),List.drop_eq_nil_of_le (by rw[Bq];omega),yU,List.getElem?_zipWith,HH P c,HH Q c]at a;simp only[ApC.injEq]at a;subst a;rw[vU,@decide_eq_true_iff (P x) (Classical.propDecidable _),@decide_eq_true_iff (Q x) (Classical.propDecidable _)]
noncomputable def Et(ns:List h_)(l:List Nat)(j i:Nat):List Bool:=BC l.length λx=>∃r,AO ns r j/\Mt l r i x
def KA(h:AO ns r j)(i:Nat):Et ns l j i=BC l.length λx=>Mt l r i x:=BV λx _=>⟨λ⟨c,b,a⟩=>by rw[h.inj b];exact a,λa=>⟨r,h,a⟩⟩
def UK(l:List Nat)(a b:ReM)(i k x:Nat):Prop:=∃j,j<k/\Mt l a i j/\Mt l b j x
def ZA(l:List Nat)(a b:ReM)(i:Nat):(BC l.length λ_=>False)=BC l.length (UK l a b i i):=BV λx _=>⟨λh=>h.elim,λ⟨j,d,c,_⟩=>by have:=(HS c).1;omega⟩
def Z8{b:ReM}(h:¬Mt l a i k):BC l.length (UK l a b i k)=BC l.length (UK l a b i (k+1)):=BV λx _=>
 ⟨λ⟨j,f,c,d⟩=>⟨j,zO,c,d⟩,λ⟨j,f,c,d⟩=>⟨j,by
  have:j≠k:=λe=>h (e ▸ c);omega,c,d⟩⟩
def Z9{b:ReM}(h:Mt l a i k):wS (BC l.length (UK l a b i k)) (BC l.length λx=>Mt l b k x) (l.length+1)=BC l.length (UK l a b i (k+1)):=by rw[Zb];refine BV λx _=>⟨λf=>?_,λ⟨j,g,d,c⟩=>?_⟩;{rcases f with⟨j,g,d,c⟩ | c;{exact⟨j,zO,d,c⟩};exact⟨k,zO,h,c⟩};by_cases e:j=k;{exact .inr (e ▸ c)};exact .inl ⟨j,zO,d,c⟩
def cZ{b:ReM}(e:i<=l.length):BC l.length (UK l a b i (l.length+1))=BC l.length λx=>Mt l (.cat a b) i x:=BV λx _=>⟨λ⟨j,_,c,d⟩=>⟨j,c,d⟩,λ⟨j,c,d⟩=>⟨j,by have:=(HS c).2 e;omega,c,d⟩⟩
def JU(l:List Nat)(a:ReM)(i k x:Nat):Prop:=x=i\/∃j,j<k/\E9 (Mt l a) i j/\Mt l a j x
def XC(b:i<=l.length):(BC l.length λ_=>False).set i zW=BC l.length (JU l a i i):=by rw[Nh b];refine BV λx _=>⟨λh=>?_,λh=>?_⟩;{split at h;{rename_i e;exact .inl e};exact h.elim};rcases h with h | ⟨j,d,c,_⟩;{rw[J_ h]};have:=(HS (r:=.star a) (l:=l) (i:=i) (j:=j) c).1;omega
def QL:JU l a i k k↔E9 (Mt l a) i k:=by constructor;{rintro(h | ⟨j,c,b,d⟩);{rw[h];exact .refl};exact .step b d};intro h;induction h with|refl=>exact .inl rfl|@step j k c b ih=>have:=(HS b).1;by_cases e:j=k;{exact e ▸ ih};exact .inr ⟨j,zO,c,b⟩
def XA(h:¬JU l a i k k):BC l.length (JU l a i k)=BC l.length (JU l a i (k+1)):=BV λx _=>by
 rw[QL]at h;constructor
 ·rintro(b | ⟨j,b,c,d⟩)
  ·exact .inl b
  ·exact .inr ⟨j,zO,c,d⟩
 ·rintro(b | ⟨j,b,c,d⟩)
  ·exact .inl b
  ·have:j≠k:=λe=>h (e ▸ c);exact .inr ⟨j,zO,c,d⟩
def XB(h:JU l a i k k):wS (BC l.length (JU l a i k)) (BC l.length λx=>Mt l a k x) (l.length+1)=BC l.length (JU l a i (k+1)):=by rw[Zb];rw[QL]at h;refine BV λx _=>⟨λd=>?_,λd=>?_⟩;{rcases d with(c | ⟨j,c,f,b⟩) | b;{exact .inl c};{exact .inr ⟨j,zO,f,b⟩};exact .inr ⟨k,zO,h,b⟩};rcases d with c | ⟨j,c,f,b⟩;{exact .inl (.inl c)};by_cases e:j=k;{exact .inr (e ▸ b)};exact .inl (.inr ⟨j,zO,f,b⟩)
def dT(c:i<=l.length):BC l.length (JU l a i (l.length+1))=BC l.length λx=>Mt l (.star a) i x:=BV λx _=>⟨λh=>by
  rcases h with h | ⟨j,_,b,d⟩
  ·rw[h];exact .refl
  ·exact .step b d,λh=>by
  have e:E9 (Mt l a) i x:=h;cases e with
  | refl=>exact .inl rfl
  | @step j _ h1 b=>exact .inr ⟨j,by have:=(HS (r:=.star a) (l:=l) (i:=i) (j:=j) h1).2 c;omega,h1,b⟩⟩
def PF(f:Bool->Bool->Bool)(xs ys:List Bool)(k x:Nat):Prop:=x<k/\∃a b,xs[x]?=zY a/\ys[x]?=zY b/\f a b=zW
def W1{f:Bool->Bool->Bool}{ys:List Bool}{a b:Bool}(j:k<=L)(g:xs[k]?=zY a)(i:ys[k]?=zY b):(BC L (PF f xs ys k)).set k (f a b)=BC L (PF f xs ys (k+1)):=by rw[Nh j];refine BV λx _=>?_;by_cases e:x=k;{subst e;rw[J_ rfl];exact⟨λh=>⟨zO,a,b,g,i,h⟩,λ⟨_,a',b',d,c,l⟩=>by rw[g]at d;rw[i]at c;cases d;cases c;exact l⟩};rw[I_ e];exact⟨λ⟨d,c⟩=>⟨zO,c⟩,λ⟨d,c⟩=>⟨zO,c⟩⟩
section
variable{b:ReM}
def W2(f:Bool->Bool->Bool)(e:f zU zU=zU):(BC l.length λ_=>False)=BC l.length (PF f (BC l.length λx=>Mt l a i x) (BC l.length λx=>Mt l b i x) i):=BV λx c=>⟨λh=>h.elim,λ⟨m,p,q,g,j,d⟩=>by
  have k:p=zU:=by
   cases p with
   | false=>rfl
   | true=>have:=(HS ((Ik c g).1 rfl)).1;omega
  have e2:q=zU:=by
   cases q with
   | false=>rfl
   | true=>have:=(HS ((Ik c j).1 rfl)).1;omega
  rw[k,e2,e]at d;cases d⟩
def Z4(f:Bool->Bool->Bool)(d:∀x p q,(p=zW↔Mt l a i x)->(q=zW↔Mt l b i x)->(f p q=zW↔Mt l r i x)):BC l.length (PF f (BC l.length λx=>Mt l a i x) (BC l.length λx=>Mt l b i x) (l.length+1))=BC l.length λx=>Mt l r i x:=BV λx c=>⟨λ⟨_,p,q,e,g,j⟩=>(d x p q (Ik c e) (Ik c g)).1 j,λh=>by
  refine⟨zO,_,_,HH _ c,HH _ c,(d x _ _ ?_ ?_).2 h⟩
  ·exact @decide_eq_true_iff _ (Classical.propDecidable _)
  ·exact @decide_eq_true_iff _ (Classical.propDecidable _)⟩
def cT:∀x p q,(p=zW↔Mt l a i x)->(q=zW↔Mt l b i x)->((p|| q)=zW↔Mt l (.alt a b) i x):=λx p q c d=>by
 rw[vU,c,d];exact Iff.rfl
def cU:∀x p q,(p=zW↔Mt l a i x)->(q=zW↔Mt l b i x)->((p&&q)=zW↔Mt l (.and_ a b) i x):=λx p q c d=>by
 rw[X',c,d];exact Iff.rfl
def W5:∀x p q,(p=zW↔Mt l a i x)->(q=zW↔Mt l b i x)->((p&& !q)=zW↔Mt l (.minus a b) i x):=λx p q c d=>by
 rw[X',c,vH,<-Bool.not_eq_true,d];exact Iff.rfl
end
def lW(a:i<=l.length):(BC l.length λ_=>False).set i zW=BC l.length λx=>Mt l .eps i x:=by rw[Nh a];refine BV λx _=>?_;show(if x=i then zW=zW else False)↔i=x;split;{rename_i e;simp[e]};rename_i e;simp;omega
def XW{s:BitVec 256}(h:∀c,l[i]?=zY c->s.getLsbD c=zU):(BC l.length λ_=>False)=BC l.length λx=>Mt l (.cls s) i x:=BV λx _=>⟨λh=>h.elim,λ⟨c,b,a,_⟩=>by rw[h c b]at a;cases a⟩
def bC{s:BitVec 256}(a:l[i]?=zY c)(h:s.getLsbD c=zW):(BC l.length λ_=>False).set (i+1) zW=BC l.length λx=>Mt l (.cls s) i x:=by have d:=(T_.1 a).1;rw[Nh zO];refine BV λx _=>?_;split;{rename_i e;exact⟨λ_=>⟨c,a,h,e⟩,λ_=>rfl⟩};rename_i e;exact⟨λh=>h.elim,λ⟨_,_,_,b⟩=>absurd b e⟩
def uY(na:Option Addr)(n nc:Nat)(Ao:Int)(s:ByteArray)(m:v_):List v_:=[.slice na n nc,A_ Ao,.string s,m]
def jC:(prog.info? 157).bind (·.zero)=zY (.agg (uY zV 0 0 0 (⟨#[]⟩) (.slice zV 0 0)).toArray):=zX
abbrev OK(nb L:Nat):v_:=.slice (N_ nb) (L+1) (L+1)
structure Rr(mb:Nat)(nbs:List Nat)(L N:Nat)(H:Aa):Prop where
 top:S_ H mb 158 (nbs.map (OK · L)++An8 (N-nbs.length) (.slice zV 0 0))
 rows:∀nb∈nbs,S_ H nb 41 (An8 (L+1) (.slice zV 0 0))
 nd:nbs.Nodup
 ntop:mb∉nbs
def qB(mb:Nat)(nbs:List Nat)(L N:Nat):Pc where
 foot k:=k=mb\/k∈nbs
 ok H:=Rr mb nbs L N H
 fr h hp:=⟨hp.top.agr h (.inl rfl),λnb hn=>(hp.rows nb hn).agr h (.inr hn),hp.nd,hp.ntop⟩
def Am6{nbs:List Nat}{N nb:Nat}(h:nbs.length<N):(nbs.map (OK · L)++An8 (N-nbs.length) (Value.slice zV 0 0)).set nbs.length (OK nb L)=(nbs++[nb]).map (OK · L)++An8 (N-(nbs++[nb]).length) (.slice zV 0 0):=by
 rw[tD _ _ zZ];obtain⟨d,a⟩:∃d,N-nbs.length=d+1:=⟨N-nbs.length-1,zO⟩;rw[a];have e:N-(nbs++[nb]).length=d:=by simp;omega
 rw[e];simp[fN]
def eT(L:Nat):T8 (λ_=>zV) L=An8 (L+1) (Value.slice zV 0 0):=by apply yP;intro x;by_cases a:x<=L;{rw[Kx a,wU,J_ zO]};rw[zC (by rw[Ky];omega),zC (by simp;omega)]
def Rr.done{mb N:Nat}{nbs:List Nat}(h:Rr mb nbs L N H)(c:nbs.length=N):Iv mb nbs L (λ_ _=>zV) R H:=by refine⟨?_,λj nb d=>?_,λj i b a=>(by cases a),h.nd,h.ntop,λj i b a=>(by cases a),λj i b a=>(by cases a)⟩;{have:=h.top;rw[c,wZ,List.replicate_zero,yU]at this;exact this};show S_ H nb _ (T8 (λ_=>zV) L);rw[eT];exact h.rows nb (d_ d)
def B_.mkRow{H1 H2:Aa}{mb nb N:Nat}{nbs:List Nat}(m:B_ B H0 H ps)(n:ps[k]?=zY (qB mb nbs L N))(r:nbs.length<N)(s:nb=H.size)(l:D_ (λb=>b<nb) H H1)
  (o:S_ H1 nb 41 (An8 (L+1) (.slice zV 0 0))) (f:S_ H2 mb 158 ((nbs.map (OK · L)++An8 (N-nbs.length) (Value.slice zV 0 0)).set nbs.length (OK nb L))) (g:∀b,b≠mb->H2[b]?=H1[b]?):B_ B H0 H2 (ps.set k (qB mb (nbs++[nb]) L N)):=by
 have d:Rr mb nbs L N H:=m.at_ k n;have t:=(m.in_ k n (k:=mb) (.inl rfl)).2;have i:∀b∈nbs,b<H.size:=λb c=>(m.in_ k n (k:=b) (.inr c)).2;have p:mb≠nb:=zO;have j:S_ H2 nb 41 (An8 (L+1) (.slice zV 0 0)):=o.agr (S:=λb=>b≠mb) (λb c=>g b c) (λe=>p e.symm);have q:H.size<=H2.size:=by have:=j.lt;omega
 refine m.upd k n (λb c=>(g b λe=>c.2 (.inl e)).trans (l b (by have:=c.1;omega))) _ ?_ (λb c=>?_) (λb c=>?_) q;{rw[Am6 r]at f;refine⟨f,λb c=>?_,?_,?_⟩;{rcases k_.1 c with c | c;{have u:b≠mb:=λe=>d.ntop (e ▸ c);have w:=i b c;exact((d.rows b c).agr l zO).agr (S:=λb=>b≠mb) (λb c=>g b c) u};{rw[V_]at c;subst c;exact j}};{refine qP.2 ⟨d.nd,List.nodup_cons.2 ⟨zZ,fQ⟩,λa v b c=>?_⟩;rw[V_]at c;subst c;have:=i a v;omega};{intro h;rcases k_.1 h with h | h;{exact d.ntop h};{rw[V_]at h;omega}}};{rcases c with c | c;{exact .inl (.inl c)};{rcases k_.1 c with c | c;{exact .inl (.inr c)};{rw[V_]at c;right;omega}}};{rcases c with c | c;{subst c;exact f.lt};{rcases k_.1 c with c | c;{have:=i b c;omega};{rw[V_]at c;subst c;exact j.lt}}}
def AmB{Ao:Int}{s:ByteArray}(R:Nat->Nat->List Bool)(hS:∀k,S k->k<H.size)(A:ReV S H v ns Ao)(hs:s.size<=4194303):
  Ai prog 37 #[v,.string s] H λr H'=>∃tb mb nbs na nc,r= U_ tb/\Y_ wD S H na nc ns/\nbs.length=ns.length/\
   St H H' [F6 mb nbs s.size (λ_ _=>zV) R,pB 157 tb (uY na ns.length nc Ao s (.slice (N_ mb) ns.length ns.length))]:=by
 have Q:ns.length<=4194304:=A.1;refine Ai.of_vc func37 rfl (call37 _) (iI A λna nc W X=>?_);intro B H1 C D u E;have F_:=(St.nil H).box C D u E;refine L_ (cs:=zR (.slice na ns.length nc) Ao) Dv (u.cells λj v A=>by rw[K_];exact A) zA ?_;refine Au underlying157 rfl _ jC (uY na ns.length nc Ao s (.slice zV 0 0)) rfl (BI (uY na ns.length nc Ao s (.slice zV 0 0)) rfl ?_);intro tb H2 F I J K;have p:=F_.box F I J K;refine G_ E2 ?_;refine lT (v:=.slice na ns.length nc) FB ((p.blk 0 rfl).ce rfl) ?_;refine DH VX rfl zO zO zO zO ?_;intro mb H3 L Y w M;rw[O']at w ⊢;have d:=p.add (H':=H3) (λk c=>M k (by rw[L];exact c)) (qB mb [] s.size ns.length) ⟨w,λ_ h=>(by cases h),fQ,(λh=>by cases h)⟩ λk c=>by
  rcases c with c | c
  ·rw[c];omega
  ·cases c
 replace d:St H H3 [pB 32 B (zR (.slice na ns.length nc) Ao),pB 157 tb (uY na ns.length nc Ao s (.slice zV 0 0)),qB mb [] s.size ns.length]:=d;refine G_ MC ?_;refine Bb d 1 US rfl (by show _<4;decide) rfl λH4 q=>?_;replace q:St H H4 [pB 32 B (zR (.slice na ns.length nc) Ao),pB 157 tb (uY na ns.length nc Ao s (.slice (N_ mb) ns.length ns.length)),qB mb [] s.size ns.length]:=q;clear F_ p d;(conv=>whnf);refine A0.mk [6] (λk:Nat=>[A_ k]) (λk G=>k<=ns.length/\∃nbs:List Nat,nbs.length=k/\St H G [pB 32 B (zR (.slice na ns.length nc) Ao),pB 157 tb (uY na ns.length nc Ao s (.slice (N_ mb) ns.length ns.length)),qB mb nbs s.size ns.length]) (λk _=>ns.length-k) ?_ ?_
 ·(conv=>whnf);exact⟨0,rfl,p_ _,[],rfl,q⟩
 ·rintro k G T ⟨c,nbs,g,m⟩;refine G_ E2 ?_;refine lT (v:=.slice na ns.length nc) FB ((m.blk 0 rfl).ce rfl) ?_;refine AB.m2 (λZ=>?_) (λZ=>?_)
  ·have a0:k<ns.length:=zO
   refine Ap.heldZ (H_ G) [10] (sq [0,1,2,3,4,5,6,7] (.f 8 (sq [9] (.f 10 .e)))) rfl zX (G_ MC ?_);refine C_ (v:=.slice (N_ mb) ns.length ns.length) US ((m.blk 1 rfl).ce rfl) (m.blk 1 rfl).lt ?_;(conv=>whnf);rw[W_ (x:=(s.size:Int)+1) zO];refine DH Zf rfl zO zO zO zO ?_;intro nb G1 N U n a;rw[show((s.size:Int)+1).toNat=s.size+1 by omega]at n ⊢;refine⟨λk c=>a k (by rw[N];exact c),?_⟩;refine uK VX zO zO ?_;have O:Rr mb nbs s.size ns.length G:=m.at_ 2 rfl;have P:=(m.in_ 2 rfl (k:=mb) (.inl rfl)).2;(conv=>whnf);rw[(zO:0+(k:Int).toNat*1=k)];refine uU (o:=k) (v:=OK nb s.size) Yb (O.top.agr a (by rw[N];exact P)) (by simp;omega) rfl ?_;intro G2 y z V;have t:=B_.mkRow m (k:=2) (H2:=G2) rfl zO N a n (Eq.mp (by rw[g]) y) (λb l=>z b l);(conv=>whnf);rw[R_ k zO];exact⟨rfl,k+1,rfl,⟨zO,nbs++[nb],by simp[g],t⟩,zO⟩
  ·obtain rfl:k=ns.length:=zO
   (conv=>whnf);refine⟨tb,mb,nbs,na,nc,rfl,X,g,?_⟩;have t:=m.say 2 rfl (F6 mb nbs s.size (λ_ _=>zV) R) (Rr.done (m.at_ 2 rfl) g) (λb l=>by
    rcases l with l | l | ⟨j,i,l⟩
    ·exact .inl l
    ·exact .inr l
    ·cases l)
   exact t.pick [2,1] zQ
def pZ{t:x_}{x y:z_}{a:Option Addr}{n m:Nat}{K:v_->Prop}(h:P.underlying t=zY (.slice e))(k:K (.bool (!a.isNone))):AH P (do eqGuard .neq t x y (.slice a n m) (.slice zV 0 0);binOp .neq t (.slice a n m) (.slice zV 0 0)) S H K:=by refine AH.mk _ (λw _=>?_) k;have b:∀d:Nat,(Op.equalIn (d+1) t (.slice a n m) (.slice zV 0 0)).run P w= .ok a.isNone w:=λd=>by{cases a<;>simp[Op.equalIn,run_underlying h]};have:(Op.equal t (.slice a n m) (.slice zV 0 0)).run P w= .ok a.isNone w:=b 9999;simp[eqGuard,binOp,this]
def PE{S:Nat->Prop}{H:Aa}:∀xs:List Bool,Ay.reps S H (xs.map Value.bool) xs | []=>rfl | x::xs=>⟨[.bool x],xs.map Value.bool,rfl,rfl,PE xs⟩
def lg2{α:Type}(a:α)(ps:List α)(b c:α):(a::ps++[b]++[c])[ps.length+2]?=zY c:=by rw[(zZ:ps.length+2=(a::ps++[b]).length)];exact Gh _ _
def ls2{α:Type}(a:α)(ps:List α)(b c d:α):(a::ps++[b]++[c]).set (ps.length+2) d=a::(ps++[b,d]):=by rw[(zZ:ps.length+2=(a::ps++[b]).length),T4];simp
def HR(m m':Nat->Nat->Option Nat):Prop:=∀a b c,m a b=zY c->m' a b=zY c
def HR.refl(m:Nat->Nat->Option Nat):HR m m:=λ_ _ _ h=>h
def HR.trans{d e:Nat->Nat->Option Nat}(h:HR m d)(g:HR d e):HR m e:=λa b c k=>g a b c (h a b c k)
def HR.put{d:Nat->Nat->Option Nat}{f:Nat}(h:HR m d)(g:m j i=zV):HR m (L9 d j i f):=λa b c k=>by
 unfold L9;split
 ·rename_i e;rw[e.1,e.2,g]at k;cases k
 ·exact h a b c k
def Ag7(B:Nat->Prop)(H0:Aa)(mb:Nat)(nbs:List Nat)(L:Nat)(R:Nat->Nat->List Bool)(m:Nat->Nat->Option Nat)(ps:List Pc)(j i:Nat)(v:v_)(H':Aa):Prop:=∃m' rb,v=OK rb L/\m' j i=zY rb/\HR m m'/\B_ B H0 H' (F6 mb nbs L m' R::ps)
def AO.node(h:AO ns r j):∃d,ns[j]?=zY d/\d.op=mN r:=by cases r with|eps=>have⟨d,c,e⟩:=h;exact⟨d,c,e⟩|cls s=>obtain⟨d,c,e,-⟩:=h;exact⟨d,c,e⟩|star a=>obtain⟨d,k,c,e,-⟩:=h;exact⟨d,c,e⟩|_ a b=>obtain⟨d,k,f,c,e,-⟩:=h;exact⟨d,c,e⟩
def wC(mb:Nat)(nbs:List Nat)(L:Nat)(m:Nat->Nat->Option Nat)(R:Nat->Nat->List Bool)(ps:List Pc)(ob:Nat)(xs:List Bool)(x:Nat)(d:h_):List Pc:=F6 mb nbs L m R::(ps++[pS Ay 4 (N_ ob) (L+1) (L+1) xs,pB 77 x (j_ d)])
section
variable{mb x:Nat}{nbs:List Nat}
def Kq:(wC mb nbs L m R ps i xs x d)[ps.length+1]?=zY (pS Ay 4 (N_ i) (L+1) (L+1) xs):=X_ ps [pS Ay 4 (N_ i) (L+1) (L+1) xs,pB 77 x (j_ d)] 0
def Om:(wC mb nbs L m R ps i xs x d)[ps.length+2]?=zY (pB 77 x (j_ d)):=X_ ps [pS Ay 4 (N_ i) (L+1) (L+1) xs,pB 77 x (j_ d)] 1
def WU(ys:List Bool):(wC mb nbs L m R ps i xs x d).set (ps.length+1) (pS Ay 4 (N_ i) (L+1) (L+1) ys)=wC mb nbs L m R ps i ys x d:=congrArg (F6 mb nbs L m R::·) (zG ps [pS Ay 4 (N_ i) (L+1) (L+1) xs,pB 77 x (j_ d)] 0 _)
def jU{kt:Nat}{p:Pc}(h:ps[kt]?=zY p):(wC mb nbs L m R ps i xs x d)[kt+1]?=zY p:=sD h
def Tm{q:Nat}{b:Bool}(c:B_ B H0 H (wC mb nbs L m R ps i xs x d))(e:q<xs.length)(k:∀G,B_ B H0 G (wC mb nbs L m R ps i (xs.set q b) x d)->K G):Co prog (Instr.storeAt 4 (.pointer (zY ⟨i,q*Ay.size,zV⟩)) (.bool b)) H K:=LB (T:=Ay) (j:=q) (x:=b) c (ps.length+1) zE Kq rfl (zI _) e rfl (λ_ _=>rfl) λG a=>k G (by rw[WU]at a;exact a)
end
def lS:ReM->Bool->Bool->Bool | .alt _ _=>(·|| ·)| .and_ _ _=>(·&&·)| _=>λp q=>p&& !q
def AlU{nc:Nat}{Ao:Int}{s:ByteArray}{tb mb kt:Nat}{nbs:List Nat}(hD:Y_ wD B H0 na nc ns)(bm:nbs.length=ns.length)(hN:ns.length<=4194304)(hs:s.size<=4194303):
  ∀(k:Nat) (r:ReM),r.nodes<k->∀{H:Aa} {m:Nat->Nat->Option Nat} {ps:List Pc} {j i:Nat},B_ B H0 H (F6 mb nbs s.size m (Et ns (m_ s))::ps)->
   ps[kt]?=zY (pB 157 tb (uY na ns.length nc Ao s (.slice (N_ mb) ns.length ns.length)))->AO ns r j->i<=s.size->
   Ai prog 38 #[U_ tb,A_ j,A_ i] H (Ag7 B H0 mb nbs s.size (Et ns (m_ s)) m ps j i):=by
 intro k
 induction k with
 | zero=>intro r h;omega
 | succ k IH=>
 intro r hr H m ps j i st F ht hi;have⟨d,hd,ai⟩:=ht.node;have bn:=(T_.1 hd).1;obtain⟨nb,L⟩:∃nb,nbs[j]?=zY nb:=⟨_,zJ zO⟩;have a8:Iv mb nbs s.size m (Et ns (m_ s)) H:=st.at_ 0 rfl;have a4:=a8.rows j nb L;have ay:=OP s;refine Ai.of_vc func38 rfl (call38 _) (G_ MC ?_);refine C_ (v:=.slice (N_ mb) ns.length ns.length) US (by rw[(st.blk (kt+1) F).cell];rfl) zA ?_;refine uK VX zO zO ?_;refine C_ (v:=OK nb s.size) Yb (by rw[a8.top.cell,O',zI,K_,Y',L];rfl) zA ?_;refine uK Zf zO zO ?_;refine C_ FX (by rw[a4.cell,O',zI,K_];exact Kx hi) zA ?_;cases hm:m j i with
 | some rb=>
   refine pZ underlying41 (G_ MC ?_);refine C_ (v:=.slice (N_ mb) ns.length ns.length) US (by rw[(st.blk (kt+1) F).cell];rfl) zA ?_;refine uK VX zO zO ?_;refine C_ (v:=OK nb s.size) Yb (by rw[a8.top.cell,O',zI,K_,Y',L];rfl) zA ?_;refine uK Zf zO zO ?_;refine C_ (v:=OK rb s.size) FX (by rw[a4.cell,O',zI,K_];refine(Kx hi).trans ?_;rw[hm]) zA ?_;(conv=>whnf);exact⟨m,rb,rfl,hm,.refl m,st⟩
 | none=>
   refine pZ underlying41 (G_ Lb ?_);refine C_ (v:=.string s) wG (by rw[(st.blk (kt+1) F).cell];rfl) zA ?_;(conv=>whnf);rw[W_ (x:=(s.size:Int)+1) zO];refine DH Ci rfl zO zO zO zO ?_;intro ob H1 az b0 aj b4;rw[show((s.size:Int)+1).toNat=s.size+1 by omega]at aj ⊢;have a9:Ay.reps none_ H1 (An8 (s.size+1) (Value.bool zU)) (An8 (s.size+1) zU):=by
    have:=PE (S:=none_) (H:=H1) (An8 (s.size+1) zU);rwa [fO]at this
   have F_:=st.new (T:=Ay) (n:=s.size+1) (xs:=An8 (s.size+1) zU) az b0 aj b4 a9 zZ (by unfold maxLen;omega);have a5:(F6 mb nbs s.size m (Et ns (m_ s))::ps++[pS Ay 4 (N_ ob) (s.size+1) (s.size+1) (An8 (s.size+1) zU)])[kt+1]?=zY (pB 157 tb (uY na ns.length nc Ao s (.slice (N_ mb) ns.length ns.length))):=sD F;refine G_ AhE (G_ E2 ?_);refine C_ (v:=.slice na ns.length nc) FB (by rw[(F_.blk (kt+1) a5).cell];rfl) zA ?_;refine U' (i:=j) HP (hD.frame F_.old) hd rfl ?_;rintro b2 o2 c2 bo ak ⟨rfl,bj⟩;refine L_ (cs:=j_ d) (by rw[AS];exact Rd) ak zA ?_;refine Af _ rnZ OJ rfl ?_;intro x H2 b5 b6 b7 b8;have a0:=F_.box b5 b6 b7 b8;refine AI (cs:=j_ d) (l:=rnZ) a0 (ps.length+2) (by rw[AS];rfl) (lg2 _ ps _ _) (by rw[AS,Cq];decide) (D3 d) λH3 g=>?_;rw[Bo (show(j_ d).length=rnZ.length by rw[AS,Cq])]at g;replace g:B_ B H0 H3 (wC mb nbs s.size m (Et ns (m_ s)) ps ob (An8 (s.size+1) zU) x d):=by
    rw[ls2]at g;exact g
   have e0:An8 (s.size+1) zU=BC (m_ s).length λ_=>False:=by rw[ay];exact dN _
   rw[e0]at g;clear F_ a0 a5;have a6:∀{G:Aa} {p:Nat->Nat->Option Nat} {xs:List Bool},B_ B H0 G (wC mb nbs s.size p (Et ns (m_ s)) ps ob xs x d)->YtelngokgpnphfaaGreatDoor.cell G x 0=zY (.int .i64 d.op):=λo=>by rw[(o.blk (ps.length+2) Om).cell];exact Fv d
   have ab:∀{G:Aa} {p:Nat->Nat->Option Nat} {xs:List Bool},B_ B H0 G (wC mb nbs s.size p (Et ns (m_ s)) ps ob xs x d)->YtelngokgpnphfaaGreatDoor.cell G x 257=zY (.int .i64 d.l):=λo=>by rw[(o.blk (ps.length+2) Om).cell];exact JC d
   have am:∀{G:Aa} {p:Nat->Nat->Option Nat} {xs:List Bool},B_ B H0 G (wC mb nbs s.size p (Et ns (m_ s)) ps ob xs x d)->YtelngokgpnphfaaGreatDoor.cell G x 258=zY (.int .i64 d.r):=λo=>by rw[(o.blk (ps.length+2) Om).cell];exact VH d
   have M:∀{G:Aa} {p:Nat->Nat->Option Nat} {xs:List Bool},B_ B H0 G (wC mb nbs s.size p (Et ns (m_ s)) ps ob xs x d)->YtelngokgpnphfaaGreatDoor.cell G tb 2=zY (.string s):=λo=>by rw[(o.blk (kt+1) (jU F)).cell];rfl
   have A:∀{xs:List Bool},(ps++[pS Ay 4 (N_ ob) (s.size+1) (s.size+1) xs,pB 77 x (j_ d)])[kt]?=zY (pB 157 tb (uY na ns.length nc Ao s (.slice (N_ mb) ns.length ns.length))):=sD F;have I:∀{G:Aa} {p:Nat->Nat->Option Nat} {xs:List Bool} {r':ReM} {j' i' rb:Nat},B_ B H0 G (wC mb nbs s.size p (Et ns (m_ s)) ps ob xs x d)->AO ns r' j'->p j' i'=zY rb->S_ G rb 4 ((BC (m_ s).length λy=>Mt (m_ s) r' i' y).map Value.bool):=λo bd be=>by
    have h:=(show Iv _ _ _ _ _ _ from o.at_ 0 rfl).cont _ _ _ be;rw[KA bd]at h;exact h
   (conv=>whnf);refine A7.cut (α:=Unit) [] (λ_=>[]) (λ_ G=>∃p,HR m p/\B_ B H0 G (wC mb nbs s.size p (Et ns (m_ s)) ps ob (BC (m_ s).length λy=>Mt (m_ s) r i y) x d)) ?_ ?_
   rotate_left
   ·rintro⟨⟩ G N ⟨p,O,o⟩;have ao:Iv mb nbs s.size p (Et ns (m_ s)) G:=o.at_ 0 rfl;refine G_ MC ?_;refine C_ (v:=.slice (N_ mb) ns.length ns.length) US (by rw[(o.blk (kt+1) (jU F)).cell];rfl) zA ?_;refine uK VX zO zO ?_;refine C_ (v:=OK nb s.size) Yb (by rw[ao.top.cell,O',zI,K_,Y',L];rfl) zA ?_;refine uK Zf zO zO ?_;have bf:B_ B H0 G (F6 mb nbs s.size p (Et ns (m_ s))::(ps++[pS Ay 4 (N_ ob) (s.size+1) (s.size+1) (BC (m_ s).length λy=>Mt (m_ s) r i y)])):=
     o.subl (List.Sublist.cons_cons _ (List.Sublist.append_left (List.Sublist.cons_cons _ (uI _)) _))
    rw[(zO:0+(i:Int).toNat*1=i)];refine AmR bf L hi (KA ht i) λG2 a0=>?_;(conv=>whnf);exact⟨L9 p j i ob,ob,rfl,by unfold L9;simp,O.put hm,a0⟩
   ·refine G_ Dq (C_ (v:=A_ d.op) E_ (a6 g) zA ?_);rw[ai];obtain⟨r0,h0⟩:∃r0,r0=r:=⟨_,rfl⟩;cases r with
    | eps=>
      (conv=>whnf);try refine A7.run ?_
      refine xT (T:=Ay) (j:=i) Ci g (ps.length+1) Kq (by rw[Bq];omega) rfl ?_;refine Tm g (q:=i) (by rw[Bq];omega) λG o=>?_;rw[lW zO]at o;(conv=>whnf);exact⟨rfl,(),rfl,m,.refl m,o⟩
    | cls cs=>
      have⟨d',t,P,a7⟩:=ht;rw[hd]at t;cases t;(conv=>whnf);try refine A7.run ?_
      (conv=>whnf);try refine A7.run ?_
      refine G_ Lb (C_ (v:=.string s) wG (M g) zA ?_);by_cases bg:i<s.size
      ·(conv=>whnf);rw[show zT ((i:Int)<(s.size:Int))=zW from t_];refine G_ Lb (C_ (v:=.string s) wG (M g) zA ?_);have⟨c,ap,ak,bp⟩:=Es bg;have aq:=SJ ap;refine EJ HI rfl ap (G_ Tj ?_);(conv=>whnf);rw[xG (x:=((c.toNat:Nat):Int)) zO (by have:=c.toNat_lt;omega)];refine V' FT zO (by have:=c.toNat_lt;omega) ?_;refine C_ (v:=.bool (d.set.getLsbD c.toNat)) zE (by
        rw[(g.blk (ps.length+2) Om).cell,show(0+1+((c.toNat:Nat):Int).toNat*1:Nat)=1+c.toNat by omega];exact TZ d _ _ (IB d.set (by have:=c.toNat_lt;omega))) zA ?_
       cases hb:d.set.getLsbD c.toNat with
       | true=>
         (conv=>whnf);rw[R_ i zO];refine xT (T:=Ay) (j:=i+1) Ci g (ps.length+1) Kq (by rw[Bq];omega) rfl ?_;refine Tm g (q:=i+1) (by rw[Bq];omega) λG o=>?_;rw[bC aq hb,a7]at o;(conv=>whnf);exact⟨rfl,(),rfl,m,.refl m,o⟩
       | false=>
         rw[XW (s:=cs) (i:=i) (λc' a1=>by rw[aq]at a1;cases a1;rw[<-a7];exact hb)]at g;(conv=>whnf);exact⟨rfl,(),rfl,m,.refl m,g⟩
      ·(conv=>whnf);rw[show zT ((i:Int)<(s.size:Int))=zU from g_];rw[XW (s:=cs) (i:=i) (λc' a1=>by have:=(T_.1 a1).1;omega)]at g;(conv=>whnf);exact⟨rfl,(),rfl,m,.refl m,g⟩
    | cat a b=>
      have⟨d',ja,jb,t,P,Q,ae,C,R⟩:=ht;rw[hd]at t;cases t;simp only[ReM.nodes]at hr;(conv=>whnf);try refine A7.run ?_
      (conv=>whnf);try refine A7.run ?_
      (conv=>whnf);try refine A7.run ?_
      refine G_ Db (C_ (v:=A_ d.l) E_ (ab g) zA ?_);rw[Q];refine Ae.mk (IH a zO g A C hi) ?_;rintro _ G1 ⟨p,ra,rfl,ag,O,w⟩;rw[ZA (m_ s) a b i]at w;(conv=>whnf);refine A0.mk [10] (λq:Nat=>[A_ q]) (λq G=>i<=q/\q<=s.size+1/\∃E,HR p E/\B_ B H0 G (wC mb nbs s.size E (Et ns (m_ s)) ps ob (BC (m_ s).length (UK (m_ s) a b i q)) x d)) (λq _=>s.size+1-q) ?_ ?_
      ·(conv=>whnf);exact⟨i,rfl,M_ _,zO,p,.refl p,w⟩
      ·rintro q G N ⟨ar,au,E,u,o⟩;refine G_ Lb (C_ (v:=.string s) wG (M o) zA ?_);refine AB.m2 (λhz=>?_) (λhz=>?_)
       ·have a2:q<=s.size:=zO
        have hA:=I o C (u _ _ _ ag);(conv=>whnf);try refine A7.run ?_
        refine uK Ci zO zO ?_;obtain⟨K,U⟩:∃K,(BC (m_ s).length λy=>Mt (m_ s) a i y)[q]?=zY K:=⟨_,zJ (by rw[Bq];omega)⟩;have V:=Ik zO U;refine C_ (v:=.bool K) zE (by rw[hA.cell,O',zI,K_,Y',U];rfl) zA ?_;cases K with
        | true=>
          refine G_ Jt (C_ (v:=A_ d.r) E_ (am o) zA ?_);rw[ae];refine Ae.mk (IH b zO o A R a2) ?_;rintro _ G2 ⟨W,rb,rfl,X,ah,J⟩;replace J:B_ B H0 G2 (wC mb nbs s.size W (Et ns (m_ s)) ps ob (BC (m_ s).length (UK (m_ s) a b i q)) x d):=J;refine Ae.mk (jY (kb:=0) (ys:=BC (m_ s).length λy=>Mt (m_ s) b q y) J Kq rfl zO (λH' Y=>by
           have h:=Iv.cont Y _ _ _ X;rw[KA R]at h;exact h) (by rw[Bq,Bq]) zO) ?_
          rintro _ G3 D;rw[WU,Bq,Z9 (V.1 rfl)]at D;(conv=>whnf);rw[R_ q zO];exact⟨rfl,q+1,rfl,⟨zO,zO,W,u.trans ah,D⟩,zO⟩
        | false=>
          rw[Z8 (λh=>by have:=V.2 h;cases this)]at o;(conv=>whnf);rw[R_ q zO];exact⟨rfl,q+1,rfl,⟨zO,zO,E,u,o⟩,zO⟩
       ·obtain rfl:q=s.size+1:=zO
        have e9:=cZ (l:=m_ s) (a:=a) (b:=b) (i:=i) zO;rw[show(m_ s).length+1=s.size+1 by omega]at e9;rw[e9]at o;(conv=>whnf);exact⟨rfl,(),rfl,E,O.trans u,o⟩
    | star a=>
      have⟨d',ja,t,P,Q,C⟩:=ht;rw[hd]at t;cases t;simp only[ReM.nodes]at hr;(conv=>whnf);try refine A7.run ?_
      (conv=>whnf);try refine A7.run ?_
      (conv=>whnf);try refine A7.run ?_
      (conv=>whnf);try refine A7.run ?_
      refine xT (T:=Ay) (j:=i) Ci g (ps.length+1) Kq (by rw[Bq];omega) rfl ?_;refine Tm g (q:=i) (by rw[Bq];omega) λG1 w=>?_;rw[XC (a:=a) zO]at w;(conv=>whnf);refine A0.mk [11] (λq:Nat=>[A_ q]) (λq G=>i<=q/\q<=s.size+1/\∃E,HR m E/\B_ B H0 G (wC mb nbs s.size E (Et ns (m_ s)) ps ob (BC (m_ s).length (JU (m_ s) a i q)) x d)) (λq _=>s.size+1-q) ?_ ?_
      ·(conv=>whnf);exact⟨i,rfl,M_ _,zO,m,.refl m,w⟩
      ·rintro q G N ⟨ar,au,E,u,o⟩;refine G_ Lb (C_ (v:=.string s) wG (M o) zA ?_);refine AB.m2 (λhz=>?_) (λhz=>?_)
       ·have a2:q<=s.size:=zO
        (conv=>whnf);try refine A7.run ?_
        obtain⟨K,U⟩:∃K,(BC (m_ s).length (JU (m_ s) a i q))[q]?=zY K:=⟨_,zJ (by rw[Bq];omega)⟩;have V:=Ik zO U;refine zK (j:=q) (x:=K) Ci o (ps.length+1) Kq U rfl λb9 o9 bq br bh bi=>?_;obtain rfl:=bi;refine lT zE bh.one ?_;cases K with
        | true=>
          refine G_ Db (C_ (v:=A_ d.l) E_ (ab o) zA ?_);rw[Q];refine Ae.mk (IH a zO o A C a2) ?_;rintro _ G2 ⟨W,rb,rfl,X,ah,J⟩;replace J:B_ B H0 G2 (wC mb nbs s.size W (Et ns (m_ s)) ps ob (BC (m_ s).length (JU (m_ s) a i q)) x d):=J;refine Ae.mk (jY (kb:=0) (ys:=BC (m_ s).length λy=>Mt (m_ s) a q y) J Kq rfl zO (λH' Y=>by
           have h:=Iv.cont Y _ _ _ X;rw[KA C]at h;exact h) (by rw[Bq,Bq]) zO) ?_
          rintro _ G3 D;rw[WU,Bq,XB (V.1 rfl)]at D;(conv=>whnf);rw[R_ q zO];exact⟨rfl,q+1,rfl,⟨zO,zO,W,u.trans ah,D⟩,zO⟩
        | false=>
          rw[XA (λh=>by have:=V.2 h;cases this)]at o;(conv=>whnf);rw[R_ q zO];exact⟨rfl,q+1,rfl,⟨zO,zO,E,u,o⟩,zO⟩
       ·obtain rfl:q=s.size+1:=zO
        have e9:=dT (l:=m_ s) (a:=a) (i:=i) zO;rw[show(m_ s).length+1=s.size+1 by omega]at e9;rw[e9]at o;(conv=>whnf);exact⟨rfl,(),rfl,E,u,o⟩
    | _ a b=>
      have⟨d',ja,jb,t,P,Q,ae,C,R⟩:=ht;rw[hd]at t;cases t;simp only[ReM.nodes]at hr;obtain⟨f,hf⟩:∃f,f=lS r0:=⟨_,rfl⟩;rw[h0]at hf;(conv=>whnf);try refine A7.run ?_
      (conv=>whnf);try refine A7.run ?_
      (conv=>whnf);try refine A7.run ?_
      (conv=>whnf);try refine A7.run ?_
      refine Ap.heldZ (λk=>k=x) [] (sq [0,1,2,3,5,6,7,8] (.f 4 (.f 9 (sq [10,11] .e)))) rfl zX (G_ Db (C_ (v:=A_ d.l) E_ (ab g) rfl ?_));rw[Q];refine G_ Jt (C_ (v:=A_ d.r) E_ (am g) rfl ?_);rw[ae];refine Ae.mk (IH a zO g A C hi) ?_;rintro _ G1 ⟨p,ra,rfl,ag,O,w⟩;replace w:B_ B H0 G1 (wC mb nbs s.size p (Et ns (m_ s)) ps ob (BC (m_ s).length λ_=>False) x d):=w;refine⟨λk hk=>by rw[show k=x from hk];exact(w.blk (ps.length+2) Om).trans (g.blk (ps.length+2) Om).symm,?_⟩;refine Ae.mk (IH b zO w A R hi) ?_;rintro _ G2 ⟨E,rb,rfl,X,u,Z⟩;replace Z:B_ B H0 G2 (wC mb nbs s.size E (Et ns (m_ s)) ps ob (BC (m_ s).length λ_=>False) x d):=Z;refine⟨λk hk=>by rw[show k=x from hk];exact(Z.blk (ps.length+2) Om).trans (g.blk (ps.length+2) Om).symm,?_⟩;rw[W2 (a:=a) (b:=b) (i:=i) f (by rw[hf];rfl)]at Z;(conv=>whnf);refine A0.mk [14] (λq:Nat=>[A_ q]) (λq G=>i<=q/\q<=s.size+1/\∃W,HR E W/\B_ B H0 G (wC mb nbs s.size W (Et ns (m_ s)) ps ob (BC (m_ s).length (PF f (BC (m_ s).length λy=>Mt (m_ s) a i y) (BC (m_ s).length λy=>Mt (m_ s) b i y) q)) x d)) (λq _=>s.size+1-q) ?_ ?_
      ·(conv=>whnf);exact⟨i,rfl,M_ _,zO,E,.refl E,Z⟩
      ·rintro q G N ⟨ar,au,W,a3,o⟩;refine G_ Lb (C_ (v:=.string s) wG (M o) zA ?_);refine AB.m2 (λhz=>?_) (λhz=>?_)
       ·have a2:q<=s.size:=zO
        have hA:=I o C (a3 _ _ _ (u _ _ _ ag));obtain⟨va,aw⟩:∃K,(BC (m_ s).length λy=>Mt (m_ s) a i y)[q]?=zY K:=⟨_,zJ (by rw[Bq];omega)⟩;obtain⟨vb,ax⟩:∃K,(BC (m_ s).length λy=>Mt (m_ s) b i y)[q]?=zY K:=⟨_,zJ (by rw[Bq];omega)⟩;have fin:∀z:Bool,f va vb=z->(BC (m_ s).length (PF f (BC (m_ s).length λy=>Mt (m_ s) a i y) (BC (m_ s).length λy=>Mt (m_ s) b i y) q)).set q z=BC (m_ s).length (PF f (BC (m_ s).length λy=>Mt (m_ s) a i y) (BC (m_ s).length λy=>Mt (m_ s) b i y) (q+1)):=λz hz=>by
         rw[<-hz];exact W1 zO aw ax
        (conv=>whnf);try refine A7.run ?_
        refine G_ Dq (C_ (v:=A_ d.op) E_ (a6 o) zA ?_);rw[ai];(conv=>whnf);try refine A7.run ?_
        (conv=>whnf);try refine A7.run ?_
        refine uK Ci zO zO ?_;refine C_ (v:=.bool va) zE (by rw[hA.cell,O',zI,K_,Y',aw];rfl) zA ?_;have hB:=I o R (a3 _ _ _ X);cases va with
        | _=>
          try (refine uK Ci zO zO ?_;refine C_ (v:=.bool vb) zE (by rw[hB.cell,O',zI,K_,Y',ax];rfl) zA ?_)
          refine xT (T:=Ay) (j:=q) Ci o (ps.length+1) Kq (by rw[Bq];omega) rfl ?_;refine Tm o (q:=q) (by rw[Bq];omega) λG3 D=>?_;rw[fin _ (by rw[hf];cases vb<;>rfl)]at D;(conv=>whnf);rw[R_ q zO];exact⟨rfl,q+1,rfl,⟨zO,zO,W,a3,D⟩,zO⟩
       ·obtain rfl:q=s.size+1:=zO
        have e9:=Z4 (l:=m_ s) (a:=a) (b:=b) (i:=i) f (by rw[hf];first | exact cT | exact cU | exact W5);rw[show(m_ s).length+1=s.size+1 by omega]at e9;rw[e9]at o;(conv=>whnf);exact⟨rfl,(),rfl,W,(O.trans u).trans a3,o⟩
noncomputable def OF(l:List Nat)(r:ReM):Bool:= @zT (Mt l r 0 l.length) (Classical.propDecidable _)
def aL(l:List Nat)(r:ReM):OF l r=zW↔Mt l r 0 l.length:= @decide_eq_true_iff _ (Classical.propDecidable _)
def Vy{Ao:Nat}{s:ByteArray}(c:∀k,S k->k<H.size)(u:ReV S H v ns (Ao:Int))(w:AO ns r Ao)(hs:s.size<=4194303):
  BK prog 10 #[v,.string s] H (.bool (OF (m_ s) r)):=by have x:ns.length<=4194304:=u.1;have d:=OP s;refine Ai.of_vc func10 rfl (call10 _) (iI u λna nc z A=>?_);intro E H1 g h j l;have F_:=(St.nil H).box g h j l;have m:=F_.blk 0 rfl;have b:=m.lt;refine Ap.heldZ (H_ H1) [] (sq [0,1,3,4,6,7] (.f 2 (.f 5 (sq [8] (.f 9 (.f 10 .e)))))) rfl zX (DO (S:=S) x m Dv b (A.frame (F_.old.mono c)) λF n=>(G_ Te ?_));refine C_ (v:=A_ Ao) E_ (by rw[m.cell];rfl) b ?_;refine Ae.mk (AmB (Et ns (m_ s)) (λk o=>F_.up (c k o)) n hs) ?_;rintro _ H2 ⟨tb,mb,nbs,C,D,rfl,p,q,Zaa⟩;refine⟨Zaa.old,?_⟩;refine Ae.mk (AlU (B:=H_ H1) (kt:=0) (p.mono λk o=>F_.up (c k o)) q x hs (r.nodes+1) r zO Zaa rfl w (i:=0) (p_ _)) ?_;rintro _ H3 ⟨m',G,rfl,t,-,a⟩;refine⟨a.old,?_⟩;have y:=(show Iv _ _ _ _ _ _ from a.at_ 0 rfl).cont _ _ _ t;rw[KA w]at y;refine uK Ci zO zO ?_;refine C_ (v:=.bool (OF (m_ s) r)) zE (by{rw[y.cell,O',zI,K_,Y',HH _ (zO:s.size<=(m_ s).length)];unfold OF;rw[d];rfl}) zA ?_;refine⟨a.old,?_⟩;(conv=>whnf);refine⟨a.old,?_⟩;(conv=>whnf);exact⟨rfl,(F_.call a.old).old⟩
structure RowI(B:Nat->Prop)(H:Aa)(s q2 q3 i:Nat)(t:ByteArray)(os:List Int)(ps:List Pc)(f:AF)(fs:List AF)(j:Nat)(any:Bool)(G:Aa):Prop where
 ex:∃(f':AF) (r:ReM) (B':Nat->Prop) (fn:v_) (a:Option Addr) (n cap:Nat),i<=j/\j<=t.size/\Ch t ⟨i,f,fs⟩=Ch t ⟨j,f',fs⟩/\(AC f').row=(if any then zY r else zV)/\
  (any=zU->r= .eps/\f'.factor=zV)/\(any=zW->GJ (bt t j)=zU)/\f'.alt=f.alt/\f'.meet=f.meet/\f'.sign=f.sign/\f'.place=f.place/\
  (∀k,B k->B' k)/\D_ B H G/\B_ B' G G (sP s t j a n cap os ps++[pB 60 q2 Aq,pB 60 q3 (Ad r fn)])/\CN B' G fn r
def FO{H':Aa}(a:I6 H)(b:B 0)(c:D_ B H H'):I6 H':=by refine⟨a.1.eq (c _ b),?_⟩;have h:=c _ b;rw[uD a.2]at h;exact(Array.getElem?_eq_some_iff.1 h).1
def VV(h:f.factor=zV):AC f=f:=by unfold AC;rw[h]
def Im(f:AF):(AC f).alt=f.alt/\(AC f).meet=f.meet/\(AC f).sign=f.sign/\(AC f).place=f.place:=by unfold AC;split<;>exact⟨rfl,rfl,rfl,rfl⟩
def nZ{s:Nat}(hE:I6 H)(am:B 0)(ht:t.size<=1048576)(hi:i<=t.size)(b8:os.length=fs.length)(b9:fs.length<=1000)
  (ao:f.row=zV) (ab:f.factor=zV) (IH:∀i',i<i'->Mu t i') (sc:Sc B H s t i os ps):
  Cf prog 71 #[U_ s] H
   (λv H'=>∃j o r,i<=j/\j<=t.size/\(j=t.size\/bt t j=124\/bt t j=38\/bt t j=45\/bt t j=41)/\Ch t ⟨i,f,fs⟩=Ch t ⟨j,o,fs⟩/\(AC o).row.getD .eps=r/\
    o.alt=f.alt/\o.meet=f.meet/\o.sign=f.sign/\o.place=f.place/\SR B H s t j os ps r v H')
   (λx H'=>SE B H t ⟨i,f,fs⟩ x H'):=by
 have⟨a,n,cap,st⟩:=sc;refine Cf.of_vc func71 rfl (call71 _) (Af (.agg Aq.toArray) Aq DG rfl ?_);intro Z H1 bd be ap aq;have F_:=st.box bd be ap aq;refine Au underlying210 rfl _ rfl [] rfl (As.of (Ae.mk (Tx (r:=.eps) F_ rfl) ?_));rintro _ H2 ⟨B1,f1,rfl,s1,a2,ar,gs⟩;obtain⟨g1,c1,rfl⟩:=gs.fn;refine Af (.agg Aq.toArray) Aq DG rfl ?_;intro q3 H3 bf bg au aw;have Q:=ar.box bf bg au aw;rw[zS]at Q;replace Q:B_ B1 H2 H3 (sP s t i a n cap os ps++[pB 60 Z Aq,pB 60 q3 Aq]):=Q;refine BH (cs:=Ad .eps (.func (.func g1) #[] c1)) Q _ rfl (X_ _ _ 1) (by simp[Ad,Aq]) rfl λH4 J c8 c9=>?_;rw[zG,De rfl]at J;replace J:B_ B1 H2 H4 (sP s t i a n cap os ps++[pB 60 Z Aq,pB 60 q3 (Ad .eps (.func (.func g1) #[] c1))]):=J;(conv=>whnf);refine Gx.mk [4] (λx:Nat×Bool=>match x with | (_,b)=>[.bool b]) (λx G=>match x with | (j,b)=>RowI B H s Z q3 i t os ps f fs j b G) (λx _=>match x with | (j,_)=>t.size-j) ?_ ?_;{(conv=>whnf);refine⟨(i,zU),rfl,⟨f,.eps,B1,.func (.func g1) #[] c1,a,n,cap,M_ _,hi,rfl,by rw[VV ab];exact ao,λ_=>⟨rfl,ab⟩,λh=>Aq5 h,rfl,rfl,rfl,rfl,s1,?_,J.rebase,gs.frame J.old λk l=>l⟩⟩;exact(F_.old.trans (a2.mono λk l=>F_.up l)).trans λk l=>J.old k (s1 k l)};{
 rintro⟨j,M⟩ G c6 ⟨o,r,B2,f2,a2,n2,E,R,hj,C,hr,F,a0,e1,e2,e3,e4,w,N,ax,gv⟩;obtain⟨y,z,rfl⟩:=gv.fn;clear st F_ ar Q J gs ap au aq aw;have S:(AC o).row.getD .eps=r:=by{rw[hr];cases M with|false=>exact(F rfl).1.symm|true=>rfl};refine As.of (Al (FN (ax.blk 0 rfl)) λG1 bh=>?_);have a1:=ax.call bh;by_cases h0:j<t.size;{
 rw[n_ (show¬t.size<=j by omega)];refine As.of (Al (Eb (a1.blk 0 rfl) h0) λG2 bi=>?_);have m:=a1.call bi;refine B8.run ?_;(conv=>whnf);by_cases L:bt t j=124;{have d:(((bt t j:Nat):Int)==124)=zW:=by{rw[L];rfl};(conv=>whnf);rw[d];clear d;refine L_ (cs:=Ad r (.func (.func y) #[] z)) BZ (AA (m.blk _ (X_ _ _ 1))) zA (BH (cs:=Ad r (.func (.func y) #[] z)) m _ rfl (X_ _ _ 0) (by simp[Ad,Aq]) rfl λG9 g ja js=>?_);rw[zG,De rfl]at g;refine lN (cs:=Ad r (.func (.func y) #[] z)) BZ (AA (g.blk _ (X_ _ _ 0))) ?_;exact⟨j,o,r,R,hj,.inr (.inl L),C,S,e1,e2,e3,e4,B2,_,rfl,w,N.trans λk l=>g.old k (w k l),⟨a2,n2,E,g.lft.rebase⟩,gv.frame g.old λk l=>l⟩};{
 have d:(((bt t j:Nat):Int)==124)=zU:=Gk L;(conv=>whnf);rw[d];clear d;by_cases a6:bt t j=38;{have d:(((bt t j:Nat):Int)==38)=zW:=by{rw[a6];rfl};(conv=>whnf);rw[d];clear d;refine L_ (cs:=Ad r (.func (.func y) #[] z)) BZ (AA (m.blk _ (X_ _ _ 1))) zA (BH (cs:=Ad r (.func (.func y) #[] z)) m _ rfl (X_ _ _ 0) (by simp[Ad,Aq]) rfl λG9 g ja js=>?_);rw[zG,De rfl]at g;refine lN (cs:=Ad r (.func (.func y) #[] z)) BZ (AA (g.blk _ (X_ _ _ 0))) ?_;exact⟨j,o,r,R,hj,.inr (.inr (.inl a6)),C,S,e1,e2,e3,e4,B2,_,rfl,w,N.trans λk l=>g.old k (w k l),⟨a2,n2,E,g.lft.rebase⟩,gv.frame g.old λk l=>l⟩};{
 have d:(((bt t j:Nat):Int)==38)=zU:=Gk a6;(conv=>whnf);rw[d];clear d;by_cases a8:bt t j=45;{have d:(((bt t j:Nat):Int)==45)=zW:=by{rw[a8];rfl};(conv=>whnf);rw[d];clear d;refine L_ (cs:=Ad r (.func (.func y) #[] z)) BZ (AA (m.blk _ (X_ _ _ 1))) zA (BH (cs:=Ad r (.func (.func y) #[] z)) m _ rfl (X_ _ _ 0) (by simp[Ad,Aq]) rfl λG9 g ja js=>?_);rw[zG,De rfl]at g;refine lN (cs:=Ad r (.func (.func y) #[] z)) BZ (AA (g.blk _ (X_ _ _ 0))) ?_;exact⟨j,o,r,R,hj,.inr (.inr (.inr (.inl a8))),C,S,e1,e2,e3,e4,B2,_,rfl,w,N.trans λk l=>g.old k (w k l),⟨a2,n2,E,g.lft.rebase⟩,gv.frame g.old λk l=>l⟩};{
 have d:(((bt t j:Nat):Int)==45)=zU:=Gk a8;(conv=>whnf);rw[d];clear d;by_cases a9:bt t j=41;{have d:(((bt t j:Nat):Int)==41)=zW:=by{rw[a9];rfl};(conv=>whnf);rw[d];clear d;refine L_ (cs:=Ad r (.func (.func y) #[] z)) BZ (AA (m.blk _ (X_ _ _ 1))) zA (BH (cs:=Ad r (.func (.func y) #[] z)) m _ rfl (X_ _ _ 0) (by simp[Ad,Aq]) rfl λG9 g ja js=>?_);rw[zG,De rfl]at g;refine lN (cs:=Ad r (.func (.func y) #[] z)) BZ (AA (g.blk _ (X_ _ _ 0))) ?_;exact⟨j,o,r,R,hj,.inr (.inr (.inr (.inr a9))),C,S,e1,e2,e3,e4,B2,_,rfl,w,N.trans λk l=>g.old k (w k l),⟨a2,n2,E,g.lft.rebase⟩,gv.frame g.old λk l=>l⟩};{
 have d:(((bt t j:Nat):Int)==41)=zU:=Gk a9;(conv=>whnf);rw[d];clear d;(conv=>whnf);try refine B8.run ?_
 by_cases T:bt t j=42;{have d:(((bt t j:Nat):Int)==42)=zW:=by{rw[T];rfl};(conv=>whnf);rw[d];clear d;refine G_ Bg ?_;refine lT (v:=A_ j) E_ ((m.blk 0 rfl).ce rfl) ?_;refine As.mk (Dk (c:=20) (e:=j)) (λ_ _ h=>h.elim) ?_;rintro _ _ ⟨rfl,rfl⟩;have K:o.factor=zV:=by{cases M with|false=>exact(F rfl).2|true=>have:=a0 rfl;rw[T]at this;exact absurd this zQ};exact⟨20,j,C.trans (Ft (s:=⟨j,o,fs⟩) h0 (Gm (by rw[T];rfl) K)),rfl,N.trans λk l=>m.old k (w k l)⟩};{
 have d:(((bt t j:Nat):Int)==42)=zU:=Gk T;(conv=>whnf);rw[d];clear d;by_cases U:bt t j=43;{have d:(((bt t j:Nat):Int)==43)=zW:=by{rw[U];rfl};(conv=>whnf);rw[d];clear d;refine G_ Bg ?_;refine lT (v:=A_ j) E_ ((m.blk 0 rfl).ce rfl) ?_;refine As.mk (Dk (c:=20) (e:=j)) (λ_ _ h=>h.elim) ?_;rintro _ _ ⟨rfl,rfl⟩;have K:o.factor=zV:=by{cases M with|false=>exact(F rfl).2|true=>have:=a0 rfl;rw[U]at this;exact absurd this zQ};exact⟨20,j,C.trans (Ft (s:=⟨j,o,fs⟩) h0 (Gm (by rw[U];rfl) K)),rfl,N.trans λk l=>m.old k (w k l)⟩};{
 have d:(((bt t j:Nat):Int)==43)=zU:=Gk U;(conv=>whnf);rw[d];clear d;by_cases V:bt t j=63;{have d:(((bt t j:Nat):Int)==63)=zW:=by{rw[V];rfl};(conv=>whnf);rw[d];clear d;refine G_ Bg ?_;refine lT (v:=A_ j) E_ ((m.blk 0 rfl).ce rfl) ?_;refine As.mk (Dk (c:=20) (e:=j)) (λ_ _ h=>h.elim) ?_;rintro _ _ ⟨rfl,rfl⟩;have K:o.factor=zV:=by{cases M with|false=>exact(F rfl).2|true=>have:=a0 rfl;rw[V]at this;exact absurd this zQ};exact⟨20,j,C.trans (Ft (s:=⟨j,o,fs⟩) h0 (Gm (by rw[V];rfl) K)),rfl,N.trans λk l=>m.old k (w k l)⟩};{
 have d:(((bt t j:Nat):Int)==63)=zU:=Gk V;(conv=>whnf);rw[d];clear d;by_cases I:bt t j=123;{have d:(((bt t j:Nat):Int)==123)=zW:=by{rw[I];rfl};(conv=>whnf);rw[d];clear d;refine G_ Bg ?_;refine lT (v:=A_ j) E_ ((m.blk 0 rfl).ce rfl) ?_;refine As.mk (Dk (c:=20) (e:=j)) (λ_ _ h=>h.elim) ?_;rintro _ _ ⟨rfl,rfl⟩;have K:o.factor=zV:=by{cases M with|false=>exact(F rfl).2|true=>have:=a0 rfl;rw[I]at this;exact absurd this zQ};exact⟨20,j,C.trans (Ft (s:=⟨j,o,fs⟩) h0 (Gm (by rw[I];rfl) K)),rfl,N.trans λk l=>m.old k (w k l)⟩};{
 have d:(((bt t j:Nat):Int)==123)=zU:=Gk I;(conv=>whnf);rw[d];clear d;(conv=>whnf);try refine B8.run ?_
 have bj:PX (bt t j):=⟨L,a6,a8,a9,MZ T U V I⟩;refine As.mk (Al9 (f:=o) (fs:=fs) (FO hE am (N.trans λk l=>m.old k (w k l))) (w _ am) ht h0 b8 b9 bj (λi' cd=>IH i' zO) (B:=B2) (ps:=ps++[pB 60 Z Aq,pB 60 q3 (Ad r (.func (.func y) #[] z))]) ⟨a2,n2,E,m.rebase⟩) ?_ ?_;rotate_left
 {intro x G3 h;exact h.from C (N.trans λk l=>m.old k (w k l)) w};rintro _ G3 ⟨j1,r1,ce,ay,az,⟨B3,f3,rfl,s3,a3,⟨a4,n4,A,aj⟩,bm⟩⟩;have bn:D_ B H G2:=N.trans λk l=>m.old k (w k l);have b0:D_ B H G3:=bn.trans λk l=>a3 k (w k l);have bo:CN B3 G3 (.func (.func y) #[] z) r:=gv.frame (m.old.trans a3) s3;replace aj:B_ B3 G3 G3 (sP s t j1 a4 n4 A os ps++[pB 60 Z Aq,pB 60 q3 (Ad r (.func (.func y) #[] z))]):=aj;refine As.mk (dK (k:=0) (f:={AC o with factor:=zY r1}) (fs:=fs) zO ay rfl aj rfl bm) ?_ ?_;rotate_left
 {rintro x G4 ⟨c,p,h1,h2,h3⟩;exact⟨c,p,(C.trans az).trans h1,h2,b0.trans λk l=>h3 k (s3 k (w k l))⟩};rintro _ G4 ⟨j2,q,cg,ae,ah,bp,⟨B4,f4,rfl,s4,a5,ak,b4⟩⟩;have bq:D_ B H G4:=b0.trans λk l=>a5 k (s3 k (w k l));have br:CN B4 G4 (.func (.func y) #[] z) r:=bo.frame a5 s4;obtain⟨O,P,rfl⟩:=b4.fn;replace ak:B_ B4 G4 G4 (sP s t j2 a4 n4 A os ps++[pB 60 Z Aq,pB 60 q3 (Ad r (.func (.func y) #[] z))]):=ak;refine Af (.agg Aq.toArray) Aq DG rfl ?_;intro q5 G5 bu bv bw bx;have b5:=ak.box bu bv bw bx;rw[zS]at b5;refine BH (cs:=Ad q (.func (.func O) #[] P)) b5 _ rfl (X_ _ _ 2) (by simp[Ad,Aq]) rfl λG6 u ch cj=>?_;rw[zG,De rfl]at u;replace u:B_ B4 G4 G6 (sP s t j2 a4 n4 A os ps++[pB 60 Z Aq,pB 60 q3 (Ad r (.func (.func y) #[] z)),pB 60 q5 (Ad q (.func (.func O) #[] P))]):=u;have b6:D_ B H G6:=bq.trans λk l=>u.old k (s4 k (s3 k (w k l)));have bz:=br.frame u.old λk l=>l;have ai:=b4.frame u.old λk l=>l;have b7:Ch t ⟨i,f,fs⟩=Ch t ⟨j2,{AC o with factor:=zY q},fs⟩:=C.trans (az.trans bp);have⟨z1,z2,z3,z4⟩:=Im o;(conv=>whnf);cases M with|false=>{replace hr:(AC o).row=zV:=hr;(conv=>whnf);(try refine B8.run ?_);refine L_ (cs:=Ad (q) (.func (.func O) #[] P)) BZ (AA (u.blk _ (X_ _ _ 2))) zA (BH (cs:=Ad (q) (.func (.func O) #[] P)) u _ rfl (X_ _ _ 1) (by simp[Ad]) rfl λG9 g W c2=>?_);rw[zG]at g;have e9:Ah (Ad r (.func (.func y) #[] z)) 0 (Ad (q) (.func (.func O) #[] P))=Ad (q) (.func (.func O) #[] P):=De rfl;replace g:B_ B4 _ G9 (sP s t j2 a4 n4 A os ps++[pB 60 Z Aq,pB 60 q3 (Ah (Ad r (.func (.func y) #[] z)) 0 (Ad (q) (.func (.func O) #[] P))),pB 60 q5 (Ad (q) (.func (.func O) #[] P))]):=g;rw[e9]at g;(conv=>whnf);refine⟨rfl,(j2,zW),rfl,⟨{AC o with factor:=zY q},q,B4,.func (.func O) #[] P,a4,n4,A,zO,ae,b7,?_,λh=>Aq5 h,λ_=>ah,z1.trans e1,z2.trans e2,z3.trans e3,z4.trans e4,(λk l=>s4 k (s3 k (w k l))),?_,(g.subl ((tX _).2 (List.Sublist.cons_cons _ (List.Sublist.cons_cons _ (uI _))))).rebase,?_⟩,?_⟩;{show zY (qD (AC o).row q)=zY (q);rw[hr];rfl};{exact b6.trans (W.mono λk l=>λe=>(u.rng _ (xX _ (yH _ xI)) k e).1 ((λk l=>s4 k (s3 k (w k l))) k l))};{exact ai.frame (W.mono λk l=>λe=>(u.rng _ (xX _ (yH _ xI)) k e).1 l) λk l=>l};{show t.size-j2<t.size-j;omega}}|true=>{replace hr:(AC o).row=zY r:=hr;(conv=>whnf);(try refine B8.run ?_);refine L_ (cs:=Ad r (.func (.func y) #[] z)) BZ (AA (u.blk _ (X_ _ _ 1))) zA (L_ (cs:=Ad q (.func (.func O) #[] P)) BZ (AA (u.blk _ (X_ _ _ 2))) zA (As.of (Ae.mk (J6 .cat u bz ai) ?_)));rintro _ G7 ⟨B7,f7,rfl,s7,a7,c3,gj⟩;obtain⟨X,Y,rfl⟩:=gj.fn;refine BH (cs:=Ad (.cat r q) (.func (.func X) #[] Y)) c3 _ rfl (X_ _ _ 2) (by simp[Ad]) rfl λG8 D ck cm=>?_;rw[zG]at D;have e8:Ah (Ad q (.func (.func O) #[] P)) 0 (Ad (.cat r q) (.func (.func X) #[] Y))=Ad (.cat r q) (.func (.func X) #[] Y):=De rfl;replace D:B_ B7 G7 G8 (sP s t j2 a4 n4 A os ps++[pB 60 Z Aq,pB 60 q3 (Ad r (.func (.func y) #[] z)),pB 60 q5 (Ah (Ad q (.func (.func O) #[] P)) 0 (Ad (.cat r q) (.func (.func X) #[] Y)))]):=D;rw[e8]at D;have s8:∀k,B k->B7 k:=λk l=>s7 k (s4 k (s3 k (w k l)));have ag8:D_ B H G8:=(b6.trans (a7.mono λk l=>u.up (s4 k (s3 k (w k l))))).trans λk l=>D.old k (s8 k l);have c5:=gj.frame D.old λk l=>l;refine L_ (cs:=Ad (.cat r q) (.func (.func X) #[] Y)) BZ (AA (D.blk _ (X_ _ _ 2))) zA (BH (cs:=Ad (.cat r q) (.func (.func X) #[] Y)) D _ rfl (X_ _ _ 1) (by simp[Ad]) rfl λG9 g W c2=>?_);rw[zG]at g;have e9:Ah (Ad r (.func (.func y) #[] z)) 0 (Ad (.cat r q) (.func (.func X) #[] Y))=Ad (.cat r q) (.func (.func X) #[] Y):=De rfl;replace g:B_ B7 _ G9 (sP s t j2 a4 n4 A os ps++[pB 60 Z Aq,pB 60 q3 (Ah (Ad r (.func (.func y) #[] z)) 0 (Ad (.cat r q) (.func (.func X) #[] Y))),pB 60 q5 (Ad (.cat r q) (.func (.func X) #[] Y))]):=g;rw[e9]at g;(conv=>whnf);refine⟨rfl,(j2,zW),rfl,⟨{AC o with factor:=zY q},.cat r q,B7,.func (.func X) #[] Y,a4,n4,A,zO,ae,b7,?_,λh=>Aq5 h,λ_=>ah,z1.trans e1,z2.trans e2,z3.trans e3,z4.trans e4,s8,?_,(g.subl ((tX _).2 (List.Sublist.cons_cons _ (List.Sublist.cons_cons _ (uI _))))).rebase,?_⟩,?_⟩;{show zY (qD (AC o).row q)=zY (.cat r q);rw[hr];rfl};{exact ag8.trans (W.mono λk l=>λe=>(D.rng _ (xX _ (yH _ xI)) k e).1 (s8 k l))};{exact c5.frame (W.mono λk l=>λe=>(D.rng _ (xX _ (yH _ xI)) k e).1 l) λk l=>l};{show t.size-j2<t.size-j;omega}}}}}}}}}}};{rw[r_ (zO:t.size<=j)];refine L_ (cs:=Ad r (.func (.func y) #[] z)) BZ (AA (a1.blk _ (X_ _ _ 1))) zA (BH (cs:=Ad r (.func (.func y) #[] z)) a1 _ rfl (X_ _ _ 0) (by simp[Ad,Aq]) rfl λG9 g ja js=>?_);rw[zG,De rfl]at g;refine lN (cs:=Ad r (.func (.func y) #[] z)) BZ (AA (g.blk _ (X_ _ _ 0))) ?_;exact⟨j,o,r,R,hj,.inl zO,C,S,e1,e2,e3,e4,B2,_,rfl,w,N.trans λk l=>g.old k (w k l),⟨a2,n2,E,g.lft.rebase⟩,gv.frame g.old λk l=>l⟩}}
def Rq(f:AF):(AC f).factor=zV:=by unfold AC;split;{rename_i h;exact h};rfl
def Ei(f:AF):(C5 f).alt=f.alt/\(C5 f).place=f.place/\(C5 f).row=zV/\(C5 f).factor=zV:=by have⟨a,c,d,b⟩:=Im f;exact⟨a,b,rfl,Rq f⟩
def N4(f:AF):(C5 f).meet=zY (match f.meet with | none=>(AC f).row.getD .eps | some q=>if f.sign=38 then .and_ q ((AC f).row.getD .eps)else .minus q ((AC f).row.getD .eps)):=by have⟨c,a,b,d⟩:=Im f;show zY (match(AC f).meet with | none=>(AC f).row.getD .eps | some q=>if(AC f).sign=38 then .and_ q ((AC f).row.getD .eps)else .minus q ((AC f).row.getD .eps))=_;rw[a,b]
def R2(f:AF):(CQ f).alt=zY (match f.alt with | none=>(C5 f).meet.getD .eps | some q=>.alt q ((C5 f).meet.getD .eps)):=by have⟨a,b,c,d⟩:=Ei f;show zY (match(C5 f).alt with | none=>(C5 f).meet.getD .eps | some q=>.alt q ((C5 f).meet.getD .eps))=_;rw[a]
def Hn(f:AF):(CQ f).meet=zV/\(CQ f).place=f.place/\(CQ f).row=zV/\(CQ f).factor=zV:=by have⟨d,a,b,c⟩:=Ei f;exact⟨rfl,a,b,c⟩
structure An7(B:Nat->Prop)(H:Aa)(s q2 q3 i:Nat)(t:ByteArray)(os:List Int)(ps:List Pc)(f:AF)(fs:List AF)(j:Nat)(G:Aa):Prop where
 ex:∃(f':AF) (r:ReM) (B':Nat->Prop) (fn:v_) (a:Option Addr) (n cap:Nat),i<=j/\j<=t.size/\(j=t.size\/bt t j=124\/bt t j=38\/bt t j=45\/bt t j=41)/\Ch t ⟨i,f,fs⟩=Ch t ⟨j,f',fs⟩/\(C5 f').meet=zY r/\f'.alt=f.alt/\f'.place=f.place/\
  (∀k,B k->B' k)/\D_ B H G/\B_ B' G G (sP s t j a n cap os ps++[pB 60 q2 Aq,pB 60 q3 (Ad r fn)])/\CN B' G fn r
def V9{s:Nat}(hE:I6 H)(E:B 0)(ht:t.size<=1048576)(hi:i<=t.size)(a7:os.length=fs.length)(a8:fs.length<=1000)
  (a9:f.meet=zV) (ai:f.row=zV) (aj:f.factor=zV) (IH:∀i',i<i'->Mu t i') (sc:Sc B H s t i os ps):
  Cf prog 44 #[U_ s] H
   (λv H'=>∃j m r,i<=j/\j<=t.size/\(j=t.size\/bt t j=124\/bt t j=41)/\Ch t ⟨i,f,fs⟩=Ch t ⟨j,m,fs⟩/\(C5 m).meet=zY r/\m.alt=f.alt/\m.place=f.place/\SR B H s t j os ps r v H')
   (λx H'=>SE B H t ⟨i,f,fs⟩ x H'):=by
 have⟨a,n,cap,st⟩:=sc;refine Cf.of_vc func44 rfl (call44 _) (Af (.agg Aq.toArray) Aq DG rfl ?_);intro F H1 aw ax ak am;have F_:=st.box aw ax ak am;refine As.mk (nZ (f:=f) (fs:=fs) (FO hE E F_.old) E ht hi a7 a8 ai aj IH (B:=B) (ps:=ps++[pB 60 F Aq]) ⟨a,n,cap,F_.rebase⟩) ?_ ?_;rotate_left
 {intro x H7 h;exact h.from rfl F_.old λk b=>b};rintro _ H2 ⟨J,f1,r1,K,L,M,N,O,e1,e2,e3,e5,⟨B1,f3,rfl,s1,a1,⟨P,Q,c,W⟩,gs⟩⟩;obtain⟨g1,c1,rfl⟩:=gs.fn;replace W:B_ B1 H2 H2 (sP s t J P Q c os ps++[pB 60 F Aq]):=W;refine Af (.agg Aq.toArray) Aq DG rfl ?_;intro z H3 ay az ao ap;have R:=W.box ay az ao ap;rw[zS]at R;replace R:B_ B1 H2 H3 (sP s t J P Q c os ps++[pB 60 F Aq,pB 60 z Aq]):=R;refine BH (cs:=Ad r1 (.func (.func g1) #[] c1)) R _ rfl (X_ _ _ 1) (by simp[Ad,Aq]) rfl λH4 C b9 bd=>?_;rw[zG,De rfl]at C;replace C:B_ B1 H2 H4 (sP s t J P Q c os ps++[pB 60 F Aq,pB 60 z (Ad r1 (.func (.func g1) #[] c1))]):=C;have aq:D_ B H H4:=(F_.old.trans a1).trans λk b=>C.old k (s1 k b);(conv=>whnf);refine Gx.mk [] (λ_:Nat=>[]) (λj G=>An7 B H s F z i t os ps f fs j G) (λj _=>t.size-j) ?_ ?_;{(conv=>whnf);exact⟨J,rfl,⟨f1,r1,B1,.func (.func g1) #[] c1,P,Q,c,K,L,M,N,by rw[N4,e2,a9,O],e1,e5,s1,aq,C.rebase,gs.frame C.old λk b=>b⟩⟩};{
 rintro j G b8 ⟨m,r,B2,f2,P,Q,c,ar,hj,a6,X,hm,ha,e4,A,ag,au,gv⟩;obtain⟨w,y,rfl⟩:=gv.fn;clear st F_ W R C gs ak ao am ap a1 aq s1;refine As.of (Al (FN (au.blk 0 rfl)) λG1 b0=>?_);have Y:=au.call b0;by_cases h0:j<t.size;{
 rw[n_ (show¬t.size<=j by omega)];have a6:bt t j=124\/bt t j=38\/bt t j=45\/bt t j=41:=a6.resolve_left zO;refine As.of (Al (Eb (Y.blk 0 rfl) h0) λG2 b4=>?_);have I:=Y.call b4;(conv=>whnf);try refine B8.run ?_
 (conv=>whnf);by_cases Z:bt t j=38;{
 have d:(((bt t j:Nat):Int)==38)=zW:=by rw[Z];rfl
 (conv=>whnf);rw[d];refine G_ Bg ?_;refine lT (v:=A_ j) E_ ((I.blk 0 rfl).ce rfl) ?_;(conv=>whnf);rw[W_ (x:=(j:Int)+1) zO];refine G_ Bg (Bb I 0 E_ rfl zZ rfl λG3 g=>?_);replace g:B_ B2 G G3 (sP s t (j+1) P Q c os ps++[pB 60 F Aq,pB 60 z (Ad r (.func (.func w) #[] y))]):=g;have D:D_ B H G3:=ag.trans λk b=>g.old k (A k b);have ab:=gv.frame g.old λk b=>b;have o:Ch t ⟨i,f,fs⟩=Ch t ⟨j+1,{C5 m with sign:=38},fs⟩:=X.trans (EY (s:=⟨j,m,fs⟩) h0 (by have:=JA (t:=t) (i:=j) (f:=m) (fs:=fs) (.inl Z);rw[Z]at this;exact this));refine Du.held (λk=>k=z) [4] (sq [0,1] (.f 2 (.f 3 (.f 4 .e)))) (GZ _ _) rfl zX (L_ (cs:=Ad r (.func (.func w) #[] y)) BZ (AA (g.blk _ (X_ _ _ 1))) rfl (As.mk (nZ (f:={C5 m with sign:=38}) (fs:=fs) (FO hE E D) (A _ E) ht zO a7 a8 rfl (Ei m).2.2.2 (λi' b5=>IH i' zO) (B:=B2) (ps:=ps++[pB 60 F Aq,pB 60 z (Ad r (.func (.func w) #[] y))]) ⟨P,Q,c,g.rebase⟩) ?_ ?_));rotate_left
 {intro x H7 h;exact h.from o D A};rintro _ G4 ⟨J,f1,S,K,L,M,N,O,e1,e2,e3,e5,⟨B3,f3,rfl,s3,a3,⟨a4,n4,p,q⟩,gs⟩⟩;replace q:B_ B3 G4 G4 (sP s t J a4 n4 p os ps++[pB 60 F Aq,pB 60 z (Ad r (.func (.func w) #[] y))]):=q;refine⟨λk b=>by rw[show k=z from b];exact(q.blk _ (X_ _ _ 1)).trans (g.blk _ (X_ _ _ 1)).symm,?_⟩;have ae:D_ B H G4:=D.trans λk b=>a3 k (A k b);refine As.of (Ae.mk (J6 .and_ q (ab.frame a3 s3) gs) ?_);rintro _ G5 ⟨B5,f5,rfl,s5,a5,T,gj⟩;refine⟨λk b=>by rw[show k=z from b];exact(T.blk _ (X_ _ _ 1)).trans (g.blk _ (X_ _ _ 1)).symm,?_⟩;obtain⟨U,V,rfl⟩:=gj.fn;refine BH (cs:=Ad (opR .and_ r S) (.func (.func U) #[] V)) T _ rfl (X_ _ _ 1) (by simp[Ad]) rfl λG6 l b6 b7=>?_;rw[zG]at l;have e6:Ah (Ad r (.func (.func w) #[] y)) 0 (Ad (opR .and_ r S) (.func (.func U) #[] V))=Ad (opR .and_ r S) (.func (.func U) #[] V):=De rfl;replace l:B_ B5 G5 G6 (sP s t J a4 n4 p os ps++[pB 60 F Aq,pB 60 z (Ah (Ad r (.func (.func w) #[] y)) 0 (Ad (opR .and_ r S) (.func (.func U) #[] V)))]):=l;rw[e6]at l;have s6:∀k,B k->B5 k:=λk b=>s5 k (s3 k (A k b));have ah:D_ B H G6:=(ae.trans (a5.mono λk b=>q.up (s3 k (A k b)))).trans λk b=>l.old k (s6 k b);(conv=>whnf);refine⟨rfl,J,rfl,⟨f1,opR .and_ r S,B5,.func (.func U) #[] V,a4,n4,p,zO,L,M,o.trans N,by rw[N4,e2,e3,show({C5 m with sign:=38}:AF).meet=(C5 m).meet from rfl,hm];show zY (if 38=38 then _ else _)=_;rw[J_ rfl,O]<;>rfl,e1.trans ((Ei m).1.trans ha),e5.trans ((Ei m).2.1.trans e4),s6,ah,l.rebase,gj.frame l.old λk b=>b⟩,zO⟩};{
 have d:(((bt t j:Nat):Int)==38)=zU:=Gk Z;(conv=>whnf);rw[d];clear d;by_cases a0:bt t j=45;{
 have d:(((bt t j:Nat):Int)==45)=zW:=by rw[a0];rfl
 (conv=>whnf);rw[d];refine G_ Bg ?_;refine lT (v:=A_ j) E_ ((I.blk 0 rfl).ce rfl) ?_;(conv=>whnf);rw[W_ (x:=(j:Int)+1) zO];refine G_ Bg (Bb I 0 E_ rfl zZ rfl λG3 g=>?_);replace g:B_ B2 G G3 (sP s t (j+1) P Q c os ps++[pB 60 F Aq,pB 60 z (Ad r (.func (.func w) #[] y))]):=g;have D:D_ B H G3:=ag.trans λk b=>g.old k (A k b);have ab:=gv.frame g.old λk b=>b;have o:Ch t ⟨i,f,fs⟩=Ch t ⟨j+1,{C5 m with sign:=45},fs⟩:=X.trans (EY (s:=⟨j,m,fs⟩) h0 (by have:=JA (t:=t) (i:=j) (f:=m) (fs:=fs) (.inr a0);rw[a0]at this;exact this));refine Du.held (λk=>k=z) [4] (sq [0,1] (.f 2 (.f 3 (.f 4 .e)))) (GZ _ _) rfl zX (L_ (cs:=Ad r (.func (.func w) #[] y)) BZ (AA (g.blk _ (X_ _ _ 1))) rfl (As.mk (nZ (f:={C5 m with sign:=45}) (fs:=fs) (FO hE E D) (A _ E) ht zO a7 a8 rfl (Ei m).2.2.2 (λi' b5=>IH i' zO) (B:=B2) (ps:=ps++[pB 60 F Aq,pB 60 z (Ad r (.func (.func w) #[] y))]) ⟨P,Q,c,g.rebase⟩) ?_ ?_));rotate_left
 {intro x H7 h;exact h.from o D A};rintro _ G4 ⟨J,f1,S,K,L,M,N,O,e1,e2,e3,e5,⟨B3,f3,rfl,s3,a3,⟨a4,n4,p,q⟩,gs⟩⟩;replace q:B_ B3 G4 G4 (sP s t J a4 n4 p os ps++[pB 60 F Aq,pB 60 z (Ad r (.func (.func w) #[] y))]):=q;refine⟨λk b=>by rw[show k=z from b];exact(q.blk _ (X_ _ _ 1)).trans (g.blk _ (X_ _ _ 1)).symm,?_⟩;have ae:D_ B H G4:=D.trans λk b=>a3 k (A k b);refine As.of (Ae.mk (J6 .minus q (ab.frame a3 s3) gs) ?_);rintro _ G5 ⟨B5,f5,rfl,s5,a5,T,gj⟩;refine⟨λk b=>by rw[show k=z from b];exact(T.blk _ (X_ _ _ 1)).trans (g.blk _ (X_ _ _ 1)).symm,?_⟩;obtain⟨U,V,rfl⟩:=gj.fn;refine BH (cs:=Ad (opR .minus r S) (.func (.func U) #[] V)) T _ rfl (X_ _ _ 1) (by simp[Ad]) rfl λG6 l b6 b7=>?_;rw[zG]at l;have e6:Ah (Ad r (.func (.func w) #[] y)) 0 (Ad (opR .minus r S) (.func (.func U) #[] V))=Ad (opR .minus r S) (.func (.func U) #[] V):=De rfl;replace l:B_ B5 G5 G6 (sP s t J a4 n4 p os ps++[pB 60 F Aq,pB 60 z (Ah (Ad r (.func (.func w) #[] y)) 0 (Ad (opR .minus r S) (.func (.func U) #[] V)))]):=l;rw[e6]at l;have s6:∀k,B k->B5 k:=λk b=>s5 k (s3 k (A k b));have ah:D_ B H G6:=(ae.trans (a5.mono λk b=>q.up (s3 k (A k b)))).trans λk b=>l.old k (s6 k b);(conv=>whnf);refine⟨rfl,J,rfl,⟨f1,opR .minus r S,B5,.func (.func U) #[] V,a4,n4,p,zO,L,M,o.trans N,by rw[N4,e2,e3,show({C5 m with sign:=45}:AF).meet=(C5 m).meet from rfl,hm];show zY (if 45=38 then _ else _)=_;rw[I_ zQ,O]<;>rfl,e1.trans ((Ei m).1.trans ha),e5.trans ((Ei m).2.1.trans e4),s6,ah,l.rebase,gj.frame l.old λk b=>b⟩,zO⟩};{have d:(((bt t j:Nat):Int)==45)=zU:=Gk a0;(conv=>whnf);rw[d];refine L_ (cs:=Ad r (.func (.func w) #[] y)) BZ (AA (I.blk _ (X_ _ _ 1))) zA (BH (cs:=Ad r (.func (.func w) #[] y)) I _ rfl (X_ _ _ 0) (by simp[Ad,Aq]) rfl λG9 u ja js=>?_);rw[zG,De rfl]at u;refine lN (cs:=Ad r (.func (.func w) #[] y)) BZ (AA (u.blk _ (X_ _ _ 0))) ?_;exact⟨j,m,r,ar,hj,zO,X,hm,ha,e4,B2,_,rfl,A,ag.trans λk b=>u.old k (A k b),⟨P,Q,c,u.lft.rebase⟩,gv.frame u.old λk b=>b⟩}}};{rw[r_ (zO:t.size<=j)];refine L_ (cs:=Ad r (.func (.func w) #[] y)) BZ (AA (Y.blk _ (X_ _ _ 1))) zA (BH (cs:=Ad r (.func (.func w) #[] y)) Y _ rfl (X_ _ _ 0) (by simp[Ad,Aq]) rfl λG9 u ja js=>?_);rw[zG,De rfl]at u;refine lN (cs:=Ad r (.func (.func w) #[] y)) BZ (AA (u.blk _ (X_ _ _ 0))) ?_;exact⟨j,m,r,ar,hj,zO,X,hm,ha,e4,B2,_,rfl,A,ag.trans λk b=>u.old k (A k b),⟨P,Q,c,u.lft.rebase⟩,gv.frame u.old λk b=>b⟩}}
structure AltI(B:Nat->Prop)(H:Aa)(s q2 q3 i:Nat)(t:ByteArray)(os:List Int)(ps:List Pc)(f:AF)(fs:List AF)(j:Nat)(G:Aa):Prop where
 ex:∃(f':AF) (r:ReM) (B':Nat->Prop) (fn:v_) (a:Option Addr) (n cap:Nat),i<=j/\j<=t.size/\(j=t.size\/bt t j=124\/bt t j=41)/\Ch t ⟨i,f,fs⟩=Ch t ⟨j,f',fs⟩/\(CQ f').alt=zY r/\f'.place=f.place/\
  (∀k,B k->B' k)/\D_ B H G/\B_ B' G G (sP s t j a n cap os ps++[pB 60 q2 Aq,pB 60 q3 (Ad r fn)])/\CN B' G fn r
def jG{s:Nat}(hE:I6 H)(F:B 0)(ht:t.size<=1048576)(hi:i<=t.size)(Y:os.length=fs.length)(Z:fs.length<=1000)
  (a0:f.alt=zV) (R:f.meet=zV) (a6:f.row=zV) (a7:f.factor=zV) (IH:∀i',i<i'->Mu t i') (sc:Sc B H s t i os ps):
  Cf prog 14 #[U_ s] H
   (λv H'=>∃j p r,i<=j/\j<=t.size/\(j=t.size\/bt t j=41)/\Ch t ⟨i,f,fs⟩=Ch t ⟨j,p,fs⟩/\(CQ p).alt=zY r/\p.place=f.place/\SR B H s t j os ps r v H')
   (λx H'=>SE B H t ⟨i,f,fs⟩ x H'):=by
 have⟨a,n,cap,st⟩:=sc;refine Cf.of_vc func14 rfl (call14 _) (Af (.agg Aq.toArray) Aq DG rfl ?_);intro I H1 am ao a8 a9;have F_:=st.box am ao a8 a9;refine As.mk (V9 (f:=f) (fs:=fs) (FO hE F F_.old) F ht hi Y Z R a6 a7 IH (B:=B) (ps:=ps++[pB 60 I Aq]) ⟨a,n,cap,F_.rebase⟩) ?_ ?_;rotate_left
 {intro x H7 h;exact h.from rfl F_.old λk b=>b};rintro _ H2 ⟨O,f1,r1,P,S,T,U,V,e1,e5,⟨B1,f3,rfl,s1,a1,⟨J,K,c,L⟩,gs⟩⟩;obtain⟨g1,c1,rfl⟩:=gs.fn;replace L:B_ B1 H2 H2 (sP s t O J K c os ps++[pB 60 I Aq]):=L;refine Af (.agg Aq.toArray) Aq DG rfl ?_;intro D H3 ap aq ab ae;have w:=L.box ap aq ab ae;rw[zS]at w;replace w:B_ B1 H2 H3 (sP s t O J K c os ps++[pB 60 I Aq,pB 60 D Aq]):=w;refine BH (cs:=Ad r1 (.func (.func g1) #[] c1)) w _ rfl (X_ _ _ 1) (by simp[Ad,Aq]) rfl λH4 m b0 b4=>?_;rw[zG,De rfl]at m;replace m:B_ B1 H2 H4 (sP s t O J K c os ps++[pB 60 I Aq,pB 60 D (Ad r1 (.func (.func g1) #[] c1))]):=m;have ah:D_ B H H4:=(F_.old.trans a1).trans λk b=>m.old k (s1 k b);(conv=>whnf);refine Gx.mk [] (λ_:Nat=>[]) (λj G=>AltI B H s I D i t os ps f fs j G) (λj _=>t.size-j) ?_ ?_;{(conv=>whnf);exact⟨O,rfl,⟨f1,r1,B1,.func (.func g1) #[] c1,J,K,c,P,S,T,U,by rw[R2,e1,a0,V];rfl,e5,s1,ah,m.rebase,gs.frame m.old λk b=>b⟩⟩};{
 rintro j G az ⟨p,r,B2,f2,J,K,c,ai,hj,Q,W,hm,e4,E,ag,aj,gv⟩;obtain⟨q,u,rfl⟩:=gv.fn;clear st F_ L w m gs a8 ab a9 ae a1 ah s1;refine As.of (Al (FN (aj.blk 0 rfl)) λG1 ar=>?_);have M:=aj.call ar;by_cases h0:j<t.size;{
 rw[n_ (show¬t.size<=j by omega)];have Q:bt t j=124\/bt t j=41:=Q.resolve_left zO;refine As.of (Al (Eb (M.blk 0 rfl) h0) λG2 au=>?_);have N:=M.call au;(conv=>whnf);try refine B8.run ?_
 (conv=>whnf);by_cases y:bt t j=124;{
 have d:(((bt t j:Nat):Int)==124)=zW:=by rw[y];rfl
 (conv=>whnf);rw[d];refine G_ Bg ?_;refine lT (v:=A_ j) E_ ((N.blk 0 rfl).ce rfl) ?_;(conv=>whnf);rw[W_ (x:=(j:Int)+1) zO];refine G_ Bg (Bb N 0 E_ rfl zZ rfl λG3 l=>?_);replace l:B_ B2 G G3 (sP s t (j+1) J K c os ps++[pB 60 I Aq,pB 60 D (Ad r (.func (.func q) #[] u))]):=l;have X:D_ B H G3:=ag.trans λk b=>l.old k (E k b);have aw:=gv.frame l.old λk b=>b;have z:Ch t ⟨i,f,fs⟩=Ch t ⟨j+1,CQ p,fs⟩:=W.trans (EY (s:=⟨j,p,fs⟩) h0 (RU y));refine Du.held (λk=>k=D) [4] (sq [0,1] (.f 2 (.f 3 (.f 4 .e)))) (GZ _ _) rfl zX (L_ (cs:=Ad r (.func (.func q) #[] u)) BZ (AA (l.blk _ (X_ _ _ 1))) rfl (As.mk (V9 (f:=CQ p) (fs:=fs) (FO hE F X) (E _ F) ht zO Y Z (Hn p).1 (Hn p).2.2.1 (Hn p).2.2.2 (λi' b5=>IH i' zO) (B:=B2) (ps:=ps++[pB 60 I Aq,pB 60 D (Ad r (.func (.func q) #[] u))]) ⟨J,K,c,l.rebase⟩) ?_ ?_));rotate_left
 {intro x H7 h;exact h.from z X E};rintro _ G4 ⟨O,f1,r2,P,S,T,U,V,e1,e5,⟨B3,f3,rfl,s3,a3,⟨a4,n4,A,C⟩,gs⟩⟩;replace C:B_ B3 G4 G4 (sP s t O a4 n4 A os ps++[pB 60 I Aq,pB 60 D (Ad r (.func (.func q) #[] u))]):=C;refine⟨λk b=>by rw[show k=D from b];exact(C.blk _ (X_ _ _ 1)).trans (l.blk _ (X_ _ _ 1)).symm,?_⟩;have ax:D_ B H G4:=X.trans λk b=>a3 k (E k b);refine As.of (Ae.mk (J6 .alt C (aw.frame a3 s3) gs) ?_);rintro _ G5 ⟨B5,f5,rfl,s5,a5,ak,gj⟩;refine⟨λk b=>by rw[show k=D from b];exact(ak.blk _ (X_ _ _ 1)).trans (l.blk _ (X_ _ _ 1)).symm,?_⟩;obtain⟨g5,c5,rfl⟩:=gj.fn;refine BH (cs:=Ad (opR .alt r r2) (.func (.func g5) #[] c5)) ak _ rfl (X_ _ _ 1) (by simp[Ad]) rfl λG6 o b6 b7=>?_;rw[zG]at o;have e6:Ah (Ad r (.func (.func q) #[] u)) 0 (Ad (opR .alt r r2) (.func (.func g5) #[] c5))=Ad (opR .alt r r2) (.func (.func g5) #[] c5):=De rfl;replace o:B_ B5 G5 G6 (sP s t O a4 n4 A os ps++[pB 60 I Aq,pB 60 D (Ah (Ad r (.func (.func q) #[] u)) 0 (Ad (opR .alt r r2) (.func (.func g5) #[] c5)))]):=o;rw[e6]at o;have s6:∀k,B k->B5 k:=λk b=>s5 k (s3 k (E k b));have ay:D_ B H G6:=(ax.trans (a5.mono λk b=>C.up (s3 k (E k b)))).trans λk b=>o.old k (s6 k b);(conv=>whnf);refine⟨rfl,O,rfl,⟨f1,opR .alt r r2,B5,.func (.func g5) #[] c5,a4,n4,A,zO,S,T,z.trans U,by rw[R2,e1,hm,V];rfl,e5.trans ((Hn p).2.1.trans e4),s6,ay,o.rebase,gj.frame o.old λk b=>b⟩,zO⟩};{have d:(((bt t j:Nat):Int)==124)=zU:=Gk y;(conv=>whnf);rw[d];refine L_ (cs:=Ad r (.func (.func q) #[] u)) BZ (AA (N.blk _ (X_ _ _ 1))) zA (BH (cs:=Ad r (.func (.func q) #[] u)) N _ rfl (X_ _ _ 0) (by simp[Ad,Aq]) rfl λG9 g ja js=>?_);rw[zG,De rfl]at g;refine lN (cs:=Ad r (.func (.func q) #[] u)) BZ (AA (g.blk _ (X_ _ _ 0))) ?_;exact⟨j,p,r,ai,hj,zO,W,hm,e4,B2,_,rfl,E,ag.trans λk b=>g.old k (E k b),⟨J,K,c,g.lft.rebase⟩,gv.frame g.old λk b=>b⟩}};{rw[r_ (zO:t.size<=j)];refine L_ (cs:=Ad r (.func (.func q) #[] u)) BZ (AA (M.blk _ (X_ _ _ 1))) zA (BH (cs:=Ad r (.func (.func q) #[] u)) M _ rfl (X_ _ _ 0) (by simp[Ad,Aq]) rfl λG9 g ja js=>?_);rw[zG,De rfl]at g;refine lN (cs:=Ad r (.func (.func q) #[] u)) BZ (AA (g.blk _ (X_ _ _ 0))) ?_;exact⟨j,p,r,ai,hj,zO,W,hm,e4,B2,_,rfl,E,ag.trans λk b=>g.old k (E k b),⟨J,K,c,g.lft.rebase⟩,gv.frame g.old λk b=>b⟩}}
def XQ{t:ByteArray}(g:t.size<=1048576):∀(n i:Nat),t.size-i<=n->i<=t.size->Mu t i
 | 0,i,hn,e=>λB H s h ps f fs j a e b c k l m o sc=>jG j a g e b c k l m o (λp q=>λB H s h ps f fs _ _ d=>absurd d (by omega)) sc
 | n+1,i,hn,e=>λB H s h ps f fs j a e b c k l m o sc=>jG j a g e b c k l m o (λp q=>by
    by_cases r:p<=t.size
    ·exact XQ g n p (by omega) r
    ·exact λB H s h ps f fs _ _ d=>absurd d (by omega)) sc
def RP(q2 q3:Nat)(v:v_)(c e:Nat):List Pc:=[pB 24 q2 [v],pB 27 q3 (Aw c e)]
def YV{a:Nat}(k:K H):FS prog 13 #[U_ a,U_ b] .returning .returning H K:=by refine FS.mk (R:=λH'=>H'=H) (Jh (R:=λH'=>H'=H) func13 rfl ⟨⟨_,rfl⟩,rfl,rfl,rfl,rfl,rfl⟩ .ret rfl ?_) (λH' h=>by rw[h];exact k);(conv=>whnf);refine⟨rfl,?_⟩;refine Tt underlying20 ?_;(conv=>whnf)
def YU{a e c0 e0:Nat}(i:B_ B H0 H (RP a b v c0 e0++ps))(k:∀H',B_ B H0 H' (RP a b .nilIface c e++ps)->K H'):FS prog 13 #[U_ a,U_ b] (.panicking (pe (EP c e))) (.panicking [{v:=EP c e,recovered:=zW}]) H K:=by refine FS.mk (R:=λH'=>B_ B H0 H' (RP a b .nilIface c e++ps)) (Jh (R:=λH'=>B_ B H0 H' (RP a b .nilIface c e++ps)) func13 rfl ⟨⟨_,rfl⟩,rfl,rfl,rfl,rfl,rfl⟩ (.pan _) rfl ?_) k;(conv=>whnf);refine⟨rfl,?_⟩;refine YH underlying20 (Ap.held (λ_=>False) 4 (sq [0,1] (.f 2 (.f 3 .e))) rfl zX (Wj underlying27 (λj h=>by cases h) (Bb i 0 F0 rfl zZ rfl λH1 F_=>(⟨λk g=>g.elim,?_⟩))));refine AI (cs:=Aw c e) F_ 1 rfl rfl (M_ _) rfl λH3 d=>(⟨λk g=>g.elim,?_⟩);(conv=>whnf);have e2:Ah (Aw c0 e0) 0 (Aw c e)=Aw c e:=Bo rfl;rw[e2]at d;exact d
def NV(t:ByteArray)(v:v_):Prop:=match Dd t with
 | .inl (c,p)=>v= .tuple #[.nilIface,.agg #[A_ c,A_ p,.string ⟨#[]⟩]]
 | .inr r=>v= .tuple #[Ax r,.agg #[A_ 0,A_ 0,.string ⟨#[]⟩]]
def Ah8:(prog.info? 27).bind (·.zero)=zY (FE 0 0):=zX
def Ku{e:Nat}(h:S_ H b 27 (Aw c e)):Bi H b 0 (Aw c e):=h.cells (λj v a=>by rw[K_];exact a)
def YW(hE:I6 H):Ai prog 5 #[.string t] H λv H'=>D_ (H_ H) H H'/\NV t v:=by
 refine Ai.of_defer func5 rfl (call5 _) ⟨rfl,rfl,rfl,⟨_,rfl⟩,rfl,rfl⟩ (λvs w=>call13 _ w) (Af .nilIface [.nilIface] rfl rfl ?_);intro Q H1 R S T U;have F_:=(St.nil H).box R S T U;refine Af (FE 0 0) (Aw 0 0) Ah8 rfl ?_;intro V H2 W X Y Z;have b:=F_.box W X Y Z;replace b:B_ (H_ H) H H2 (RP Q V .nilIface 0 0):=b;by_cases n:1048576<t.size;{have d1:zT (1048576<(t.size:Int))=zW:=t_;(conv=>whnf);rw[d1];refine Au underlying27 rfl _ rfl (Aw 1 0) rfl (Bb b 0 F0 rfl zZ rfl λH3 a0=>(AI (cs:=Aw 1 0) a0 1 rfl rfl (M_ _) rfl λH4 i=>?_));have e2:Ah (Aw 0 0) 0 (Aw 1 0)=Aw 1 0:=Bo rfl;rw[e2]at i;refine lT (v:=.nilIface) F0 ((i.blk 0 rfl).ce rfl) ?_;refine L_ (cs:=Aw 1 0) P5 (Ku (i.blk 1 rfl)) zA (⟨i.old,?_⟩);unfold NV Dd;rw[J_ n]<;>rfl};have d1:zT (1048576<(t.size:Int))=zU:=g_;have F:Dd t=Ch t ⟨0,Fq (-1),[]⟩:=by unfold Dd;rw[I_ n]
 have q:∀{c p:Nat},Ch t ⟨0,Fq (-1),[]⟩= .inl (c,(p:Int))->NV t (.tuple #[.nilIface,FE c p]):=λh=>by{unfold NV;rw[F,h];rfl};(conv=>whnf);rw[d1];(conv=>whnf);refine⟨rfl,?_⟩;refine Au underlying57 rfl _ rfl (pY t 0 (.slice zV 0 0)) rfl (BI (pY t 0 (.slice zV 0 0)) rfl ?_);intro s H3 a1 a3 a5 a6;have G:=((St.nil H2).box a1 a3 a5 a6).nils wM 3;have u:D_ (H_ H2) H2 H3:=G.old;have y:I6 H2:=FO hE (B:=H_ H) hE.2 b.old;have a7:I6 H3:=FO y (B:=H_ H2) y.2 u
 have z:∀{H4:Aa} {x:v_} (fr:Fr) (K:Aa->Prop),SE (H_ H2) H3 t ⟨0,Fq (-1),[]⟩ x H4->(∀(c p:Nat) (H5:Aa),NV t (.tuple #[.nilIface,FE c p])->B_ (H_ H) H H5 (RP Q V .nilIface c p)->K H5)->
   FS prog 13 #[U_ Q,U_ V] (.panicking (pe x)) (.panicking [{v:=x,recovered:=zW}]) H4 K:=λfr K ⟨c,p,h1,h2,h3⟩ k=>by
  subst h2;exact YU (ps:=[]) (b.call (u.trans h3)) λH5 d=>k c p H5 (q h1) d
 refine As.mk (XQ zO t.size 0 zO zO (H_ H2) H3 s [] [] (Fq (-1)) [] a7 y.2 zO rfl zQ rfl rfl rfl rfl ⟨zV,0,0,G.rebase⟩) ?_ ?_;{rintro _ H4 ⟨j,O,r,am,hj,I,J,a8,ao,⟨B1,f1,rfl,s1,a4,⟨a2,n2,o,i⟩,gv⟩⟩;obtain⟨g1,P,rfl⟩:=gv.fn;have a9:D_ (H_ H2) H2 H4:=u.trans a4;refine Af (.agg Aq.toArray) Aq DG rfl ?_;intro q5 H5 ab ae ag ah;have d:=i.box ab ae ag ah;refine BH (cs:=Ad r (.func (.func g1) #[] P)) d 2 rfl rfl (by simp[Ad,Aq]) rfl λH6 l ap aq=>?_;replace l:B_ B1 H4 H6 [pSc s t j (.slice a2 n2 o),pS wM 3 a2 n2 o [],pB 60 q5 (Ah Aq 0 (Ad r (.func (.func g1) #[] P)))]:=l;rw[De rfl]at l;have L:D_ (H_ H2) H2 H6:=a9.trans λk A=>l.old k (s1 k A);refine B8.run (As.of (Al (FN (l.blk 0 rfl)) λH7 M=>?_));have m:=l.call M;have C:D_ (H_ H2) H2 H7:=L.trans (M.mono λk A=>An L A);by_cases h0:j<t.size;{have ai:bt t j=41:=by{rcases I with h | h;omega;exact h};rw[n_ (show¬t.size<=j by omega)];refine G_ Bg ?_;refine lT (v:=A_ j) E_ ((m.blk 0 rfl).ce rfl) ?_;refine As.mk (Dk (c:=20) (e:=j)) (λ_ _ h=>h.elim) ?_;rintro _ _ ⟨rfl,rfl⟩;(conv=>whnf);refine YU (ps:=[]) (b.call C) λH8 f=>?_;refine lT (v:=.nilIface) F0 ((f.blk 0 rfl).ce rfl) ?_;refine lN (cs:=Aw 20 j) P5 (Ku (f.blk 1 rfl)) ?_;exact⟨f.old,q (J.trans (Ft (s:=⟨j,O,[]⟩) h0 (Na ai)))⟩};rw[r_ (zO:t.size<=j)];have g:Ch t ⟨0,Fq (-1),[]⟩=(if 2000<r.nodes then .inl (24,0)else .inr r):=by{rw[J,Qz (s:=⟨j,O,[]⟩) h0];show(if 2000<((CQ O).alt.getD .eps).nodes then Sum.inl (24,0)else Sum.inr ((CQ O).alt.getD .eps))=_;rw[a8];rfl};have k5:S_ H7 q5 60 (Ad r (.func (.func g1) #[] P)):=m.blk 2 rfl;refine G_ Tg ?_;refine C_ (v:=A_ ((Z' r:Nat):Int)) E_ (by rw[k5.cell];rfl) zA ?_;by_cases hn:2000<r.nodes;{have d2:zT (2000<((Z' r:Nat):Int))=zW:=r_ (by unfold Z';omega);rw[J_ hn]at g;have f:=b.call C;(conv=>whnf);rw[d2];refine Au underlying27 rfl _ rfl (Aw 24 0) rfl (Bb f 0 F0 rfl zZ rfl λH9 D=>(AI (cs:=Aw 24 0) D 1 rfl rfl (M_ _) rfl λH10 a=>?_));have e2:Ah (Aw 0 0) 0 (Aw 24 0)=Aw 24 0:=Bo rfl;rw[e2]at a;(conv=>whnf);refine YV ?_;refine lT (v:=.nilIface) F0 ((a.blk 0 rfl).ce rfl) ?_;refine lN (cs:=Aw 24 0) P5 (Ku (a.blk 1 rfl)) ?_;exact⟨a.old,q (c:=24) (p:=0) g⟩};have d2:zT (2000<((Z' r:Nat):Int))=zU:=n_ (by unfold Z';omega);rw[I_ hn]at g;(conv=>whnf);rw[d2];refine G_ Th ?_;refine C_ (v:=.func (.func g1) #[] P) oJ (by rw[k5.cell];rfl) zA ?_;have⟨g2,c2,aj,E⟩:=AlX (gv.frame m.old λk A=>A) (λk A=>m.up A);injection aj with hg1 hg2 hg3;injection hg1 with hg1;subst hg1 hg3;(conv=>whnf);rw[OQ];refine As.of (Al (E H7 (D_.refl _ _)) λH8 ak=>?_);have f:=(b.call C).call ak;have⟨T1,v1,e1⟩:=K4 r;refine Au underlying27 rfl _ rfl (Aw 0 0) rfl (Bb f 0 F0 rfl zZ (IN r) λH9 D=>(AI (cs:=Aw 0 0) D 1 rfl rfl (M_ _) rfl λH10 a=>?_));have e2:Ah (Aw 0 0) 0 (Aw 0 0)=Aw 0 0:=Bo rfl;rw[e2]at a;(conv=>whnf);refine YV ?_;refine lT (v:=Ax r) F0 ((a.blk 0 rfl).ce rfl) ?_;refine L_ (cs:=Aw 0 0) P5 (Ku (a.blk 1 rfl)) zA (⟨a.old,?_⟩);unfold NV;rw[F,g];rfl};intro x H4 h;(conv=>whnf);refine z [] _ h λc p H5 N d=>?_;refine lT (v:=.nilIface) F0 ((d.blk 0 rfl).ce rfl) ?_;refine lN (cs:=Aw c p) P5 (Ku (d.blk 1 rfl)) ?_;exact⟨d.old,N⟩
def OC(t:ByteArray)(f:AF):Prop:= -1<=f.place/\f.place<=(t.size:Int)
structure Ag9(t:ByteArray)(s:RdS):Prop where
 f:OC t s.f
 fs:∀g∈s.fs,OC t g
def mH(t:ByteArray)(c:Nat)(p:Int):Prop:=c≠0/\c<=30/\ -1<=p/\p<=(t.size:Int)+10
def S1(t:ByteArray):Sum (Nat×Int) ReM->Prop | .inl (c,p)=>mH t c p | .inr r=>r.nodes<=2000
def AmX{m:Nat}{e:Nat×Nat}(h:upM t m i= .inl e):e.1=20/\e.2<=i+1:=by unfold upM at h;split at h;{split at h;{cases h};split at h;{cases h};cases h;exact⟨rfl,M_ _⟩};cases h
def Ah2{p m:Nat}{n:Int}{e:Nat×Nat}(h:Jk t p m n i= .inl e):(e.1=20/\e.2=i)\/(e.1=22/\e.2=p):=by unfold Jk at h;split at h;{split at h;{cases h;exact .inr ⟨rfl,rfl⟩};cases h};cases h;exact .inl ⟨rfl,rfl⟩
def W6{e:Nat×Nat}(h:Cj t i= .inl e):e.1≠0/\e.1<=30/\e.2<=i+10:=by unfold Cj at h;split at h;{obtain⟨g,j,-⟩:=Ii (t:=t) 3 (i+1) 0;generalize Ca t 3 (i+1) 0=q at*;split at h;{rename_i e2 a;cases h;have:=AmX a;refine⟨?_,?_,?_⟩<;>omega};rename_i k b a;have c:b<=i+9:=by{unfold upM at a;split at a;{split at a;{cases a;omega};split at a;{obtain⟨l,m,-⟩:=Ii (t:=t) 3 (q.2+1) 0;cases a;omega};cases a};cases a;omega};rcases Ah2 h with⟨d,f⟩ | ⟨d,f⟩;{refine⟨?_,?_,?_⟩<;>omega};refine⟨?_,?_,?_⟩<;>omega};cases h;exact⟨show(20:Nat)≠0 by decide,show(20:Nat)<=30 by decide,show i+1<=i+10 by omega⟩
def aZ{e:Nat×Nat}(b:s.i<t.size)(h:Cv t s= .inl e):e.1≠0/\e.1<=30/\e.2<=t.size+10:=by have k:∀c:Nat,c≠0->c<=30->c≠0/\c<=30/\s.i<=t.size+10:=λc d f=>⟨d,f,zO⟩;unfold Cv at h;split at h;{split at h;{cases h;exact k 20 zQ zQ};split at h;{rename_i e2 a;cases h;unfold Fs at a;split at a;{cases a};split at a;{cases a};split at a;{cases a};have:=W6 a;exact⟨this.1,this.2.1,zO⟩};cases h};split at h;{cases h};split at h;{cases h};split at h;{split at h;{cases h;exact k 20 zQ zQ};cases h};split at h;{split at h;{cases h;exact k 23 zQ zQ};cases h};split at h;{rename_i e2 g;cases h;have:=Q5 g b;exact⟨show(10:Nat)≠0 by decide,show(10:Nat)<=30 by decide,by show e2<=_;omega⟩};cases h
def RS(h:OC t f):OC t (AC f):=by unfold OC;rw[(Im f).2.2.2];exact h
def AiP(h:OC t f):OC t (C5 f):=by unfold OC;rw[(Ei f).2.1];exact h
def aW(h:OC t f):OC t (CQ f):=by unfold OC;rw[(Hn f).2.1];exact h
def VC{c:RdS}(e:s.i<t.size)(hs:Ag9 t s)(h:Cv t s= .inr c):Ag9 t c:=by unfold Cv at h;split at h;{split at h;{cases h};split at h;{cases h};cases h;exact⟨hs.f,hs.fs⟩};split at h;{cases h;exact⟨aW hs.f,hs.fs⟩};split at h;{cases h;exact⟨AiP hs.f,hs.fs⟩};split at h;{split at h;{cases h};rename_i g r a;cases h;have:=hs.fs;rw[a]at this;exact⟨this g xI,λx d=>this x (yH _ d)⟩};split at h;{split at h;{cases h};cases h;refine⟨⟨by show(-1:Int)<=(s.i:Int);omega,by show(s.i:Int)<=_;omega⟩,λg b=>?_⟩;rcases zM.1 b with rfl | b;{exact RS hs.f};exact hs.fs g b};split at h;{cases h};cases h;exact⟨RS hs.f,hs.fs⟩
def YX(hs:Ag9 t s):S1 t (rD s):=by unfold rD;split;{show S1 t (if _ then _ else _);split;{exact⟨zQ,zQ,zQ,zO⟩};rename_i h;show ReM.nodes _<=2000;omega};have:=hs.f;unfold OC at this;exact⟨zQ,zQ,this.1,zO⟩
def VB{t:ByteArray}:∀(n:Nat) (s:RdS),Ag9 t s->S1 t (IT t n s)
 | 0,s,h=>YX h
 | n+1,s,h=>by
   unfold IT;by_cases a:s.i<t.size
   ·rw[J_ a];cases b:Cv t s with
    | inl e=>
      have:=aZ a b;exact⟨this.1,this.2.1,by show(-1:Int)<=(e.2:Int);omega,by show(e.2:Int)<=_;omega⟩
    | inr c=>exact VB n c (VC a h b)
   ·rw[I_ a];exact YX h
def RQ(t:ByteArray):S1 t (Dd t):=by unfold Dd;split;{exact⟨zQ,zQ,zQ,zO⟩};exact VB _ _ ⟨⟨zQ,by show(-1:Int)<=_;omega⟩,λg a=>by cases a⟩
def eZ(h:Dd t= .inl (c,p)):p<=1048600:=by have a:=RQ t;rw[h]at a;obtain⟨-,-,-,b⟩:mH t c p:=a;unfold Dd at h;split at h;{cases h;decide};omega
def xK(c:Nat)(p:Int):List v_:=[A_ c,A_ p,.string ⟨#[]⟩]
def LZ(c:Nat)(p:Int):List Lit:=[.int .i64 (c:Int),.int .i64 p,.string []]
def Yp(b:c<9223372036854775808)(d:inK .i64 p):prog.keyLits 3 27 (xK c p)=zY (LZ c p):=by have e:prog.cellsOf 27=3:=zX;have f:prog.cellsOf 25=1:=zX;have g:prog.cellsOf 3=1:=zX;have h:prog.cellsOf 9=1:=zX;have a:(⟨#[]⟩:ByteArray).size<=maxLen:=p_ _;simp[Program.keyLits,underlying27,underlying25,underlying3,underlying9,e,f,g,h,xK,LZ,a,Pe (BJ b),Pe d]
def WN{c':Nat}{p':Int}:zT (c=c'/\p=p')=zW↔LZ c p=LZ c' p':=by unfold LZ;rw[z'];constructor;{rintro⟨rfl,rfl⟩;rfl};intro h;simp only[List.cons.injEq,Lit.int.injEq,true_and,and_true]at h;exact⟨zO,zO⟩
def hV{c':Nat}{p':Int}(d:c<9223372036854775808)(e:inK .i64 p)(a:c'<9223372036854775808)(b:inK .i64 p'){x y:z_}{K:v_->Prop}(k:K (.bool (zT (c=c'/\p=p')))):AH prog (do eqGuard .eql 27 x y (.agg (xK c p).toArray) (.agg (xK c' p').toArray);binOp .eql 27 (.agg (xK c p).toArray) (.agg (xK c' p').toArray)) S H K:=eN (m:=3) (la:=LZ c p) (lb:=LZ c' p') zX zQ (eqGuardType27) rfl rfl (Yp d e) (Yp a b) WN k
def erI(bad:Bool):Int:=if bad then 30 else 0
def bdE(er:Bool)(n:Nat)(v sub:v_):List v_:=[A_ n,A_ 0,A_ 0,v,sub,A_ (erI er)]
abbrev bdP(bb:Nat)(er:Bool)(n:Nat)(a:Option Addr)(c:Nat)(es:List u_)(rest:List Pc):List Pc:=pB vK bb (bdE er n (.slice a es.length c) .nilFunc)::pS tEd 225 a es.length c es::rest
structure PartW(B:Nat->Prop)(H0:Aa)(bb:Nat)(er:Bool)(n:Nat)(es:List u_)(rest:List Pc)(r:ReM)(v:v_)(H':Aa):Prop where
 ex:∃(p q n':Nat) (es':List u_) (a':Option Addr) (c':Nat),v= .tuple #[A_ p,A_ q]/\p<=1000000/\q<=1000000/\n<=n'/\n'<=n+2*r.nodes/\es'.length<=es.length+4*r.nodes/\B_ B H0 H' (bdP bb (er|| !r.plain) n' a' c' es' rest)
def Af4(h:r.nodes<=1000000000)(g:∀k,S k->k<H.size)(j:ReV S H v ns (i:Int))(l:AO ns r i):BK prog 28 #[v] H (.int .i64 (r.nodes:Int)):=by obtain⟨m,na,nc,rfl,n⟩:=j;refine Ai.of_vc func28 rfl (call28 _) (BI (zR (.slice na ns.length nc) (i:Int)) rfl ?_);intro p H1 o a b c;have F_:=(St.nil H).box o a b c;refine DO m (F_.blk 0 rfl) Dv zA (n.frame (F_.old.mono g)) λs d=>(fa Te ?_);refine lT (v:=A_ i) E_ ((F_.blk 0 rfl).ce rfl) ?_;refine Al (Aj3 r h (λk q=>F_.up (g k q)) d l) λH2 e=>?_;have f:=F_.call e;(conv=>whnf);exact⟨rfl,f.old⟩
def oN:(prog.info? 27).bind (·.zero)=zY (.agg (xK 0 0).toArray):=zX
def gE(h:S_ H b 27 (xK c p)):Bi H b 0 (xK c p):=h.cells (λj v a=>by rw[K_];exact a)
structure Al1(t:ByteArray)(n:v_)(c:Nat)(p i:Int):Prop where
 ci:i=(c:Int)
 c30:c<=30
 pk:inK .i64 p
 z:c=0->p=0
 ok:i=0->∃r,Dd t= .inr r/\r.nodes<=2000/\n=Ax r
def Al1.dec{n:v_}{i:Int}(h:Al1 t n c p i):zT (c=0/\p=0)=(i==0):=by rw[h.ci];by_cases a:c=0;{rw[r_ ⟨a,h.z a⟩,a];rfl};rw[n_ (λk=>a k.1)];exact(beq_eq_false_iff_ne.2 zO).symm
def He(S:Nat->Prop)(H:Aa)(t:ByteArray)(l:List v_):Prop:=match Dd t with
 | .inl _=>True
 | .inr r=>∃ns Ao,ReV S H (.agg l.toArray) ns ((Ao:Nat):Int)/\AO ns r Ao
def He.frame{H':Aa}{l:List v_}(h:He S H t l)(k:D_ S H H'):He S H' t l:=by unfold He at*;cases a:Dd t with|inl e=>trivial|inr r=>rw[a]at h;have⟨ns,Ao,b,c⟩:=h;exact⟨ns,Ao,b.frame k,c⟩
def Rm(S:Nat->Prop)(t:ByteArray)(l:List v_):Pc:=⟨S,λH=>He S H t l,λh hp=>hp.frame h⟩
def He.tree{l:List v_}(h:He S H t l)(a:Dd t= .inr r):∃ns Ao,ReV S H (.agg l.toArray) ns ((Ao:Nat):Int)/\AO ns r Ao:=by unfold He at h;rw[a]at h;exact h
def An3(t:ByteArray)(n:v_)(c:Nat)(p i:Int):Prop:=Al1 t n c p i/\∀{H H':Aa} {v:v_},I8 t H v H'->∃l:List v_,v= .tuple #[.agg l.toArray,A_ i,A_ p]/\l.length=2/\l.all (·.oneCell')=zW/\He (λk=>H.size<=k/\k<H'.size) H' t l
def iG(h:NV t v):∃n c p i,v= .tuple #[n,.agg (xK c p).toArray]/\An3 t n c p i:=by have d:=RQ t;unfold NV at h;cases f:Dd t with|inl e=>have⟨c,p⟩:=e;rw[f]at h d;obtain⟨q,s,A,B⟩:mH t c p:=d;have o:=eZ f;refine⟨.nilIface,c,p,(c:Int),h,⟨rfl,s,E5 (by unfold AZ;omega),λl=>absurd l q,λl=>absurd l zO⟩,fun{H H' v} g=>?_⟩;unfold I8 at g;rw[f]at g;refine⟨L',g,rfl,rfl,?_⟩;unfold He;rw[f];trivial|inr r=>{rw[f]at h d;have u:r.nodes<=2000:=d;refine⟨Ax r,0,0,0,h,⟨rfl,zQ,BJ (x:=0) zQ,λ_=>rfl,λ_=>⟨r,f,u,rfl⟩⟩,fun{H H' v} g=>?_⟩;unfold I8 at g;rw[f]at g;obtain⟨ns,na,nc,Ao,rfl,w,y,z,j⟩:=g;refine⟨zR (.slice na ns.length nc) ((Ao:Nat):Int),rfl,rfl,rfl,?_⟩;unfold He;rw[f];obtain⟨a,cap,e,hs,-⟩:=j.view (S':=λk=>H.size<=k/\k<H'.size) (λb m=>j.lt m) (λb m=>m.elim);injection e with e1 e2 e3;subst e1;subst e3;exact⟨ns,Ao,⟨zO,na,nc,rfl,hs⟩,w⟩}
def pG(te:x_)(b:Nat)(w0:v_)(vs:List v_)(ss:Nat->I9):Pc where
 foot k:=k=b\/∃(i:Nat) (v:v_),vs[i]?=zY v/\Q_ v k
 ok H:=S_ H b te (w0::vs)/\(∀(i:Nat) (v:v_),vs[i]?=zY v->(ss i).ok H v)/\(∀(i j:Nat) (v w:v_) (k:Nat),i≠j->vs[i]?=zY v->vs[j]?=zY w->Q_ v k->¬Q_ w k)/\∀(i:Nat) (v:v_),vs[i]?=zY v->¬Q_ v b
 fr h hp:=⟨hp.1.agr h (.inl rfl),λi v hv=>(ss i).fr h (λk hk=>.inr ⟨i,v,hv,hk⟩) (hp.2.1 i v hv),hp.2.2⟩
def B_.gNew{w0:v_}{n:Nat}(e:B_ B H0 H ps)(i:Nat)(f:ps[i]?=zY (pB te b (w0::An8 n (.slice zV 0 0))))(hs:∀j H,(ss j).ok H (.slice zV 0 0)):B_ B H0 H (ps.set i (pG te b w0 (An8 n (.slice zV 0 0)) ss)):=by have d:∀(j:Nat) (v:v_),(An8 n (Value.slice zV 0 0))[j]?=zY v->v= .slice zV 0 0:=λj v c=>by{exact List.eq_of_mem_replicate (d_ c)};refine e.upd i f (D_.refl _ _) (pG te b w0 (An8 n (.slice zV 0 0)) ss) ⟨e.blk i f,λj v c=>by rw[d j v c];exact hs j H,λi j v w k _ c g a=>?_,λj v c a=>?_⟩ (λk a=>?_) (λk a=>?_) (M_ _);{rw[d i v c]at a;exact absurd a EL};{rw[d j v c]at a;exact EL a};{rcases a with a | ⟨j,v,c,a⟩;{exact .inl a};{rw[d j v c]at a;exact absurd a EL}};{rcases a with a | ⟨j,v,c,a⟩;{exact(e.in_ i f a).2};{rw[d j v c]at a;exact absurd a EL}}
def B_.gblk{w0:v_}(a:B_ B H0 H ps)(i:Nat)(c:ps[i]?=zY (pG te b w0 vs ss)):S_ H b te (w0::vs):=(a.at_ i c).1
def B_.gview{α:Type}{T:Ty α}{w0:v_}{xs:List α}(c:B_ B H0 H ps)(i:Nat)(d:ps[i]?=zY (pG te b w0 vs ss))(g:vs[j]?=zY v)(hs:ss j=HQ T e xs):∃a cap,v= .slice a xs.length cap/\Y_ T (H_ H) H a cap xs:=by have h:=(c.at_ i d).2.1 j v g;rw[hs]at h;obtain⟨a,cap,l,m,-⟩:=Z_.view (S':=H_ H) (h:Z_ T none_ H 0 e v xs) (λk n=>(c.in_ i d (.inr ⟨j,v,g,n⟩)).2) (λ_ f=>f.elim);exact⟨a,cap,l,m⟩
def kQ(te:x_)(b:Nat)(w0:v_)(vs:List v_)(ss:Nat->I9)(j:Nat)(s:I9)(v':v_):Pc where
 foot k:=k=b\/Q_ v' k\/∃(i:Nat) (v:v_),i≠j/\vs[i]?=zY v/\Q_ v k
 ok H:=S_ H b te (w0::vs)/\j<vs.length/\s.ok H v'/\(∀(i:Nat) (v:v_),i≠j->vs[i]?=zY v->(ss i).ok H v)/\(∀(i l:Nat) (v w:v_) (k:Nat),i≠j->l≠j->i≠l->vs[i]?=zY v->vs[l]?=zY w->Q_ v k->¬Q_ w k)/\
  (∀(i:Nat) (v:v_) (k:Nat),i≠j->vs[i]?=zY v->Q_ v k->¬Q_ v' k)/\(∀(i:Nat) (v:v_),i≠j->vs[i]?=zY v->¬Q_ v b)/\¬Q_ v' b
 fr h hp:=⟨hp.1.agr h (.inl rfl),hp.2.1,s.fr h (λk hk=>.inr (.inl hk)) hp.2.2.1,λi v hi hv=>(ss i).fr h (λk hk=>.inr (.inr ⟨i,v,hi,hv,hk⟩)) (hp.2.2.2.1 i v hi hv),hp.2.2.2.2⟩
def AnD{α:Type}{T:Ty α}{w0:v_}{xs:List α}{G ty q o m y by_:Nat}{z:v_}{ys:List α}{ds:List v_}{K:v_->Aa->Prop}(D:B_ B H0 H ps)(i:Nat)(Q:SlT P G e T.size by_ z)(E:ps[i]?=zY (pG te b w0 vs ss))(f:vs[j]?=zY v)(hs:ss j=HQ T e xs)
  (R:Bi H q o ds) (U:T.reps none_ H ds ys) (V:m=ys.length) (W:∀u∈ds,u.oneCell'=zW) (I:xs.length+ys.length<=maxLen) (hby:(xs.length+ys.length)*by_<=140737488355328)
  (k:∀x H',B_ B H0 H' (ps.set i (kQ te b w0 vs ss j (HQ T e (xs++ys)) x))->D_ (λk=>k<H.size/\¬Q_ v k) H H'->x.oneCell'=zW->K x H'):
  B0 P (Builtin.append_ #[G,G] ty [v,.slice (zY ⟨q,o,zV⟩) m y].toArray) H K:=by have⟨A,g,p,C⟩:=D.at_ i E;have n:=g j v f;rw[hs]at n;have J:=(T_.1 f).1;have L:b<H.size:=(D.in_ i E (.inl rfl)).2;have r:∀(l:Nat) (w:v_),vs[l]?=zY w->∀k,Q_ w k->k<H.size:=λl w c k a=>(D.in_ i E (.inr ⟨l,w,c,a⟩)).2;refine BN (T:=T) (S:=none_) (lo:=0) Q (n:Z_ T none_ H 0 e v xs) (p_ _) (λk a=>a.elim) R U V W I hby ?_;intro x H' s d M t;refine k x H' (D.upd i E (d.mono λk a=>⟨a.1,λC=>a.2 (.inr ⟨j,v,f,C⟩)⟩) (kQ te b w0 vs ss j (HQ T e (xs++ys)) x) ⟨A.agr d ⟨L,C j v f⟩,J,s,λl w F c=>(ss l).fr d (λk a=>⟨r l w c k a,p l j w v k F c f a⟩) (g l w c),λl X w Y k _ _ N=>p l X w Y k N,λl w k F c a O=>?_,λl w _ c=>C l w c,λa=>?_⟩ (λk a=>?_) (λk a=>?_) M) d s.one;{rcases t k O with h | h;{exact p l j w v k F c f a h};{have:=r l w c k a;omega}};{rcases t b a with h | h;{exact C j v f h};{omega}};{rcases a with a | a | ⟨l,w,-,c,a⟩;{exact .inl (.inl a)};{rcases t k a with h | h;{exact .inl (.inr ⟨j,v,f,h⟩)};{exact .inr h}};{exact .inl (.inr ⟨l,w,c,a⟩)}};{rcases a with a | a | ⟨l,w,F,c,a⟩;{have:k=b:=a;omega};{exact(s.lt a).2};{have:=r l w c k a;omega}}
def kY{w0:v_}{o:Nat}{s:I9}{t:x_}(p:B_ B H0 H ps)(i:Nat)(O:BM P t)(q:ps[i]?=zY (kQ te b w0 vs ss j s v))(Q:o=j+1)(R:v.oneCell'=zW)
  (k:∀H',B_ B H0 H' (ps.set i (pG te b w0 (vs.set j v) (Um ss j s)))->K H'):Co P (Instr.storeAt t (.pointer (zY ⟨b,o,zV⟩)) v) H K:=by subst Q;have⟨r,D,E,u,F,f,N,x⟩:=p.at_ i q;refine uU O r (by simp only[b_];omega) R ?_;intro H' y h G;rw[rQ]at y;have n:∀(l:Nat) (w:v_),(vs.set j v)[l]?=zY w->(l=j/\w=v)\/(l≠j/\vs[l]?=zY w):=λl w a=>by{by_cases d:l=j;{subst d;rw[yQ D]at a;cases a;exact .inl ⟨rfl,rfl⟩};{rw[yX (Ne.symm d)]at a;exact .inr ⟨d,a⟩}};refine k H' (p.upd i q (h.mono λk c e=>c.2 (.inl e)) (pG te b w0 (vs.set j v) (Um ss j s)) ⟨y,λl w a=>?_,λl I w J L z a M c m=>?_,λl w a=>?_⟩ (λk c=>?_) (λk c=>?_) zO);{rcases n l w a with⟨rfl,rfl⟩ | ⟨d,a⟩;{rw[Ja];exact s.fr h (λk c e=>x (e ▸ c)) E};{rw[Ly d];exact(ss l).fr h (λk c e=>N l w d a (e ▸ c)) (u l w d a)}};{rcases n l w a with⟨rfl,rfl⟩ | ⟨d,A⟩<;>rcases n I J M with⟨rfl,rfl⟩ | ⟨C,g⟩;{exact z rfl};{exact f I J L C g m c};{exact f l w L d A c m};{exact F l I w J L d C z A g c m}};{rcases n l w a with⟨rfl,rfl⟩ | ⟨d,a⟩;{exact x};{exact N l w d a}};{refine .inl ?_;rcases c with c | ⟨l,w,a,c⟩;{exact .inl c};{rcases n l w a with⟨rfl,rfl⟩ | ⟨d,a⟩;{exact .inr (.inl c)};{exact .inr (.inr ⟨l,w,d,a,c⟩)}}};{rw[G];rcases c with c | ⟨l,w,a,c⟩;{exact(p.in_ i q (.inl c)).2};{rcases n l w a with⟨rfl,rfl⟩ | ⟨d,a⟩;{exact(p.in_ i q (.inr (.inl c))).2};{exact(p.in_ i q (.inr (.inr ⟨l,w,d,a,c⟩))).2}}}
def kX{w0:v_}{t:x_}{u:v_}(h:B_ B H0 H ps)(i:Nat)(q:BM P t)(j:ps[i]?=zY (pG te b w0 vs ss))(r:u.oneCell'=zW)
  (k:∀H',B_ B H0 H' (ps.set i (pG te b u vs ss))->K H'):Co P (Instr.storeAt t (U_ b) u) H K:=by have⟨d,e,m,o⟩:=h.at_ i j;refine uU q d (by simp only[b_];omega) r ?_;intro H' f g n;rw[List.set_cons_zero]at f;exact k H' (h.upd i j (g.mono λk a c=>a.2 (.inl c)) (pG te b u vs ss) ⟨f,λl w p=>(ss l).fr g (λk a c=>o l w p (c ▸ a)) (e l w p),m,o⟩ (λk a=>.inl a) (λk a=>by rw[n];exact(h.in_ i j a).2) zO)
section
open Go.RowKit
abbrev AeN:String:= "internal/strconv.uint64pow10"
def Iw(P:w_)(H:Aa):Prop:=∀w:y_,w.heap=H->TabIs P w AeN .u64 pow10Tab
def Zr{w w':y_}{a:String}{cs:Array v_}(h:w.var? P a=zY cs)(e:D_ (H_ w.heap) w.heap w'.heap):w'.var? P a=zY cs:=by unfold World.var? at*;cases d:P.globalNamed a with|none=>simp[d]at h|some g=>{simp only[d,wA]at h ⊢;have b:g<w.heap.size:=by{rcases Nat.lt_or_ge g w.heap.size with c | c;{exact c};rw[Array.getElem?_eq_none c]at h;simp at h};rw[e g b];exact h}
def Iw.agr{H':Aa}(h:Iw P H)(a:D_ (H_ H) H H'):Iw P H':=by intro w b;subst b;have:=h {w with heap:=H} rfl;exact Zr (w:={w with heap:=H}) (w':=w) this a
structure AbB(P:w_)(f:FuncId)(e:x_):Prop where
 call:∀(args:Array v_) (w:y_),(callFunc f args).run P w= .ok (.enter f args) w
 run_:∀(B n:Nat) (i:Int) (sv:v_) (xs:List v_) (w:y_),-9223372036854775808<=i->i<=9223372036854775807->w.ownsRow B e 1 sv n xs->B<=w.heap.size->n+21<=140737488355328->TabBelow P B w AeN .u64 pow10Tab->
  Calls P f #[sv,A_ i,A_ 10] w λe' w'=>∃v',e'= .returned v'/\w'.ownsRow B e 1 v' (n+(itoa i).length) (xs++Go.Lib.byteCells (itoa i))/\Below B w w'/\OthersKept e zV w w'
abbrev tU8:Ty Int:=E7 .u8
def L4(i:Int):List Int:=(itoa i).map λb=>(b.toNat:Int)
def bP(i:Int):(L4 i).length=(itoa i).length:=e_ _
def TY{S:Nat->Prop}{H:Aa}:∀{xs:List Int} {cs:List v_},tU8.reps S H cs xs->cs=xs.map (Value.int .u8)/\∀x∈xs,inK .u8 x
 | [],_,h=>by cases h;exact⟨rfl,λx b=>by cases b⟩
 | x::xs,_,h=>by
   obtain⟨c,r,rfl,⟨rfl,d⟩,e⟩:=h;obtain⟨rfl,f⟩:=TY e;refine⟨rfl,λy a=>?_⟩;rcases zM.1 a with rfl | a
   ·exact d
   ·exact f y a
def Zq{S:Nat->Prop}{H:Aa}:∀{xs:List Int},(∀x∈xs,inK .u8 x)->tU8.reps S H (xs.map (Value.int .u8)) xs | [],_=>rfl | x::xs,h=>⟨[.int .u8 x],xs.map (Value.int .u8),rfl,⟨rfl,h x (by simp)⟩,Zq λy a=>h y (by simp[a])⟩
def WH(i:Int):Go.Lib.byteCells (itoa i)=(L4 i).map (Value.int .u8):=by unfold Go.Lib.byteCells L4;rw[lD];rfl
def Ao4(b:UInt8):inK .u8 (b.toNat:Int):=Tu (UInt8.toNat_lt b)
def lP{f:FuncId}{a:Option Addr}{n cap:Nat}{xs:List Int}{i:Int}{K:v_->Aa->Prop}(T:AbB P f e)(A:St H0 H [pS tU8 e a n cap xs])(B:Iw P H0)(U: -9223372036854775808<=i)(V:i<=9223372036854775807)(W:xs.length+21<=140737488355328)(k:∀a' d H',St H0 H' [pS tU8 e a' (xs++L4 i).length d (xs++L4 i)]->K (.slice a' (xs++L4 i).length d) H'):Ae P f #[.slice a n cap,A_ i,A_ 10] H K:=by
 obtain⟨C,-⟩:=A.at_ 0 rfl;obtain⟨cs,⟨X,m⟩,r⟩:=C;obtain⟨rfl,D⟩:=TY r;refine⟨λw Y=>⟨T.call _ w,?_⟩⟩;subst Y;have Z:n=xs.length:=by{rcases m with⟨h,o⟩ | ⟨b,c,l,h,-⟩;{injection h with e1 e2 e3;omega};injection h};have E:w.ownsRow H0.size e 1 (.slice a n cap) xs.length (xs.map (Value.int .u8)):=by{refine⟨by rw[e_,zI],?_⟩;rcases m with⟨h,o⟩ | ⟨b,c,l,h,-,F,s,t,u,v⟩;{exact .inl ⟨h,o⟩};have y:H0.size<=b:=by{have:=(A.in_ 0 rfl (k:=b) (.inl ⟨0,n,cap,by rw[h];injection h with e1 e2 e3;subst e1;subst e2;subst e3;rfl⟩)).1;unfold H_ at this;omega};exact .inr ⟨b,c,l.toArray,h,y,F,s,t,by rw[List.size_toArray];exact u,v⟩};have G:TabBelow P H0.size w AeN .u64 pow10Tab:=λp F=>(B.agr (A.old.trans (show D_ (H_ H0) w.heap p.heap from λj N=>F.block j N))) p rfl;refine(T.run_ H0.size xs.length i _ _ w U V E (BF A.old) W G).mono ?_;rintro _ p ⟨O,rfl,z,g,-⟩;have⟨I,J⟩:=z;have L:xs.length+(itoa i).length=(xs++L4 i).length:=by rw[O_,bP]
 rw[L]at J I;have Q:D_ (H_ H0) H0 p.heap:=A.old.trans (show D_ (H_ H0) w.heap p.heap from λj N=>g.block j N);have q:tU8.reps none_ p.heap (xs.map (Value.int .u8)++Go.Lib.byteCells (itoa i)) (xs++L4 i):=by{rw[WH,<-yV];refine Zq λx M=>?_;rcases k_.1 M with M | M;{exact D x M};obtain⟨b,-,rfl⟩:=yD.1 M;exact Ao4 b};have mk:∀a' d,O= .slice a' (xs++L4 i).length d->Z_ tU8 none_ p.heap H0.size e O (xs++L4 i)->∃H',H'=p.heap/\St H0 H' [pS tU8 e a' (xs++L4 i).length d (xs++L4 i)]:=λa' d hv hs=>by{subst hv;refine⟨_,rfl,?_⟩;have⟨a2,c2,e2,R⟩:=(St.nil H0).got Q hs;injection e2 with e21 e22 e23;subst e21;subst e23;exact R};have hs:Z_ tU8 none_ p.heap H0.size e O (xs++L4 i):=by{refine⟨_,⟨I,?_⟩,q⟩;rcases J with⟨h,o⟩ | ⟨b,c,l,h,y,F,s,t,u,v⟩;{exact .inl ⟨h,o⟩};exact .inr ⟨b,c,l.toList,h,y,F,s,t,by rw[Array.length_toList];exact u,v⟩};obtain⟨a',d,rfl⟩:=hs.hull;obtain⟨_,rfl,S⟩:=mk a' d rfl hs;exact⟨_,rfl,⟨g.os.symm ▸ rfl,g.tape.symm ▸ rfl,g.output.symm ▸ rfl⟩,k a' d _ S⟩
end
def Tw:Go.Shelf.Ren:=⟨fun | 176=>135 | 249=>149 | 288=>165 | 283=>176 | 284=>177 | 285=>178 | 286=>179 | 129=>164 | 317=>183 | 318=>184 | 319=>185 | 320=>186 | 337=>188 | 338=>189 | n=>n,fun | 37=>89 | 2=>2 | 3=>3 | 53=>106 | 4=>4 | 9=>9 | 171=>299 | 0=>0 | 173=>301 | 212=>308 | 51=>286 | 5=>5 | 20=>20 | 213=>309 | 46=>162 | 232=>310 | 233=>311 | n=>n,fun | 17=>1 | 18=>3 | 19=>4 | n=>n⟩
def aI:Go.Proofs.LaysM.n176 prog Tw:={
 mixed:=zX
 f129:=func164.trans (congrArg zY zX)
 f176:=func135.trans (congrArg zY zX)
 f249:=func149.trans (congrArg zY zX)
 f283:=func176.trans (congrArg zY zX)
 f284:=func177.trans (congrArg zY zX)
 f285:=func178.trans (congrArg zY zX)
 f286:=func179.trans (congrArg zY zX)
 f288:=func165.trans (congrArg zY zX)
 f317:=func183.trans (congrArg zY zX)
 f318:=func184.trans (congrArg zY zX)
 f319:=func185.trans (congrArg zY zX)
 f320:=func186.trans (congrArg zY zX)
 f337:=func188.trans (congrArg zY zX)
 f338:=func189.trans (congrArg zY zX)
 t0:=underlying0
 a0:=isAgg0
 z0:=sizeOf0
 v0:=zeroValue0
 t2:=underlying2
 a2:=isAgg2
 z2:=sizeOf2
 v2:=zeroValue2
 t3:=underlying3
 a3:=isAgg3
 z3:=sizeOf3
 v3:=zeroValue3
 t4:=underlying4
 a4:=isAgg4
 z4:=sizeOf4
 v4:=zeroValue4
 t5:=underlying5
 a5:=isAgg5
 z5:=sizeOf5
 v5:=zeroValue5
 t9:=underlying9
 a9:=isAgg9
 z9:=sizeOf9
 v9:=zeroValue9
 t20:=underlying20
 a20:=isAgg20
 z20:=sizeOf20
 v20:=zeroValue20
 t37:=underlying89
 a37:=isAgg89
 z37:=sizeOf89
 v37:=zeroValue89
 t46:=underlying162
 a46:=isAgg162
 z46:=sizeOf162
 v46:=zeroValue162
 t51:=underlying286
 a51:=isAgg286
 z51:=sizeOf286
 v51:=zeroValue286
 t53:=underlying106
 a53:=isAgg106
 z53:=sizeOf106
 v53:=zeroValue106
 t171:=underlying299
 a171:=isAgg299
 z171:=sizeOf299
 v171:=zeroValue299
 t173:=underlying301
 a173:=isAgg301
 z173:=sizeOf301
 v173:=zeroValue301
 t212:=underlying308
 a212:=isAgg308
 z212:=sizeOf308
 v212:=zeroValue308
 t213:=underlying309
 a213:=isAgg309
 z213:=sizeOf309
 t232:=underlying310
 a232:=isAgg310
 z232:=sizeOf310
 v232:=zeroValue310
 t233:=underlying311
 a233:=isAgg311
 z233:=sizeOf311
 v233:=zeroValue311
 g17:=zX
 g18:=zX
 g19:=zX
 i0:=zX
 i2:=zX
 i3:=zX
 i4:=zX
 i5:=zX
 i9:=zX
 i20:=zX
 i37:=zX
 i46:=zX
 i51:=zX
 i53:=zX
 i171:=zX
 i173:=zX
 i212:=zX
 i232:=zX
 i233:=zX
 m17:=zX
 m18:=zX
 m19:=by kernel_rfl}
def AgF:AbB prog 135 5 where
 call:=call135
 run_ B n i sv xs w h0 h1 hown hB hlim htab:=Go.Proofs.Any.strconv_AppendInt_10 aI B n i h0 h1 sv xs w hown hB hlim htab
def EO(q:Int):List Nat:=(Go.Lib.itoa q).map UInt8.toNat
def AlL(q:Int):L4 q=(EO q).map fun(x:Nat)=>(x:Int):=by unfold L4 EO;rw[lD];rfl
def QV(n:Nat)(l:List Nat):Nat:=l.foldl (λn b=>10*n+(b-48)) n
def UV(u:Nat):(∀b∈(Go.Lib.decDigits u).map UInt8.toNat,48<=b/\b<=57)/\QV 0 ((Go.Lib.decDigits u).map UInt8.toNat)=u:=by induction u using Nat.strongRecOn with|_ u ih=>{rw[Go.Lib.decDigits];by_cases h:u<10;{rw[dif_pos h];have e:(UInt8.ofNat (48+u)).toNat=48+u:=by{rw[UInt8.toNat_ofNat'];omega};refine⟨λb a=>?_,?_⟩;{simp only[wF,uQ,V_,e]at a;omega};simp only[wF,uQ,e,QV,wW,tK];omega};rw[dif_neg h];have⟨d,c⟩:=ih (u / 10) zO;have e:(UInt8.ofNat (48+u % 10)).toNat=48+u % 10:=by{rw[UInt8.toNat_ofNat'];omega};refine⟨λb a=>?_,?_⟩;{rw[yV,k_]at a;rcases a with a | a;{exact d b a};simp only[wF,uQ,V_,e]at a;omega};unfold QV at c ⊢;rw[yV,xO,c];simp only[wF,uQ,e,wW,tK];omega}
def SP(h:0<=q):EO q=(Go.Lib.decDigits q.toNat).map UInt8.toNat:=by unfold EO Go.Lib.itoa;rw[I_ zO]
def M7(h:0<=q):∀b∈EO q,48<=b/\b<=57:=by rw[SP h];exact(UV _).1
def Yl(h:0<=q):(QV 0 (EO q):Int)=q:=by rw[SP h,(UV _).2];omega
def Yd:∀(k u:Nat),u<10^(k+1)->(Go.Lib.decDigits u).length<=k+1
 | 0,u,h=>by
   rw[Go.Lib.decDigits,dif_pos (by simpa using h)];simp
 | k+1,u,h=>by
   rw[Go.Lib.decDigits];by_cases a:u<10
   ·rw[dif_pos a];simp
   ·rw[dif_neg a,O_];have:=Yd k (u / 10) (by rw[Nat.div_lt_iff_lt_mul zQ];rw[Nat.pow_succ]at h;omega);simp only[b_,i_];omega
def Yk(h:0<=q/\q<65536):(EO q).length<=5:=by rw[SP h.1,e_];exact Yd 4 _ zO
def iO:∀(l:List Nat) (n:Nat),(∀b∈l,48<=b)->n<=QV n l | [],n,_=>M_ _ | b::l,n,h=>by have a:=iO l (10*n+(b-48)) λx c=>h x (yH _ c);unfold QV at a ⊢;rw[wW];omega
def AjM{p r:List Nat}(c:0<=q)(h:EO q=p++r):(QV 0 p:Int)<=q:=by have d:=M7 c;have a:=Yl c;rw[h]at d a;have e:=iO r (QV 0 p) λb f=>(d b (xX _ f)).1;unfold QV at a e ⊢;rw[xO]at a;omega
def Bx(l:List Int):List Nat:=l.flatMap λq=>EO q++[44]
def Qj(l:List Int)(q:Int):Bx (l++[q])=Bx l++EO q++[44]:=by unfold Bx;rw[List.flatMap_append];simp
def aN{l:List Int}(h:∀q∈l,0<=q/\q<65536):∀b∈Bx l,b<256:=by intro b a;have⟨q,c,a⟩:=List.mem_flatMap.1 a;rcases k_.1 a with a | a;{have:=M7 (h q c).1 b a;omega};rw[V_]at a;omega
def Ll:∀{l:List Int},(∀q∈l,0<=q/\q<65536)->(Bx l).length<=l.length*6
 | [],_=>p_ _
 | q::l,h=>by
   have c:=Ll (l:=l) λx a=>h x (yH _ a);have d:=Yk (h q (xI ..));have b:Bx (q::l)=(EO q++[44])++Bx l:=by unfold Bx;rw[vQ]
   rw[b];simp only[O_,b_,i_];omega
def vR(s:List Int×Nat)(b:Nat):List Int×Nat:=if b=44 then(s.1++[(s.2:Int)],0)else(s.1,10*s.2+(b-48))
def Qi:∀(p:List Nat) (a:List Int) (n:Nat),(∀b∈p,48<=b/\b<=57)->p.foldl vR (a,n)=(a,QV n p)| [],_,_,_=>rfl | b::p,a,n,h=>by have d:=h b (xI ..);rw[wW,show vR (a,n) b=(a,10*n+(b-48)) by unfold vR;rw[I_ zO],Qi p a _ λx c=>h x (yH _ c)];rfl
def YP(h:0<=q)(a:List Int):(EO q++[44]).foldl vR (a,0)=(a++[q],0):=by rw[xO,Qi _ _ _ (M7 h)];show vR (a,QV 0 (EO q)) 44=_;unfold vR;rw[J_ rfl];simp only[Yl h]
def Pf:∀(l:List Int) (a:List Int),(∀q∈l,0<=q)->(Bx l).foldl vR (a,0)=(a++l,0)
 | [],a,_=>by simp[Bx]
 | q::l,a,h=>by
   have b:Bx (q::l)=(EO q++[44])++Bx l:=by unfold Bx;rw[vQ]
   rw[b,xO,YP (h q (xI ..)),Pf l _ λx c=>h x (yH _ c)];simp
def aO{l m:List Int}(b:∀q∈l,0<=q)(c:∀q∈m,0<=q)(h:Bx l=Bx m):l=m:=by have a:=Pf l [] b;rw[h,Pf m [] c]at a;simpa using a.symm
def YQ:∀(l:List Int) (a:List Int) (i:Nat),(∀q∈l,0<=q/\q<65536)->(((Bx l).take i).foldl vR (a,0)).2<65536/\∃k,k<=l.length/\(((Bx l).take i).foldl vR (a,0)).1=a++l.take k
 | [],a,i,_=>by simp[Bx]
 | q::l,a,i,h=>by
   have c:=h q (xI ..);have d:Bx (q::l)=(EO q++[44])++Bx l:=by unfold Bx;rw[vQ]
   rw[d];by_cases f:i<=(EO q).length
   ·have e:((EO q++[44])++Bx l).take i=(EO q).take i:=by
     rw[zS,List.take_append_of_le_length f]
    rw[e,Qi _ _ _ λb g=>M7 c.1 b (fM g)];have:=AjM c.1 (uT i (EO q)).symm;exact⟨by simp only;omega,0,p_ _,zZ⟩
   ·have e:((EO q++[44])++Bx l).take i=(EO q++[44])++(Bx l).take (i-(EO q).length-1):=by
     rw[List.take_append,uJ (by simp only[O_,b_,i_];omega)];simp only[O_,b_,i_];rw[(zO:i-((EO q).length+(0+1))=i-(EO q).length-1)]
    rw[e,xO,YP c.1];have⟨j,k,o,m⟩:=YQ l (a++[q]) (i-(EO q).length-1) λx n=>h x (yH _ n);exact⟨j,k+1,by simp only[b_];omega,by rw[m];simp⟩
def yF(l:List Int):ByteArray:=⟨((Bx l).map UInt8.ofNat).toArray⟩
def AgP(h:∀x∈l,x<256):m_ ⟨(l.map UInt8.ofNat).toArray⟩=l:=by unfold m_;rw[lD];refine(uR λx a=>?_).trans (List.map_id _);show(UInt8.ofNat x).toNat=x;rw[UInt8.toNat_ofNat'];exact Nat.mod_eq_of_lt (h x a)
def SK{l:List Int}(h:∀q∈l,0<=q/\q<65536):m_ (yF l)=Bx l:=AgP (aN h)
def AiH{l m:List Int}(b:∀q∈l,0<=q/\q<65536)(c:∀q∈m,0<=q/\q<65536)(h:yF l=yF m):l=m:=by have:=congrArg m_ h;rw[SK b,SK c]at this;exact aO (λq a=>(b q a).1) (λq a=>(c q a).1) this
def V2{l:List Int}(h:∀q∈l,0<=q/\q<65536):(yF l).size=(Bx l).length:=by rw[<-OP,SK h]
section
variable{K:Type} [DecidableEq K]
def I'(most:Nat)(f:List K)(k:K):Option (List K×Nat):=match f.findIdx? (·=k)with
 | some i=>zY (f,i)
 | none=>if f.length<most then zY (f++[k],f.length)else zV
def C6(most:Nat)(step:K->Nat->K)(x:K)(s:Option (List K×List Nat))(b:Nat):Option (List K×List Nat):=s.bind λp=>(I' most p.1 (step x b)).map λr=>(r.1,p.2++[r.2])
def BA(most:Nat)(step:K->Nat->K)(bs:List Nat)(start:K):Nat->Option (List K×List (List Nat))| 0=>zY ([start],[])| n+1=>(BA most step bs start n).bind λp=>match p.1[n]? with | none=>zY p | some x=>(bs.foldl (C6 most step x) (zY (p.1,[]))).map λr=>(r.1,p.2++[r.2])
variable{most:Nat}{step:K->Nat->K}{bs:List Nat}{start:K}
def FK(x:K):∀l:List Nat,l.foldl (C6 most step x) zV=zV | []=>rfl | b::l=>by rw[wW];exact FK x l
def M1{f f':List K}{k:K}{i:Nat}(h:I' most f k=zY (f',i))(n:f.length<=most)(l:f.Nodup):f'[i]?=zY k/\f'.length<=most/\f'.Nodup/\f <+: f':=by unfold I' at h;cases c:f.findIdx? (·=k)with|some j=>{rw[c]at h;injection h with h;injection h with h1 h2;subst h1;subst h2;obtain⟨o,d,-⟩:=List.findIdx?_eq_some_iff_getElem.1 c;have d:f[j]=k:=by{simpa using d};exact⟨by rw[zJ o,d],n,l,vW _⟩}|none=>{rw[c]at h;simp only at h;split at h;{rename_i p;injection h with h;injection h with h1 h2;subst h1;subst h2;have g:k∉f:=λq=>by{have:=List.findIdx?_eq_none_iff.1 c k q;simp at this};refine⟨zZ,by simp only[O_,b_,i_];omega,?_,List.prefix_append _ _⟩;rw[qP];exact⟨l,zZ,λa r b m=>by rw[V_]at m;subst m;intro e;subst e;exact g r⟩};cases h}
omit [DecidableEq K]in
def El{f f':List K}{i:Nat}{k:K}(h:f <+: f')(a:f[i]?=zY k):f'[i]?=zY k:=by obtain⟨t,rfl⟩:=h;rw[yB (T_.1 a).1];exact a
structure P0(most:Nat)(step:K->Nat->K)(bs:List Nat)(start:K)(n:Nat)(f:List K)(rows:List (List Nat)):Prop where
 len:f.length<=most
 nd:f.Nodup
 zero:f[0]?=zY start
 rl:rows.length=n
 cols:∀row∈rows,row.length=bs.length
 ok:∀(i k:Nat) (row:List Nat) (b t:Nat) (x:K),rows[i]?=zY row->bs[k]?=zY b->row[k]?=zY t->f[i]?=zY x->f[t]?=zY (step x b)
def WT{f:List K}{x:K}(s:f.length<=most)(u:f.Nodup):∀(k:Nat),k<=bs.length->∀(f':List K) (row:List Nat),(bs.take k).foldl (C6 most step x) (zY (f,[]))=zY (f',row)->f'.length<=most/\f'.Nodup/\f <+: f'/\row.length=k/\∀(j b t:Nat),bs[j]?=zY b->row[j]?=zY t->f'[t]?=zY (step x b):=by intro k;induction k with|zero=>intro _ f' row h;simp only[tE,tK,ApC.injEq,Prod.mk.injEq]at h;obtain⟨rfl,rfl⟩:=h;exact⟨s,u,vW _,rfl,λj b t _ h=>by simp at h⟩|succ k v=>{intro F f' row h;have⟨b,m⟩:=Ac (l:=bs) (k:=k) zO;rw[Ab m,xO]at h;cases e:(bs.take k).foldl (C6 most step x) (zY (f,[]))with|none=>rw[e]at h;cases h|some p=>{have⟨n,w⟩:=p;have⟨y,z,A,o,B⟩:=v zO n w e;rw[e]at h;simp only[wW,tK,C6,wA]at h;cases g:I' most n (step x b)with|none=>rw[g]at h;cases h|some r=>{have⟨G,H⟩:=r;rw[g]at h;simp only[wP,ApC.injEq,Prod.mk.injEq]at h;obtain⟨rfl,rfl⟩:=h;have⟨C,D,E,q⟩:=M1 g y z;refine⟨D,E,A.trans q,by simp[o],λj c t d a=>?_⟩;by_cases I:j<k;{rw[yB zO]at a;exact El q (B j c t d a)};have i:=(T_.1 a).1;simp only[O_,b_,i_]at i;obtain rfl:j=k:=zO;rw[m]at d;injection d with d;subst d;rw[zL zO,o,wZ]at a;simp only[wB,ApC.injEq]at a;subst a;exact C}}}
def Ol{f:List K}{x:K}(a:f.length<=most)(c:f.Nodup){f':List K}{row:List Nat}(h:bs.foldl (C6 most step x) (zY (f,[]))=zY (f',row)):f'.length<=most/\f'.Nodup/\f <+: f'/\row.length=bs.length/\∀(j b t:Nat),bs[j]?=zY b->row[j]?=zY t->f'[t]?=zY (step x b):=WT a c bs.length (M_ _) f' row (by rw[M'];exact h)
def Ni(z:1<=most):∀(n:Nat) (f:List K) (rows:List (List Nat)),BA most step bs start n=zY (f,rows)->(∀j,j<n->j<f.length)->P0 most step bs start n f rows
 | 0,f,rows,h,_=>by
   simp only[BA,ApC.injEq,Prod.mk.injEq]at h;obtain⟨rfl,rfl⟩:=h;exact⟨z,zZ,rfl,rfl,(λrow h=>by cases h),λi k row b t x h=>by simp at h⟩
 | n+1,f,rows,h,hlt=>by
   simp only[BA]at h;cases s:BA most step bs start n with
   | none=>rw[s]at h;cases h
   | some p=>
     have⟨o,d⟩:=p;rw[s]at h;simp only[wA]at h;cases g:o[n]? with
     | none=>
       rw[g]at h;simp only[ApC.injEq,Prod.mk.injEq]at h;obtain⟨rfl,rfl⟩:=h;have:=hlt n zO;rw[fK]at g;omega
     | some x=>
       rw[g]at h;simp only at h;cases u:bs.foldl (C6 most step x) (zY (o,[]))with
       | none=>rw[u]at h;cases h
       | some r=>
         have⟨G,row⟩:=r;rw[u]at h;simp only[wP,ApC.injEq,Prod.mk.injEq]at h;obtain⟨rfl,rfl⟩:=h;have D:=(T_.1 g).1;have c:=Ni z n o d s λj H=>zO
         have⟨g1,g2,q,E,F⟩:=Ol c.len c.nd u;refine⟨g1,g2,El q c.zero,by simp[c.rl],λr a=>?_,λi k r b t y e A B C=>?_⟩
         ·rcases k_.1 a with a | a
          ·exact c.cols r a
          ·rw[V_]at a;subst a;exact E
         ·by_cases v:i<n
          ·rw[yB (by rw[c.rl];exact v)]at e;have⟨I,m⟩:=Ac (l:=o) (k:=i) zO;have:=El q m;rw[C]at this;injection this with this
           subst this;exact El q (c.ok i k r b t y e A B m)
          ·have w:=(T_.1 e).1;simp only[O_,b_,i_,c.rl]at w;obtain rfl:i=n:=zO
           rw[zL (by rw[c.rl];exact M_ _),c.rl,wZ]at e;simp only[wB,ApC.injEq]at e;subst e;have:=El q g;rw[C]at this;injection this with this
           subst this;exact F k b t A B
def Q9{n:Nat}{f:List K}{rows:List (List Nat)}(h:BA most step bs start n=zY (f,rows))(c:f.length<=n):∀m,n<=m->BA most step bs start m=zY (f,rows):=by intro m d;induction m with|zero=>obtain rfl:n=0:=zO;exact h|succ m a=>by_cases b:n=m+1;{subst b;exact h};have:=a zO;simp only[BA,this,wA];rw[zC zO]
def X1{n:Nat}(h:BA most step bs start n=zV):∀m,n<=m->BA most step bs start m=zV:=by intro m c;induction m with|zero=>obtain rfl:n=0:=zO;exact h|succ m a=>by_cases b:n=m+1;{subst b;exact h};have:=a zO;simp only[BA,this,Option.bind_none]
def Dt(most:Nat)(step:K->Nat->K)(bs:List Nat)(start:K):Option (List K×List (List Nat)):=BA most step bs start most
def KW{n:Nat}{f:List K}{rows:List (List Nat)}(h:BA most step bs start n=zY (f,rows))(a:f.length=n)(b:f.length<=most):Dt most step bs start=zY (f,rows):=Q9 h zO most zO
def KX{n:Nat}(h:BA most step bs start (n+1)=zV)(a:n<most):Dt most step bs start=zV:=X1 h most a
end
section
variable{α:Type}{T:Ty α}{nb:Nat}{xs:List (List α)}
def nR{ty q by_ t f:Nat}{z:v_}{a:Option Addr}{n cap:Nat}{ds:List v_}{x:List α}{y:α}{K:v_->Aa->Prop}(o:B_ B H0 H ps)(i:Nat)(s:SlT P j e T.size by_ z)(p:ps[i]?=zY (pT T e te nb vs xs))(r:vs[t]?=zY (.slice a n cap))(v:xs[t]?=zY x)(w:Bi H q 0 ds) (A:T.rep none_ H ds y) (C:ds.all (·.oneCell')=zW) (l:x.length+1<=34359738368) (hby:by_<=1024)(k:∀a' c H1,Mid T B H0 H H1 ps i e te nb vs xs t (.slice a' (x.length+1) c) (x++[y])->D_ (λk=>k<H.size/\¬Q_ (.slice a n cap) k) H H1->K (.slice a' (x.length+1) c) H1):B0 P (Builtin.append_ #[j,j] ty [.slice a n cap,.slice (N_ q) 1 f].toArray) H K:=by have tab:=o.tab i p;have g:=tab.own t _ _ r v;refine BN (T:=T) (S:=none_) (lo:=nb+1) (ys:=[y]) s g tab.blk.lt (λk D=>D.elim) w (Ty.reps_one A) rfl (λu E=>List.all_eq_true.1 C u E) (by unfold maxLen;simp only[c_];omega) (by have:=Nat.mul_le_mul l hby;simp only[c_];omega) ?_;intro F H1 b d m h;obtain⟨a',c,rfl⟩:=b.hull;rw[O_,c_]at b h ⊢;exact k a' c H1 ⟨o,p,b,⟨_,r,d,h⟩,m⟩ d
def B_.rowNe(b:B_ B H0 H ps)(i:Nat)(c:ps[i]?=zY (pT T e te nb vs xs)){t:Nat}{x:List α}(d:vs[t]?=zY v)(f:xs[t]?=zY x):¬Q_ v nb:=λh=>by
 have a:=(b.tab i c).own t _ _ d f;have:=(a.lt h).1;omega
end
section
variable{β:Type}
def yY(n:Nat)(key:u_->Option (Nat×β))(l:List u_):List (List β):=(AqW n).map λq=>l.filterMap λe=>(key e).bind λp=>if p.1=q then zY p.2 else zV
def D1(n:Nat)(a:u_->Option (Nat×β))(l:List u_):(yY n a l).length=n:=by simp[yY]
def GQ{n q:Nat}(a:u_->Option (Nat×β))(l:List u_)(h:q<n):(yY n a l)[q]?=zY (l.filterMap λe=>(a e).bind λp=>if p.1=q then zY p.2 else zV):=by unfold yY;rw[Y',wJ h];rfl
def Pd(n:Nat)(a:u_->Option (Nat×β)):yY n a []=An8 n []:=by unfold yY;simp[List.map_const']
def DW{n:Nat}{a:u_->Option (Nat×β)}{l:List u_}{e:u_}(h:a e=zV):yY n a (l++[e])=yY n a l:=by unfold yY;refine uR λq _=>?_;rw[fL];simp[h]
def MI{n q:Nat}{a:u_->Option (Nat×β)}{l:List u_}{e:u_}{y:β}{row:List β}(h:a e=zY (q,y))(c:(yY n a l)[q]?=zY row):yY n a (l++[e])=(yY n a l).set q (row++[y]):=by
 have f:q<n:=by have:=(T_.1 c).1;rwa [D1]at this
 rw[GQ a l f]at c;injection c with c;apply yP;intro j;by_cases d:j<n;{rw[GQ a _ d,fL,List.getElem?_set,D1,GQ a _ d];by_cases b:q=j;{subst b;rw[J_ rfl,J_ d,<-c];simp[h]};rw[I_ b];simp[h,b]};rw[zC (by rw[D1];omega),zC (by rw[yT,D1];omega)]
end
def AQ(a:P_):Nat:=if 0<=a.st/\a.st<=65536 then a.st.toNat else 0
def Lp(a:P_):AQ a<=65536:=by unfold AQ;split<;>omega
def Kr(a:P_)(q:Int):a.has q=(zT (0<=q)&&zT (q<(AQ a:Int))):=by rw[Bool.eq_iff_iff,P_.has_iff];unfold AQ;simp only[X',z'];split<;>omega
def xM(a:P_)(e:u_):Bool:=a.has e.fr&&a.has e.to
def yZ(a:P_)(e:u_):Option (Nat×Int):=if xM a e&&e.sil then zY (e.fr.toNat,e.to)else zV
def Mf(a:P_)(e:u_):Option (Nat×u_):=if xM a e&& !e.sil then zY (e.fr.toNat,e)else zV
def mQ(a:P_):List (List Int):=yY (AQ a) (yZ a) a.edges
def QR(a:P_):List (List u_):=yY (AQ a) (Mf a) a.edges
abbrev eK:x_:=223
def sE(sv tv:v_)(n:Nat):List v_:=[sv,tv,A_ n]
def OB(S:Nat->Prop)(H:Aa)(v:v_)(a:P_):Prop:=∃nb sa sc ta tc,v= U_ nb/\S nb/\Bi H nb 0 (sE (.slice sa (AQ a) sc) (.slice ta (AQ a) tc) (AQ a))/\Y_ (zF a_) S H sa sc (mQ a)/\Y_ (zF tEd) S H ta tc (QR a)
def OB.frame{H':Aa}{a:P_}(h:OB S H v a)(k:D_ S H H'):OB S H' v a:=by have⟨nb,sa,sc,c,d,e,b,f,g,i⟩:=h;exact⟨nb,sa,sc,c,d,e,b,f.eq (k nb b),g.frame k,i.frame k⟩
def OB.mono{S':Nat->Prop}{a:P_}(h:OB S H v a)(k:∀i,S i->S' i):OB S' H v a:=by have⟨nb,sa,sc,b,c,d,e,f,g,j⟩:=h;exact⟨nb,sa,sc,b,c,d,k _ e,f,g.mono k,j.mono k⟩
def Xk{nb:Nat}{d e:v_}{a:P_}(h:Bi H nb 0 (sE d e (AQ a))):BK prog 110 #[U_ nb,A_ q] H (.bool (a.has q)):=by refine Ai.of_vc func110 rfl (call110 _) ?_;by_cases c:0<=q;{have b:zT ((0:Int)<=q)=zW:=r_ c;(conv=>whnf);rw[b];refine fa Pa (C_ (v:=A_ (AQ a:Int)) E_ (h 2 _ rfl) zA ?_);(conv=>whnf);exact⟨by rw[Kr,b,vD],D_.refl _ _⟩};have b:zT ((0:Int)<=q)=zU:=n_ c;(conv=>whnf);rw[b];(conv=>whnf);exact⟨by rw[Kr,b,vP],D_.refl _ _⟩
def kF:(prog.info? 223).bind (·.zero)=zY (.agg #[.slice zV 0 0,.slice zV 0 0,A_ 0]):=rfl
def AiY{a:P_}(hS:∀k,S k->k<H.size)(h:sH S H v a):Ai prog 109 #[v] H λr H'=>D_ (H_ H) H H'/\OB (H_ H') H' r a:=by have hr:=h.1;have hl:=h.2.1;refine Ai.of_vc func109 rfl (call109 _) (TE h λea ec ab h1=>?_);subst ab;intro p H1 hp ae ag ah;have F_:=(St.nil H).box hp ae ag ah;refine Au underlying223 rfl _ kF (sE (.slice zV 0 0) (.slice zV 0 0) 0) rfl (BI (sE (.slice zV 0 0) (.slice zV 0 0) 0) rfl ?_);intro nb H2 ai aj ak am;have I:=F_.box ai aj ak am;have Z:=Lp a;obtain⟨n,Q⟩:∃n,n=AQ a:=⟨_,rfl⟩;rw[<-Q]at Z;have R:=I.blk 0 rfl;have w:∀c:Bool,c=(zT ((0:Int)<=a.st)&&zT (a.st<=65536))->(c=zW->(n:Int)=a.st)/\(c=zU->n=0):=by{intro c hc;rw[hc,Q];unfold AQ;constructor;{intro h;simp only[X',z']at h;rw[J_ h];omega};intro h;rw[I_ λh2=>by simp[h2.1,h2.2]at h]};(conv=>whnf);refine A7.cut (α:=Unit) [] (λ_=>[]) (λ_ H3=>St H H3 [pB 171 p (s_ a (.slice ea a.edges.length ec)),pB eK nb (sE (.slice zV 0 0) (.slice zV 0 0) n)]) ?_ ?_;{refine fa DN ?_;refine C_ (v:=A_ a.st) E_ (by rw[R.cell];rfl) zA ?_;by_cases h0:0<=a.st;{have X:zT ((0:Int)<=a.st)=zW:=r_ h0;(conv=>whnf);rw[X];refine fa DN ?_;refine C_ (v:=A_ a.st) E_ (by rw[R.cell];rfl) zA ?_;by_cases h6:a.st<=65536;{have d6:zT (a.st<=(65536:Int))=zW:=r_ h6;have ao:(n:Int)=a.st:=(w zW (by rw[X,d6];rfl)).1 rfl;(conv=>whnf);rw[d6];refine fa DN ?_;refine C_ (v:=A_ a.st) E_ (by rw[R.cell];rfl) zA ?_;refine fa Pa (Bb I 1 E_ rfl (zQ:2<3) rfl λH3 J=>(⟨rfl,(),rfl,?_⟩));unfold sE;rw[ao];exact J};have d6:zT (a.st<=(65536:Int))=zU:=n_ h6;obtain rfl:n=0:=(w zU (by rw[X,d6];rfl)).2 rfl;(conv=>whnf);rw[d6];(conv=>whnf);exact⟨rfl,(),rfl,I⟩};have X:zT ((0:Int)<=a.st)=zU:=n_ h0;obtain rfl:n=0:=(w zU (by rw[X];rfl)).2 rfl;(conv=>whnf);rw[X];(conv=>whnf);exact⟨rfl,(),rfl,I⟩};rintro⟨⟩ H3 ap J;refine fa Pa ?_;refine lT (v:=A_ n) E_ ((J.blk 1 rfl).ce rfl) ?_;refine DH Dj rfl zO zO zO zO ?_;intro sb H4 aq ar a0 au;rw[O']at a0 ⊢;have aw:=J.tabNew a_ 3 aq ar a0 au;refine fa OZ (Bb aw 1 D7 rfl (zQ:0<3) rfl λH5 a1=>(fa Pa ?_));refine lT (v:=A_ n) E_ ((a1.blk 1 rfl).ce rfl) ?_;refine DH VZ rfl zO zO zO zO ?_;intro tb H6 ax ay a2 az;rw[O']at a2 ⊢;have b0:=a1.tabNew tEd 225 ax ay a2 az;refine fa MF (Bb b0 1 UU rfl (zQ:1<3) rfl λH7 a3=>?_);have b4:=a3.blk 0 rfl;refine fa Eh ?_;refine C_ (v:=.slice ea a.edges.length ec) FV (by rw[b4.cell];rfl) zA ?_;(conv=>whnf);refine A0.mk [40] (λi:Nat=>[A_ i]) (λi H8=>i<=a.edges.length/\∃vs vt,St H H8 [pB 171 p (s_ a (.slice ea a.edges.length ec)),pB eK nb (sE (.slice (N_ sb) n n) (.slice (N_ tb) n n) n),pT a_ 3 39 sb vs (yY n (yZ a) (a.edges.take i)),pT tEd 225 169 tb vt (yY n (Mf a) (a.edges.take i))]) (λi _=>a.edges.length-i) ?_ ?_;{(conv=>whnf);refine⟨0,rfl,p_ _,An8 n (.slice zV 0 0),An8 n (.slice zV 0 0),?_⟩;rw[tE,Pd,Pd];exact a3};rintro i H8 b5 ⟨hi,vs,vt,o⟩;refine AB.m2 (λhz=>?_) (λhz=>?_);{have⟨e,he⟩:=Ac (l:=a.edges) (k:=i) zO;refine A7.run (U' (i:=i) Gs (h1.frame (o.old.mono hS)) he rfl ?_);rintro b6 o6 c6 bd b7 ⟨rfl,a4⟩;refine L_ (cs:=yA e) P3 b7 zA (Af _ [A_ 0,A_ 0,.bool zU,.int .u64 0,.int .u64 0,.int .u64 0,.int .u64 0] LW rfl ?_);intro x H9 hx a5 a6 a7;have N:=o.box hx a5 a6 a7;refine AI (cs:=yA e) N 4 rfl rfl (M_ _) rfl λH10 O=>?_;rw[Ar (show(yA e).length=7 from rfl)]at O;clear N a5 a6 a7;obtain⟨H9,rfl⟩:∃H9,H9=H10:=⟨_,rfl⟩;have K:=O;have hX:=K.blk 4 rfl;have u:Bi H9 nb 0 (sE (.slice (N_ sb) n n) (.slice (N_ tb) n n) (AQ a)):=by{rw[<-Q];exact(K.blk 1 rfl).cells λj v L=>by rw[K_];exact L};refine fa Ia ?_;refine C_ (v:=A_ e.fr) E_ (by rw[hX.cell];rfl) zA ?_;refine Al (Xk u) λH14 P=>?_;have z:=K.call P;cases G:a.has e.fr with|false=>have k1:yZ a e=zV:=by{unfold yZ xM;rw[G,vP,vP];rfl};have k2:Mf a e=zV:=by{unfold Mf xM;rw[G,vP,vP];rfl};have g1:=DW (n:=n) (l:=a.edges.take i) k1;have g2:=DW (n:=n) (l:=a.edges.take i) k2;rw[<-Ab he]at g1 g2;(conv=>whnf);rw[R_ i zO];refine⟨rfl,i+1,zZ,⟨zO,vs,vt,?_⟩,zO⟩;rw[g1,g2];exact z.pick [0,1,2,3] zQ|true=>{refine fa Le ?_;refine lT (v:=A_ e.to) E_ ((z.blk 4 rfl).ce rfl) ?_;refine Al (Xk (u.eq (P nb (K.in_ 1 rfl rfl).2))) λHq a8=>?_;have d:=z.call a8;cases Y:a.has e.to with|false=>have k1:yZ a e=zV:=by{unfold yZ xM;rw[G,Y,rL,vP];rfl};have k2:Mf a e=zV:=by{unfold Mf xM;rw[G,Y,rL,vP];rfl};have g1:=DW (n:=n) (l:=a.edges.take i) k1;have g2:=DW (n:=n) (l:=a.edges.take i) k2;rw[<-Ab he]at g1 g2;(conv=>whnf);rw[R_ i zO];refine⟨rfl,i+1,zZ,⟨zO,vs,vt,?_⟩,zO⟩;rw[g1,g2];exact d.pick [0,1,2,3] zQ|true=>{have be:=P_.has_iff.1 G;have bf:0<=e.fr/\e.fr<(n:Int):=by{have:=Kr a e.fr;rw[G,<-Q]at this;simpa using this.symm};have bg:e.fr.toNat<n:=zO;refine fa Y0 ?_;refine lT (v:=.bool e.sil) zE ((d.blk 4 rfl).ce rfl) ?_;cases M:e.sil with|true=>{(conv=>whnf);have⟨row,b⟩:=Ac (l:=yY n (yZ a) (a.edges.take i)) (k:=e.fr.toNat) (by rw[D1];omega);have b8:row.length<=i:=by{rw[GQ _ _ (zO:e.fr.toNat<n)]at b;injection b with b;rw[<-b];exact yS (rR _ _) (lH _ _)};obtain⟨ra,rc,m,-⟩:=d.row 2 rfl b;have T:=d.rowNe 2 rfl m b;have q:∀k,Q_ (.slice ra row.length rc) k->(pT a_ 3 39 sb vs (yY n (yZ a) (a.edges.take i))).foot k:=λk s=>.inr ⟨e.fr.toNat,_,m,s⟩;have d1:=d.apart2 (i:=1) (j:=2) rfl rfl zQ;have d4:=d.apart2 (i:=4) (j:=2) rfl rfl zQ;have qn:nb<Hq.size/\¬Q_ (.slice ra row.length rc) nb:=⟨(d.in_ 1 rfl rfl).2,λh=>d1 nb rfl (q nb h)⟩;have U:x<Hq.size/\¬Q_ (.slice ra row.length rc) x:=⟨(d.in_ 4 rfl rfl).2,λh=>d4 x rfl (q x h)⟩;have qt:sb<Hq.size/\¬Q_ (.slice ra row.length rc) sb:=⟨(d.in_ 2 rfl (.inl rfl)).2,T⟩;have A:=d.blk 1 rfl;have t:=d.blk 4 rfl;refine Ap.heldZ (λk=>k<Hq.size/\¬Q_ (.slice ra row.length rc) k) [19] (sq [0,1,2,3,4,5,6,7,8,9,10,11,12,13,14,15] (.f 16 (.f 17 (sq [18] (.f 19 .e))))) rfl zX (fa OZ ?_);refine C_ (v:=.slice (N_ sb) n n) D7 (by rw[A.cell];rfl) qn ?_;refine fa Ia ?_;refine C_ (v:=A_ e.fr) E_ (by rw[t.cell];rfl) U ?_;refine fa OZ ?_;refine C_ (v:=.slice (N_ sb) n n) D7 (by rw[A.cell];rfl) qn ?_;refine fa Ia ?_;refine C_ (v:=A_ e.fr) E_ (by rw[t.cell];rfl) U ?_;refine ix Dj zO zO (C_ C4 (d.tcell 2 rfl m (by rw[K_,zI])) qt (fa Le ?_));refine C_ (v:=A_ e.to) E_ (by rw[t.cell];rfl) U ?_;refine Aj AD [A_ e.to] rfl rfl zQ zQ ?_;intro b9 H11 B a9 C g;have D:=d.skip B g;refine⟨g.mono λk s=>by have:=s.1;omega,?_⟩;refine nR (ds:=[A_ e.to]) (y:=e.to) D 2 AD rfl m b (C.cells λj v L=>by rw[K_];exact L) ⟨rfl,a4.2⟩ rfl zO zQ λwa wc H12 mid E=>?_;refine⟨(g.mono λk s=>by have:=s.1;omega).trans (E.mono λk s=>⟨by have:=s.1;omega,s.2⟩),?_⟩;refine ix Dj zO zO (nO mid C4 (by rw[K_,zI]) λH13 F=>?_);have V:yZ a e=zY (e.fr.toNat,e.to):=by{unfold yZ xM;rw[G,Y,M];rfl};have W:Mf a e=zV:=by{unfold Mf xM;rw[G,Y,M];rfl};have g1:=MI V b;have g2:=DW (n:=n) (l:=a.edges.take i) W;rw[<-Ab he]at g1 g2;(conv=>whnf);rw[R_ i zO];refine⟨rfl,i+1,zZ,⟨zO,vs.set e.fr.toNat (.slice wa (row.length+1) wc),vt,?_⟩,zO⟩;rw[g1,g2];exact F.pick [0,1,2,3] zQ}|false=>{(conv=>whnf);have⟨row,b⟩:=Ac (l:=yY n (Mf a) (a.edges.take i)) (k:=e.fr.toNat) (by rw[D1];omega);have b8:row.length<=i:=by{rw[GQ _ _ (zO:e.fr.toNat<n)]at b;injection b with b;rw[<-b];exact yS (rR _ _) (lH _ _)};obtain⟨ra,rc,m,-⟩:=d.row 3 rfl b;have T:=d.rowNe 3 rfl m b;have q:∀k,Q_ (.slice ra row.length rc) k->(pT tEd 225 169 tb vt (yY n (Mf a) (a.edges.take i))).foot k:=λk s=>.inr ⟨e.fr.toNat,_,m,s⟩;have d1:=d.apart2 (i:=1) (j:=3) rfl rfl zQ;have d4:=d.apart2 (i:=4) (j:=3) rfl rfl zQ;have qn:nb<Hq.size/\¬Q_ (.slice ra row.length rc) nb:=⟨(d.in_ 1 rfl rfl).2,λh=>d1 nb rfl (q nb h)⟩;have U:x<Hq.size/\¬Q_ (.slice ra row.length rc) x:=⟨(d.in_ 4 rfl rfl).2,λh=>d4 x rfl (q x h)⟩;have qt:tb<Hq.size/\¬Q_ (.slice ra row.length rc) tb:=⟨(d.in_ 3 rfl (.inl rfl)).2,T⟩;have A:=d.blk 1 rfl;have t:=d.blk 4 rfl;refine Ap.heldZ (λk=>k<Hq.size/\¬Q_ (.slice ra row.length rc) k) [18] (sq [0,1,2,3,4,5,6,7,8,9,10,11,12,13,14] (.f 15 (.f 16 (sq [17] (.f 18 .e))))) rfl zX (fa MF ?_);refine C_ (v:=.slice (N_ tb) n n) UU (by rw[A.cell];rfl) qn ?_;refine fa Ia ?_;refine C_ (v:=A_ e.fr) E_ (by rw[t.cell];rfl) U ?_;refine fa MF ?_;refine C_ (v:=.slice (N_ tb) n n) UU (by rw[A.cell];rfl) qn ?_;refine fa Ia ?_;refine C_ (v:=A_ e.fr) E_ (by rw[t.cell];rfl) U ?_;refine ix VZ zO zO (C_ FV (d.tcell 3 rfl m (by rw[K_,zI])) qt ?_);refine L_ (cs:=yA e) P3 (t.cells λj v L=>by rw[K_];exact L) U ?_;refine Aj Gs (yA e) rfl rfl zQ zQ ?_;intro b9 H11 B a9 C g;have D:=d.skip B g;refine⟨g.mono λk s=>by have:=s.1;omega,?_⟩;refine nR (ds:=yA e) (y:=e) D 3 Gs rfl m b (C.cells λj v L=>by rw[K_];exact L) ⟨rfl,a4⟩ (KZ e) zO zQ λwa wc H12 mid E=>?_;refine⟨(g.mono λk s=>by have:=s.1;omega).trans (E.mono λk s=>⟨by have:=s.1;omega,s.2⟩),?_⟩;refine ix VZ zO zO (nO mid FV (by rw[K_,zI]) λH13 F=>?_);have V:Mf a e=zY (e.fr.toNat,e):=by{unfold Mf xM;rw[G,Y,M];rfl};have W:yZ a e=zV:=by{unfold yZ xM;rw[G,Y,M];rfl};have g1:=MI V b;have g2:=DW (n:=n) (l:=a.edges.take i) W;rw[<-Ab he]at g1 g2;(conv=>whnf);rw[R_ i zO];refine⟨rfl,i+1,zZ,⟨zO,vs,vt.set e.fr.toNat (.slice wa (row.length+1) wc),?_⟩,zO⟩;rw[g1,g2];exact F.pick [0,1,2,3] zQ}}}};obtain rfl:i=a.edges.length:=zO;rw[M']at o;(conv=>whnf);refine⟨o.old,nb,zY ⟨sb,0,zV⟩,n,zY ⟨tb,0,zV⟩,n,rfl,(o.in_ 1 rfl rfl).2,?_,?_,?_⟩;{rw[<-Q];exact(o.blk 1 rfl).cells λj v L=>by rw[K_];exact L};{have:=o.tview 2 rfl (by rw[D1];unfold maxLen;omega);unfold mQ;rw[<-Q];rw[D1]at this;exact this};have:=o.tview 3 rfl (by rw[D1];unfold maxLen;omega);unfold QR;rw[<-Q];rw[D1]at this;exact this
def Kt(a:P_)(e:u_):Option (Nat×u_):=if xM a e then zY (e.fr.toNat,e)else zV
abbrev wE:x_:=200
def xP(n:Nat)(ov mv:v_):List v_:=[A_ n,ov,mv]
def jB:(prog.info? 200).bind (·.zero)=zY (.agg #[A_ 0,.slice zV 0 0,.slice zV 0 0]):=rfl
def oC(nb tb:Nat)(n:Nat)(ma:Option Addr)(mc:Nat)(vt:List v_)(rows:List (List u_))(Vv:List Bool):List Pc:=[pB wE nb (xP n (.slice (N_ tb) n n) (.slice ma n mc)),pT DS 189 132 tb vt rows,pS Ay 4 ma n mc Vv]
def Ny{S:Nat->Prop}{H:Aa}:∀xs:List Bool,Ay.reps S H (xs.map Value.bool) xs | []=>rfl | x::xs=>⟨[.bool x],xs.map Value.bool,rfl,rfl,Ny xs⟩
def AfN{a:P_}(hS:∀k,S k->k<H.size)(h:qJ S H v a):Ai prog 91 #[v] H λr H'=>∃nb tb ma mc vt,r= U_ nb/\St H H' (oC nb tb (AQ a) ma mc vt (yY (AQ a) (Kt a) a.edges) (An8 (AQ a) zU)):=by
 have hr:=h.1;have hl:=h.2.1;refine Ai.of_vc func91 rfl (call91 _) (iA h λea ec a0 h1=>?_);subst a0;intro p H1 hp a1 a2 a3;have F_:=(St.nil H).box hp a1 a2 a3;refine Au underlying200 rfl _ jB (xP 0 (.slice zV 0 0) (.slice zV 0 0)) rfl (BI (xP 0 (.slice zV 0 0) (.slice zV 0 0)) rfl ?_);intro nb H2 a4 a5 a6 a7;have w:=F_.box a4 a5 a6 a7;have L:=Lp a;obtain⟨n,M⟩:∃n,n=AQ a:=⟨_,rfl⟩;rw[<-M]at L;have E:=w.blk 0 rfl;have o:∀c:Bool,c=(zT ((0:Int)<a.st)&&zT (a.st<=65536))->(c=zW->(n:Int)=a.st)/\(c=zU->n=0):=by{intro c hc;rw[hc,M];unfold AQ;constructor;{intro h;simp only[X',z']at h;rw[J_ ⟨zO,h.2⟩];omega};intro h;by_cases h0:0<a.st;{rw[I_ λh2=>by simp[h0,h2.2]at h]};split<;>omega};(conv=>whnf);refine A7.cut (α:=Unit) [] (λ_=>[]) (λ_ H3=>St H H3 [pB 134 p (s_ a (.slice ea a.edges.length ec)),pB wE nb (xP n (.slice zV 0 0) (.slice zV 0 0))]) ?_ ?_;{refine fa Ck ?_;refine C_ (v:=A_ a.st) E_ (by rw[E.cell];rfl) zA ?_;by_cases h0:0<a.st;{have I:zT ((0:Int)<a.st)=zW:=r_ h0;(conv=>whnf);rw[I];refine fa Ck ?_;refine C_ (v:=A_ a.st) E_ (by rw[E.cell];rfl) zA ?_;by_cases h6:a.st<=65536;{have N:zT (a.st<=(65536:Int))=zW:=r_ h6;have a8:(n:Int)=a.st:=(o zW (by rw[I,N];rfl)).1 rfl;(conv=>whnf);rw[N];refine fa Ck ?_;refine C_ (v:=A_ a.st) E_ (by rw[E.cell];rfl) zA ?_;refine fa Jq (Bb w 1 E_ rfl (zQ:0<3) rfl λH3 z=>(⟨rfl,(),rfl,?_⟩));unfold xP;rw[a8];exact z};have N:zT (a.st<=(65536:Int))=zU:=n_ h6;obtain rfl:n=0:=(o zU (by rw[I,N];rfl)).2 rfl;(conv=>whnf);rw[N];(conv=>whnf);exact⟨rfl,(),rfl,w⟩};have I:zT ((0:Int)<a.st)=zU:=n_ h0;obtain rfl:n=0:=(o zU (by rw[I];rfl)).2 rfl;(conv=>whnf);rw[I];(conv=>whnf);exact⟨rfl,(),rfl,w⟩};rintro⟨⟩ H3 a9 z;refine fa Jq ?_;refine lT (v:=A_ n) E_ ((z.blk 1 rfl).ce rfl) ?_;refine DH VY rfl zO zO zO zO ?_;intro tb H4 ab ae O ag;rw[O']at O ⊢;have ah:=z.tabNew DS 189 ab ae O ag;refine fa ME (Bb ah 1 UT rfl (zQ:1<3) rfl λH5 P=>(fa Jq ?_));refine lT (v:=A_ n) E_ ((P.blk 1 rfl).ce rfl) ?_;refine DH Ci rfl zO zO zO zO ?_;intro mb H6 ai aj Q ak;rw[O']at Q ⊢;have F:Ay.reps none_ H6 (An8 n (Value.bool zU)) (An8 n zU):=by{have:=Ny (S:=none_) (H:=H6) (An8 n zU);rwa [fO]at this};have am:=P.new (T:=Ay) (n:=n) (xs:=An8 n zU) ai aj Q ak F zZ (by unfold maxLen;omega);refine fa Jr (Bb am 1 FX rfl (zQ:2<3) rfl λH7 ao=>?_);(conv=>whnf);refine A0.mk [4] (λi:Nat=>[A_ i]) (λi H8=>i<=a.edges.length/\∃vt,St H H8 [pB 134 p (s_ a (.slice ea a.edges.length ec)),pB wE nb (xP n (.slice (N_ tb) n n) (.slice (N_ mb) n n)),pT DS 189 132 tb vt (yY n (Kt a) (a.edges.take i)),pS Ay 4 (N_ mb) n n (An8 n zU)]) (λi _=>a.edges.length-i) ?_ ?_;{(conv=>whnf);refine⟨0,rfl,p_ _,An8 n (.slice zV 0 0),?_⟩;rw[tE,Pd];exact ao};rintro i H8 ap ⟨hi,vt,q⟩;have R:=q.blk 0 rfl;refine fa CS ?_;refine C_ (v:=.slice ea a.edges.length ec) EB (by rw[R.cell];rfl) zA ?_;refine AB.m2 (λhz=>?_) (λhz=>?_);{
 have⟨e,J⟩:=Ac (l:=a.edges) (k:=i) zO;refine A7.run (fa CS ?_);refine C_ (v:=.slice ea a.edges.length ec) EB (by rw[R.cell];rfl) zA ?_;refine U' (i:=i) Ec (h1.frame (q.old.mono hS)) J rfl ?_;rintro b6 o6 c6 b5 aq ⟨rfl,ar⟩;refine L_ (cs:=DP e) (by rw[Cc];exact XP) aq zA ?_;refine Af _ Ah1 OV rfl ?_;intro x H9 hx au aw ax;have ay:=q.box hx au aw ax;refine AI (cs:=DP e) ay 4 (by rw[Cc];rfl) rfl (by rw[Cc];decide) (FY e) λHq b=>?_;rw[Ar (show(DP e).length=Ah1.length by rw[Cc,bS])]at b;have A:=b.blk 1 rfl;have m:=b.blk 4 rfl;have s:a.has e.fr=(zT (0<=e.fr)&&zT (e.fr<(n:Int))):=by rw[Kr,M]
 have t:a.has e.to=(zT (0<=e.to)&&zT (e.to<(n:Int))):=by rw[Kr,M]
 refine Ap.lex rfl zX (fa Ld ?_);refine C_ (v:=A_ e.fr) E_ (by rw[m.cell];rfl) zA ?_;by_cases c1:0<=e.fr;have C:zT (0<=e.fr)=zW:=r_ c1;(conv=>whnf);rw[C];refine fa Ld ?_;refine C_ (v:=A_ e.fr) E_ (by rw[m.cell];rfl) zA ?_;refine fa Jq ?_;refine C_ (v:=A_ n) E_ (by rw[A.cell];rfl) zA ?_;by_cases c2:e.fr<(n:Int);{
 have G:zT (e.fr<(n:Int))=zW:=r_ c2;(conv=>whnf);rw[G];refine fa HZ ?_;refine C_ (v:=A_ e.to) E_ (by rw[m.cell];rfl) zA ?_;by_cases c3:0<=e.to;have K:zT (0<=e.to)=zW:=r_ c3;(conv=>whnf);rw[K];refine fa HZ ?_;refine C_ (v:=A_ e.to) E_ (by rw[m.cell];rfl) zA ?_;refine fa Jq ?_;refine C_ (v:=A_ n) E_ (by rw[A.cell];rfl) zA ?_;by_cases c4:e.to<(n:Int);{have U:zT (e.to<(n:Int))=zW:=r_ c4;have az:Kt a e=zY (e.fr.toNat,e):=by{unfold Kt xM;rw[s,t,C,G,K,U];rfl};have⟨row,d⟩:=Ac (l:=yY n (Kt a) (a.edges.take i)) (k:=e.fr.toNat) (by rw[D1];omega);have b7:row.length<=i:=by{rw[GQ _ _ (zO:e.fr.toNat<n)]at d;injection d with d;rw[<-d];exact yS (rR _ _) (lH _ _)};obtain⟨ra,rc,B,-⟩:=b.row 2 rfl d;have b0:=b.rowNe 2 rfl B d;have D:∀k,Q_ (.slice ra row.length rc) k->(pT DS 189 132 tb vt (yY n (Kt a) (a.edges.take i))).foot k:=λk g=>.inr ⟨e.fr.toNat,_,B,g⟩;have d1:=b.apart2 (i:=1) (j:=2) rfl rfl zQ;have d4:=b.apart2 (i:=4) (j:=2) rfl rfl zQ;have qn:nb<Hq.size/\¬Q_ (.slice ra row.length rc) nb:=⟨(b.in_ 1 rfl rfl).2,λh=>d1 nb rfl (D nb h)⟩;have qx:x<Hq.size/\¬Q_ (.slice ra row.length rc) x:=⟨(b.in_ 4 rfl rfl).2,λh=>d4 x rfl (D x h)⟩;have qt:tb<Hq.size/\¬Q_ (.slice ra row.length rc) tb:=⟨(b.in_ 2 rfl (.inl rfl)).2,b0⟩;(conv=>whnf);rw[U];refine Ap.heldZ (λk=>k<Hq.size/\¬Q_ (.slice ra row.length rc) k) [18] (sq [0,1,2,3,4,5,6,7,8,9,10,11,12,13,14] (.f 15 (.f 16 (sq [17] (.f 18 .e))))) rfl zX (fa ME ?_);refine C_ (v:=.slice (N_ tb) n n) UT (by rw[A.cell];rfl) qn ?_;refine fa Ld ?_;refine C_ (v:=A_ e.fr) E_ (by rw[m.cell];rfl) qx ?_;refine fa ME ?_;refine C_ (v:=.slice (N_ tb) n n) UT (by rw[A.cell];rfl) qn ?_;refine fa Ld ?_;refine C_ (v:=A_ e.fr) E_ (by rw[m.cell];rfl) qx ?_;refine ix VY zO zO (C_ EB (b.tcell 2 rfl B (by rw[K_,zI])) qt ?_);refine L_ (cs:=DP e) (by rw[Cc];exact XP) (m.cells λj v hv=>by rw[K_];exact hv) qx ?_;refine Aj Ec (DP e) rfl (Cc e) zQ zQ ?_;intro b8 H11 V b4 W u;have X:=b.skip V u;refine⟨u.mono λk g=>by have:=g.1;omega,?_⟩;refine nR (ds:=DP e) (y:=e) X 2 Ec rfl B d (W.cells λj v hv=>by rw[K_];exact hv) ⟨rfl,ar⟩ (FY e) zO zQ λwa wc H12 mid Y=>?_;refine⟨(u.mono λk g=>by have:=g.1;omega).trans (Y.mono λk g=>⟨by have:=g.1;omega,g.2⟩),?_⟩;refine ix VY zO zO (nO mid EB (by rw[K_,zI]) λH13 Z=>?_);have g1:=MI az d;rw[<-Ab J]at g1;(conv=>whnf);rw[R_ i zO];refine⟨rfl,i+1,zZ,⟨zO,vt.set e.fr.toNat (.slice wa (row.length+1) wc),?_⟩,zO⟩;rw[g1];exact Z.pick [0,1,2,3] zQ};have U:zT (e.to<(n:Int))=zU:=n_ c4;(conv=>whnf);rw[U];have g:Kt a e=zV:=by unfold Kt xM;rw[s,t,C,G,K,U];simp
 rotate_left
 have K:zT (0<=e.to)=zU:=n_ c3;(conv=>whnf);rw[K];have g:Kt a e=zV:=by unfold Kt xM;rw[s,t,C,G,K];simp
 all_goals have g1:=DW (n:=n) (l:=a.edges.take i) g;rw[<-Ab J]at g1;(conv=>whnf);rw[R_ i zO];refine⟨rfl,i+1,zZ,⟨zO,vt,?_⟩,zO⟩;rw[g1];exact b.pick [0,1,2,3] zQ};have G:zT (e.fr<(n:Int))=zU:=n_ c2;(conv=>whnf);rw[G];have g:Kt a e=zV:=by unfold Kt xM;rw[s,t,C,G];simp
 rotate_left
 have C:zT (0<=e.fr)=zU:=n_ c1;(conv=>whnf);rw[C];have g:Kt a e=zV:=by unfold Kt xM;rw[s,t,C];simp
 all_goals have g1:=DW (n:=n) (l:=a.edges.take i) g;rw[<-Ab J]at g1;(conv=>whnf);rw[R_ i zO];refine⟨rfl,i+1,zZ,⟨zO,vt,?_⟩,zO⟩;rw[g1];exact b.pick [0,1,2,3] zQ};obtain rfl:i=a.edges.length:=zO;rw[M']at q;(conv=>whnf);refine⟨nb,tb,zY ⟨mb,0,zV⟩,n,vt,rfl,?_⟩;unfold oC;rw[<-M];exact q.pick [1,2,3] zQ
def N8(l:List Int):Nat:=l.foldl (λh x=>(h*31+x.toNat+1) % 1000003) 7
def C1(l:List Int):Nat:=N8 l % 1024
def AhU(l:List Int):N8 l<1000003:=by have a:∀(l:List Int) (h:Nat),h<1000003->l.foldl (λh x=>(h*31+x.toNat+1) % 1000003) h<1000003:=by{intro l;induction l with|nil=>exact λh b=>b|cons x l c=>exact λh b=>c _ (Nat.mod_lt _ zQ)};exact a l 7 zQ
def ZQ(l:List Int)(x:Int):N8 (l++[x])=(N8 l*31+x.toNat+1) % 1000003:=by unfold N8;rw[xO];rfl
def jV{a:Option Addr}{xs:List Int}(o:∀k,S k->k<H.size)(h:Y_ a_ S H a c xs)(p:∀q∈xs,0<=q/\q<65536):BK prog 119 #[.slice a xs.length c] H (.int .i64 (C1 xs:Int)):=by have e:=h.le;unfold maxLen at e;refine Ai.of_vc func119 rfl (call119 _) ?_;(conv=>whnf);refine A0.mk [3,4] (λi:Nat=>[A_ (N8 (xs.take i):Int),A_ i]) (λi H2=>i<=xs.length/\D_ (H_ H) H H2) (λi _=>xs.length-i) ?_ ?_;{(conv=>whnf);exact⟨0,rfl,p_ _,D_.refl _ _⟩};rintro i H2 n ⟨u,f⟩;have g:=AhU (xs.take i);refine AB.m2 (λr=>?_) (λr=>?_);{have⟨x,j⟩:=Ac (l:=xs) (k:=i) zO;have s:=p x (d_ j);have d:=ZQ (xs.take i) x;rw[<-Ab j]at d;(conv=>whnf);rw[W_ (x:=(N8 (xs.take i):Int)*31) zO];refine U' (i:=i) AD (h.frame (f.mono o)) j rfl ?_;rintro v w y t m ⟨rfl,-⟩;refine lT E_ m.one ?_;(conv=>whnf);rw[W_ (x:=(N8 (xs.take i):Int)*31+x) zO];(conv=>whnf);rw[W_ (x:=(N8 (xs.take i):Int)*31+x+1) zO];rw[show(N8 (xs.take i):Int)*31+x+1=((N8 (xs.take i)*31+x.toNat+1:Nat):Int) by omega];refine oT (a:=N8 (xs.take i)*31+x.toNat+1) (b:=1000003) zQ ?_;rw[<-d];(conv=>whnf);rw[R_ i zO];exact⟨rfl,i+1,zZ,⟨zO,f⟩,zO⟩};obtain rfl:i=xs.length:=zO;rw[M']at g ⊢;refine oT (a:=N8 xs) (b:=1024) zQ ?_;(conv=>whnf);exact⟨rfl,f⟩
abbrev tI:Ty Int:=E7 .i64
abbrev IZ:Ty (List Int):=zF tI
def Aj7(ca na fa:Option Addr)(cc nc fc fl:Nat)(cells:List (BitVec 256))(next:List (List Int))(S:Nat->Prop)(H:Aa)(hS:∀k,S k->k<H.size)(hc:Y_ CA S H ca cc cells) (hn:Y_ IZ S H na nc next) (a6:fl<=9223372036854775807):BK prog 68 #[.slice ca cells.length cc,.slice na next.length nc,.slice fa fl fc] H (.bool (B9 cells next fl)):=by
 have lc:=hc.le;have ln:=hn.le;unfold maxLen at lc ln;refine Ai.of_vc func68 rfl (call68 _) (Af (BD 0) (Ag 0) rfl rfl ?_);intro p H1 hp a7 N O;(conv=>whnf);refine A0.mk [16] (λk:Nat=>[A_ k]) (λk H2=>k<=cells.length/\D_ (H_ H) H H2/\p<H2.size/\∃all,E1 0#256 (cells.take k)=zY all/\S_ H2 p 108 (Ag all)) (λk _=>cells.length-k) ?_ ?_;{(conv=>whnf);exact⟨0,rfl,zO,O.mono (λk r=>by unfold H_ at r;omega),zO,0,rfl,N⟩};rintro k H2 a4 ⟨r,A,P,all,f,G⟩;(conv=>whnf);refine AB.m2 (λh=>?_) (λh=>?_);{have⟨c,B⟩:=Ac (l:=cells) (k:=k) zO;refine U' CJ (hc.frame (A.mono hS)) B rfl ?_;rintro b o cs Q g rfl;refine L_ (cs:=Ag c) Bn g zA (Af (BD 0) (Ag 0) rfl rfl ?_);intro q H3 L a8 R I;refine Zaa rfl R (zQ:0+4<=4) rfl ?_;intro H4 T J a9;have w:S_ H4 q 108 (Ag c):=T;have y:S_ H4 p 108 (Ag all):=(G.agr I (zO:p<q)).agr J (zO:p≠q);refine L_ (cs:=Ag all) Bn (y.cells (λj v t=>by simpa using t)) zA (L_ (cs:=Ag c) Bn (w.cells (λj v t=>by simpa using t)) zA (Al (Xg all c H4) ?_));intro H5 a;refine CB Ct (BD 0) rfl (Ag 0) rfl (Po (all &&& c) 0#256 ?_);have hA:D_ (H_ H) H H5:=(A.trans ((I.mono (λk r=>by unfold H_ at r;omega)).trans (J.mono (λk r=>by unfold H_ at r;omega)))).trans (a.mono (λk r=>by unfold H_ at*;omega));by_cases M:all &&& c=0#256;{rw[show zT (all &&& c=0#256)=zW by simpa using M];have C:=y.agr a (zO:p<H4.size);have K:=w.agr a (zO:q<H4.size);refine L_ (cs:=Ag all) Bn (C.cells (λj v t=>by simpa using t)) zA (L_ (cs:=Ag c) Bn (K.cells (λj v t=>by simpa using t)) zA (Al (No all c H5) ?_));intro H6 D;refine Zaa rfl (C.agr D C.lt) (zQ:0+4<=4) rfl ?_;intro H7 U V ab;(conv=>whnf);rw[R_ k zO];have ae:=BF D;have ag:=BF a;refine⟨rfl,k+1,zZ,⟨zO,?_,zO,all ||| c,?_,U⟩,zO⟩;{exact(hA.trans (D.mono (λk r=>by unfold H_ at*;omega))).trans (V.mono (λk r=>by unfold H_ at r;omega))};rw[Ab B,Oh f,J_ M]};rw[show zT (all &&& c=0#256)=zU by simpa using M];(conv=>whnf);refine⟨?_,hA⟩;have:E1 0#256 cells=zV:=by{rw[<-uT (k+1) cells,LE,Ab B,Oh f,I_ M]<;>rfl};simp[B9,this]};have W:k=cells.length:=zO;subst W;rw[M']at f;(conv=>whnf);refine Ap.quiet (H_ H2) rfl zX ?_;have d:∀{H':Aa},D_ (H_ H2) H2 H'->D_ (λk=>k<H.size) H H':=λh=>A.trans (h.mono (λk r=>by unfold H_ at*;omega));refine L_ (cs:=Ag all) Bn (G.cells (λj v t=>by simpa using t)) P (Nb (λH' _=>KG 0 255 zQ zQ H') (Po all (Ba 0 255) ?_));rw[JG];refine AB.mk (λF=>?_) (λF=>?_)<;>simp only[vH,Bool.not_eq_false',z',qT]at F;{
 (conv=>whnf);intro H5 a;(conv=>whnf)
 exact⟨by
  have e:(all==ApW 256)=zU:=beq_eq_false_iff_ne.2 F;rw[B9,f];simp only[e,vP],d a⟩};refine AB.m2 (λX=>?_) (λX=>?_);{(conv=>whnf);intro H5 a;(conv=>whnf);exact⟨by simp[B9,f,show¬1<=next.length by omega],d a⟩};refine AB.m2 (λh3=>?_) (λh3=>?_);{(conv=>whnf);intro H5 a;(conv=>whnf);exact⟨by simp[B9,f,show¬next.length<=65536 by omega],d a⟩};(conv=>whnf);intro H5 a;refine AB.mk (λh4=>?_) (λh4=>?_)<;>simp only[bne_iff_ne,ne_eq,bne_eq_false_iff_eq]at h4;{(conv=>whnf);exact⟨by simp[B9,f,show¬next.length=fl by omega],d a⟩};have Y:next.length=fl:=zO
 have u:B9 cells next fl=next.all (IV next.length cells.length):=by{have e:(all==ApW 256)=zW:=beq_iff_eq.2 F;rw[B9,f];simp only[e,r_ (zO:1<=next.length),r_ (zO:next.length<=65536),beq_iff_eq.2 Y,Bool.and_self,vD]}
 rw[u];have E:∀{k:Nat} {row:List Int},next[k]?=zY row->IV next.length cells.length row=zU->next.all (IV next.length cells.length)=zU:=by{intro k row F X;rw[lI];exact⟨row,d_ F,by simp[X]⟩}
 have Z:=hn.frame ((d a).mono hS);(conv=>whnf);refine A0.mk [51] (λk:Nat=>[A_ k]) (λk H'=>H'=H5/\k<=next.length/\(next.take k).all (IV next.length cells.length)=zW) (λk _=>next.length-k) ?_ ?_;{(conv=>whnf);exact⟨0,rfl,rfl,zO,rfl⟩};rintro k H6 a0 ⟨rfl,ah,m⟩;(conv=>whnf);refine AB.m2 (λh=>?_) (λh=>?_);{
 have⟨row,i⟩:=Ac (l:=next) (k:=k) zO;refine U' Dj Z i rfl ?_;rintro b o cs Q g ⟨ra,rc,rfl,hr⟩;have lr:=hr.le;unfold maxLen at lr;refine lT C4 g.one ?_;refine AB.mk (λh5=>?_) (λh5=>?_)<;>simp only[bne_iff_ne,ne_eq,bne_eq_false_iff_eq]at h5;{(conv=>whnf);exact⟨by rw[E i (by simp[IV];intro h;omega)],d a⟩};(conv=>whnf);refine A0.mk [62] (λj:Nat=>[A_ j]) (λj H'=>H'=H6/\j<=row.length/\(row.take j).all (λq=>zT (0<=q)&&zT (q<(next.length:Int)))=zW) (λj _=>row.length-j) ?_ ?_;{(conv=>whnf);exact⟨0,rfl,rfl,zO,rfl⟩};rintro j H7 a1 ⟨rfl,hj,n⟩;(conv=>whnf);refine AB.m2 (λh=>?_) (λh=>?_);{
 have⟨q,L⟩:=Ac (l:=row) (k:=j) zO;have z:¬(0<=q/\q<(next.length:Int))->IV next.length cells.length row=zU:=by{intro hb;have:(row.all λq=>zT (0<=q)&&zT (q<(next.length:Int)))=zU:=by{rw[lI];exact⟨q,d_ L,by simpa using hb⟩};simp only[IV,this,rL]}
 refine U' AD hr L rfl ?_;rintro b2 o2 ai a5 s ⟨rfl,aj⟩;refine lT E_ s.one ?_;refine AB.m2 (λh6=>?_) (λh6=>?_);{(conv=>whnf);exact⟨by rw[E i (z zO)],d a⟩};refine AB.m2 (λh7=>?_) (λh7=>?_);{(conv=>whnf);exact⟨by rw[E i (z zO)],d a⟩};(conv=>whnf);rw[R_ j zO];refine⟨rfl,j+1,zZ,⟨rfl,zO,?_⟩,zO⟩;rw[Ab L,tS,n];simp;omega};have a2:j=row.length:=zO;subst a2;rw[M']at n;(conv=>whnf);rw[R_ k zO];refine⟨rfl,k+1,zZ,⟨rfl,zO,?_⟩,zO⟩;rw[Ab i,tS,m];simp only[List.all_cons,List.all_nil,Bool.and_true,vD,IV,n,beq_iff_eq];omega};have a3:k=next.length:=zO
 subst a3;rw[M']at m;(conv=>whnf);exact⟨by rw[m],d a⟩
def AgD(na:Option Addr)(nc c d m:Nat)(next:List (List Int))(S:Nat->Prop)(H:Aa)(r:Y_ IZ S H na nc next)(A:∀row∈next,row.length=m)(I:c<m)(J:d<m)(s:m<=9223372036854775807):BK prog 99 #[.slice na next.length nc,A_ c,A_ d] H (.bool (F7 next c d)):=by
 have B:=r.le;unfold maxLen at B;refine Ai.of_vc func99 rfl (call99 _) ?_;refine AB.mk (λh=>?_) (λh=>?_)<;>simp only[beq_iff_eq,beq_eq_false_iff_ne,Int.natCast_inj,ne_eq]at h;{(conv=>whnf);exact⟨by simp[F7,h],D_.refl _ _⟩};have j:(c==d)=zU:=by simpa using h
 (conv=>whnf);refine A0.mk [14] (λk:Nat=>[A_ k]) (λk H'=>H'=H/\k<=next.length/\(next.take k).all (λrow=>row[c]?==row[d]?)=zW) (λk _=>next.length-k) ?_ ?_;{(conv=>whnf);exact⟨0,rfl,rfl,zO,rfl⟩};rintro k H1 t ⟨rfl,K,e⟩;refine AB.m2 (λh=>?_) (λh=>?_);{have⟨row,a⟩:=Ac (l:=next) (k:=k) zO;have u:=A row (d_ a);refine U' Dj r a rfl ?_;rintro b o L C i ⟨ra,rc,rfl,v⟩;refine C_ C4 i.one zA (Ap.lex rfl zX ?_);have⟨x,n⟩:=Ac (l:=row) (k:=c) zO;have⟨y,p⟩:=Ac (l:=row) (k:=d) zO;refine U' AD v n rfl ?_;rintro M N D w f ⟨rfl,E⟩;refine C_ E_ f.one zA (U' AD v p rfl ?_);rintro O P F z g ⟨rfl,G⟩;refine lT E_ g.one ?_;refine AB.mk (λh=>?_) (λh=>?_)<;>simp only[bne_iff_ne,ne_eq,bne_eq_false_iff_eq]at h;{(conv=>whnf);refine⟨?_,D_.refl _ _⟩;have:(next.all λrow=>row[c]?==row[d]?)=zU:=by{rw[lI];exact⟨row,d_ a,by simp[n,p,h]⟩};simp only[F7,j,this,Bool.or_false]};(conv=>whnf);rw[R_ k zO];refine⟨rfl,k+1,zZ,⟨rfl,zO,?_⟩,zO⟩;rw[Ab a,tS,e];simp[n,p,h]};have q:k=next.length:=zO
 subst q;rw[M']at e;(conv=>whnf);exact⟨by simp only[F7,j,e,Bool.false_or],D_.refl _ _⟩
def Cu(cv:v_)(cell:List Nat)(nv fv av:v_):List v_:=cv::(cell.map (λn:Nat=>Value.int .u8 (n:Int))++An8 (256-cell.length) (.int .u8 0))++[nv,fv,av]
def KS{cell:List Nat}(h:cell.length<=256):(Cu cv cell nv fv av).length=260:=by simp[Cu];omega
def ON{cell:List Nat}:(Cu cv cell nv fv av)[0]?=zY cv:=by simp[Cu]
def Ww{x:v_}{cell:List Nat}:(Cu cv cell nv fv av).set 0 x=Cu x cell nv fv av:=by simp[Cu]
section
variable{cell:List Nat}
def Nx(h:cell.length<=256)(j:Nat):(Cu cv cell nv fv av)[257+j]?=[nv,fv,av][j]? :=by unfold Cu;rw[nH,(zO:257+j=(256+j)+1),sI,zL (by simp;omega)];congr 1;simp;omega
def GY(h:cell.length<=256):(Cu cv cell nv fv av)[257]?=zY nv:=Nx h 0
def Nv(h:cell.length<=256):(Cu cv cell nv fv av)[258]?=zY fv:=Nx h 1
def Nw(h:cell.length<=256):(Cu cv cell nv fv av)[259]?=zY av:=Nx h 2
end
section
variable{x:v_}{cell:List Nat}
def PB(h:cell.length<=256)(j:Nat):(Cu cv cell nv fv av).set (257+j) x=cv::(cell.map (λn:Nat=>Value.int .u8 (n:Int))++An8 (256-cell.length) (.int .u8 0))++[nv,fv,av].set j x:=by
 unfold Cu;rw[nH,(zO:257+j=(256+j)+1),rQ,tD (h:=by simp;omega)];have e:256+j-(List.map (λn:Nat=>Value.int .u8 (n:Int)) cell++An8 (256-cell.length) (Value.int .u8 0)).length=j:=by simp;omega
 rw[e];rfl
def SC(h:cell.length<=256):(Cu cv cell nv fv av).set 257 x=Cu cv cell x fv av:=PB h 0
def SF(h:cell.length<=256):(Cu cv cell nv fv av).set 259 x=Cu cv cell nv fv x:=PB h 2
end
def Wv{cell:List Nat}(h:cell.length<256)(p:Nat):(Cu cv cell nv fv av).set (1+cell.length) (.int .u8 (p:Int))=Cu cv (cell++[p]) nv fv av:=by unfold Cu;rw[nH,(zO:1+cell.length=cell.length+1),rQ,zS,tD (h:=zZ)];have e:cell.length-(List.map (λn:Nat=>Value.int .u8 (n:Int)) cell).length=0:=zZ;rw[e,(zO:256-cell.length=(256-(cell.length+1))+1),fN];simp
def HG(cols:List Nat)(row:List Int):List Int:=cols.map λc=>row.getD c 0
def Ai9(pb:Nat)(fv av:v_)(ca na:Option Addr)(cc nc:Nat)(cells:List (BitVec 256))(next:List (List Int))(fl:Nat)(S:Nat->Prop)(H:Aa)(hS:∀k,S k->k<H.size/\k≠pb)(hb:S_ H pb 148 (Cu (.slice zV 0 0) [] (.slice zV 0 0) fv av)) (hc:Y_ CA S H ca cc cells) (hn:Y_ IZ S H na nc next) (hs:B9 cells next fl=zW):Ai prog 69 #[U_ pb,.slice ca cells.length cc,.slice na next.length nc] H λv H'=> let d:=Bs next cells (λb=>Ba b b) 256
   D_ (λk=>k<H.size/\k≠pb) H H'/\H.size<=H'.size/\∃ac M an br,S_ H' pb 148 (Cu (.slice ac d.sets.length M) d.cell (.slice an next.length br) fv av)/\
    Y_ CA (λk=>H.size<=k/\k<H'.size) H' ac M d.sets/\Y_ IZ (λk=>H.size<=k/\k<H'.size) H' an br (next.map (HG d.cols)):=by
 have lc:=hc.le;have ln:=hn.le;unfold maxLen at lc ln;have⟨n1,n2,n3,aj⟩:=Fb hs;refine Ai.of_vc func69 rfl (call69 _) ?_;have ez:=hb.lt;generalize dg:(λb=>Ba b b)=sp;have ak:∀b,b<256->Bk cells b<cells.length:=λb hb=>(Ce hs hb).1;refine DH Dj rfl zO zO zO zO ?_;intro nb H1 f0 f1 bh cr;refine fa HY ?_;refine F_ D7 (hb.agr cr (zO:pb<nb)) (by rw[KS zZ];omega) rfl ?_;intro H2 ct cu f2;rw[K_,SC zZ]at ct;replace bh:=bh.agr cu (zO:nb≠pb);rw[O']at bh;have dh:D_ (λk=>k<H.size/\k≠pb) H H2:=(cr.mono λk a=>zO).trans (cu.mono λk a=>a.2);(conv=>whnf);refine A0.mk [6,22] (λx:Nat×v_=>[x.2,A_ x.1]) (λx H3=>x.1<=256/\D_ (λk=>k<H.size/\k≠pb) H H3/\H2.size<=H3.size/\
  Z_ tI (λ_=>False) H3 (nb+1) 3 x.2 ((Bs next cells sp x.1).cols.map Aq7)/\S_ H3 nb 39 (An8 next.length (.slice zV 0 0))/\
  ∃cv,Z_ CA (λ_=>False) H3 (nb+1) 108 cv (Bs next cells sp x.1).sets/\(∀k,Q_ x.2 k->¬Q_ cv k)/\
   S_ H3 pb 148 (Cu cv (Bs next cells sp x.1).cell (.slice (N_ nb) next.length next.length) fv av)) (λx _=>256-x.1) ?_ ?_
 ·(conv=>whnf);exact⟨(0,_),rfl,zO,dh,M_ _,Z_.nil,bh,_,Z_.nil,(by rintro k ⟨o,n,c,h⟩;cases h),ct⟩
 ·rintro⟨b,v6⟩ H3 ed ⟨c5,bi,di,g,a7,cv,B,a8,ag⟩;dsimp only at c5 g B a8 ag;obtain⟨ac,M,rfl,-,-⟩:=g.view (S':=λk=>Q_ v6 k) (λk a=>a) (λk a=>a.elim);refine AB.m2 (λh=>?_) (λh=>?_)
  ·have t:=GR (next:=next) (sp:=sp) ak b zO;generalize cw:Bs next cells sp b=d at*
   have⟨cx,c6⟩:=Ce hs (b:=b) zO;(conv=>whnf);refine A0.mk [8] (λf:Nat=>[A_ f]) (λf H4=>D_ (H_ H3) H3 H4/\f<=Bk cells b) (λf _=>cells.length-f) ?_ ?_
   ·(conv=>whnf);exact⟨0,rfl,D_.refl _ _,zO⟩
   ·rintro f H4 c7 ⟨W,hf⟩;have bj:D_ (λk=>k<H.size/\k≠pb) H H4:=bi.trans (W.mono λk a=>by unfold H_;omega);have⟨c,c8⟩:=Ac (l:=cells) (k:=f) zO;refine U' CJ (hc.frame (bj.mono λk a=>hS k a)) c8 rfl ?_;rintro b' o cs f3 bm rfl;refine lN (cs:=Ag c) Bn bm ?_;(conv=>whnf);rw[w8 (x:=(b:Int)) zO zO];refine Al (nT c b zO H4) ?_;intro H5 ah;have ee:=BF W;have X:D_ (H_ H3) H3 H5:=W.trans (ah.mono λk a=>by unfold H_ at*;omega);by_cases bu:f=Bk cells b
    ·have am:c.getLsbD b=zW:=c6 c (bu ▸ c8);rw[am];(conv=>whnf);subst bu;generalize dj:Bk cells b=fr at*;have E:=g.agr X (λk a=>(g.lt a).2) (λk a=>a.elim);have ef:=BF X;refine A7.cut [9] (λpl:Option Nat=>[A_ (match pl with | none=> -1 | some i=>(i:Int))]) (λpl H6=>pl=MN next d.cols fr/\D_ (H_ H5) H5 H6) ?_ ?_
     ·have⟨f4,dk,he,a2,cy⟩:=E.view (S':=H_ H5) (λk a=>(E.lt a).2) (λk a=>a.elim);cases he;have cz:∀row∈next,row.length=cells.length:=λrow hr=>(aj row hr).1
      (conv=>whnf);refine A0.mk [9,37] (λk:Nat=>[A_ (-1),A_ k]) (λk H6=>D_ (H_ H5) H5 H6/\k<=d.cols.length/\(d.cols.take k).findIdx? (λc=>F7 next c fr)=zV) (λk _=>d.cols.length-k) ?_ ?_
      ·(conv=>whnf);exact⟨0,rfl,D_.refl _ _,zO,rfl⟩
      ·rintro k H6 ao ⟨C,a,Q⟩;have dl:=t.le;(conv=>whnf);rw[e_];refine AB.m2 (λh=>?_) (λh=>?_)
       ·have⟨c0,G⟩:=Ac (l:=d.cols) (k:=k) zO;have bv:=t.cols c0 (d_ G);refine DY (x:=(c0:Int)) AD (a2.frame C) zZ (by simp[G]) rfl ?_;rintro b2 o2 dm d0 I ⟨rfl,-⟩;refine lT E_ I.one ?_;have dn:Y_ IZ S H6 na nc next:=hn.frame ((bi.trans ((X.trans (C.mono λk a=>by unfold H_ at*;omega)).mono λk a=>by unfold H_;omega)).mono λk a=>hS k a)
        refine Al (AgD na nc c0 fr cells.length next S H6 dn cz bv cx zO) ?_;intro H7 Y;have eg:=BF C;have bw:D_ (H_ H5) H5 H7:=C.trans (Y.mono λk a=>by unfold H_ at*;omega);refine AB.mk (λh7=>?_) (λh7=>?_)
        ·(conv=>whnf);refine⟨rfl,zY k,rfl,?_,bw⟩;unfold MN;rw[<-uT k d.cols,sO,Q];have:d.cols.drop k=c0::d.cols.drop (k+1):=by
          rw[T_]at G;have⟨h1,h2⟩:=G;rw[fS h1,h2]
         rw[this,List.findIdx?_cons,h7];simp;omega
        ·(conv=>whnf);rw[R_ k zO];refine⟨rfl,k+1,zZ,⟨bw,zO,?_⟩,zO⟩;rw[Ab G,sO,Q];simp[h7]
       ·(conv=>whnf);refine⟨rfl,zV,rfl,?_,C⟩;have:k=d.cols.length:=zO
        subst this;rw[M']at Q;exact Q.symm
     ·rintro pl H6 ao ⟨d1,C⟩;have N:D_ (H_ H3) H3 H6:=X.trans (C.mono λk a=>by unfold H_ at*;omega);have eh:=BF N;have F:=g.agr N (λk a=>(g.lt a).2) (λk a=>a.elim);have z:=B.agr N (λk a=>(B.lt a).2) (λk a=>a.elim);have ap:=a7.agr N a7.lt;have aq:=ag.agr N ag.lt;have d2:D_ (λk=>k<H.size/\k≠pb) H H6:=bi.trans (N.mono λk a=>by unfold H_;omega);have d3:d.cell.length<=256:=by rw[t.cell];omega
      (conv=>whnf);refine A7.cut [6,9] (λx:v_×Nat=>[x.1,A_ x.2]) (λx H7=>D_ (λk=>k<H.size/\k≠pb) H H7/\H2.size<=H7.size/\x.2=(I3 next d.cols d.sets fr).2.2/\
       Z_ tI (λ_=>False) H7 (nb+1) 3 x.1 ((I3 next d.cols d.sets fr).1.map Aq7)/\S_ H7 nb 39 (An8 next.length (.slice zV 0 0))/\
       ∃cv,Z_ CA (λ_=>False) H7 (nb+1) 108 cv (I3 next d.cols d.sets fr).2.1/\(∀k,Q_ x.1 k->¬Q_ cv k)/\
        S_ H7 pb 148 (Cu cv d.cell (.slice (N_ nb) next.length next.length) fv av)) ?_ ?_
      ·cases hf:MN next d.cols fr with
       | some i=>
         rw[d1,hf];have hm:I3 next d.cols d.sets fr=(d.cols,d.sets,i):=by unfold I3;rw[hf]
         rw[hm];(conv=>whnf);exact⟨rfl,(_,i),rfl,d2,zO,rfl,F,ap,cv,z,a8,aq⟩
       | none=>
         rw[d1,hf];have hm:I3 next d.cols d.sets fr=(d.cols++[fr],d.sets++[0#256],d.cols.length):=by unfold I3;rw[hf]
         rw[hm];(conv=>whnf);rw[e_];refine Aj AD [A_ fr] rfl rfl zQ zQ ?_;intro q H7 hq d4 bn Y;have dl:=t.le;have m:=F.agr Y (λk a=>by have:=(F.lt a).2;omega) (λk a=>a.elim);refine BN (T:=tI) (S:=λ_=>False) (ys:=[(fr:Int)]) (ds:=[A_ fr]) (lo:=nb+1) (xs:=d.cols.map Aq7) AD (by simpa using m) zO (λk a=>a.elim)
          (bn.cells (λj v hv=>by simpa using hv)) (Ty.reps_one ⟨rfl,BJ zO⟩) rfl (by intro u hu;cases V_.1 hu;rfl) (by simp only[maxLen,e_,c_];omega) (by simp only[e_,c_];omega) ?_
         intro v8 H8 R L d5 ar;have U:∀k,k<H6.size->¬Q_ (.slice ac (d.cols.map (Aq7:Nat->Int)).length M) k->H8[k]?=H6[k]? :=λk h1 h2=>by
          rw[L k ⟨zO,by simpa using h2⟩,Y k zO]
         have a9:Z_ CA (λ_=>False) H8 (nb+1) 108 cv d.sets:=z.agr (S':=λk=>k<H6.size/\¬Q_ (.slice ac (d.cols.map (Aq7:Nat->Int)).length M) k) (λk a=>U k a.1 a.2)
          (λk a=>⟨(z.lt a).2,λh=>a8 k h a⟩) (λk a=>a.elim)
         have au:∀k,k<=nb->¬Q_ (.slice ac (d.cols.map (Aq7:Nat->Int)).length M) k:=λk a h=>by have:=(F.lt h).1;omega
         have bx:=ap.eq (U nb ap.lt (au nb zO));have J:=aq.eq (U pb aq.lt (au pb zO));refine fa MB ?_;refine C_ (v:=cv) UR (by rw[J.cell];exact ON) zA ?_;refine CB Ct (BD 0) rfl (Ag 0) rfl (Aj CJ (Ag 0) rfl rfl zQ zQ ?_);intro q2 H9 f5 f6 dp V;have ei:=J.lt;have dq:=bx.lt;refine BN (T:=CA) (S:=λ_=>False) (ys:=[0#256]) (ds:=Ag 0) (lo:=nb+1) (xs:=d.sets) CJ (a9.agr V (λk a=>by have:=(a9.lt a).2;omega) (λk a=>a.elim)) zO (λk a=>a.elim)
          (dp.cells (λj v hv=>by simpa using hv)) (Ty.reps_one rfl) rfl (by intro u hu;simp only[Ag,zM,List.not_mem_nil,or_false]at hu;rcases hu with rfl | rfl | rfl | rfl<;>rfl)
          (by have:=t.len;simp only[maxLen,c_];omega) (by have:=t.len;simp only[c_];omega) ?_
         intro v9 H10 K O ej ai;have aw:∀k,k<=nb->¬Q_ cv k:=λk a h=>by have:=(z.lt h).1;omega
         have d6:=(J.agr V zO).agr O ⟨zO,aw pb zO⟩;refine fa MB ?_;refine F_ UR d6 (by rw[KS d3];omega) K.one ?_;intro H11 Z A d7;(conv=>whnf);have s:∀k,Q_ v8 k->k<H8.size/\nb+1<=k:=λk a=>⟨(R.lt a).2,(R.lt a).1⟩;have ax:∀k,Q_ v8 k->¬Q_ cv k:=λk a hc=>by
          rcases ar k a with h | h
          ·exact a8 k (by simpa using h) hc
          ·have:=(z.lt hc).2;omega
         have ay:=(R.agr V (λk a=>by have:=s k a;omega) (λk a=>a.elim)).agr O (λk a=>⟨by have:=s k a;omega,ax k a⟩) (λk a=>a.elim);have c9:=(bx.agr V zO).agr O ⟨zO,aw nb zO⟩;refine⟨rfl,(v8,d.cols.length),rfl,?_,zO,rfl,?_,c9.agr A zO,v9,K.agr A (λk a=>by have:=(K.lt a).1;omega) (λk a=>a.elim),?_,?_⟩
         ·intro k a;rw[A k a.2,O k ⟨zO,aw k zO⟩,V k zO,U k zO (au k zO),d2 k a]
         ·have:=ay.agr A (λk a=>by have:=s k a;omega) (λk a=>a.elim);simpa using this
         ·intro k a dr;rcases ai k dr with h | h
          ·exact ax k a h
          ·have:=s k a;omega
         ·rw[Nat.add_zero,Ww]at Z;exact Z
      ·rintro⟨v7,p⟩ H7 dt ⟨du,d4,hp,m,ab,f7,ae,a3,bn⟩;dsimp only at hp m a3;have bz:=T5 (next:=next) t.len t.le t.cols cx;have dv:Bs next cells sp (b+1)=Qg next cells d b (sp b):=by rw[<-cw];rfl
       generalize hr:I3 next d.cols d.sets fr=r at*
       have⟨cd,w,p'⟩:=r;dsimp only at hp m ae bz;subst hp;have⟨f8,f9,fe,ff,fg⟩:=bz;have az:Bs next cells sp (b+1)=⟨cd,w.set p (w.getD p 0#256 ||| sp b),d.cell++[p]⟩:=by
        rw[dv];unfold Qg;rw[dj,hr]
       obtain⟨bq,b0,lq,fh,rfl,ek,a4,ce,cg,df,ch⟩:=ae.place (i:=p) zO;have el:=bn.lt;refine fa Yt (V' iW zO zO ?_);rw[w8 (x:=(p:Int)) zO zO];refine F_ vZ bn (by rw[KS d3];omega) rfl ?_;intro H8 J L d5;rw[show 0+1+(b:Int).toNat*1=1+d.cell.length by rw[t.cell];omega,Wv (by rw[t.cell];omega)]at J;(conv=>whnf);refine Ap.held (H_ H8) 19 (sq [0,1,2,3,4,5,6,7,8,9,10,11,12,13,14,15] (.f 16 (.f 17 (sq [18] (.f 19 .e))))) rfl zX (fa MB ?_);refine C_ (v:=.slice (N_ bq) w.length b0) UR (by rw[J.cell];exact ON) (zO:pb<H8.size) ?_;refine fa MB ?_;refine C_ (v:=.slice (N_ bq) w.length b0) UR (by rw[J.cell];exact ON) (zO:pb<H8.size) ?_;refine ix CJ zO zO ?_;have⟨x0,b5⟩:=Ac (l:=w) (k:=p) zO;obtain⟨c0,G,rfl⟩:=cg x0 b5;have b6:bq≠pb:=zO
       refine L_ (cs:=Ag x0) Bn (by rw[K_,O'];exact G.eq (L bq b6)) (show bq<H8.size by have:=a4.lt;omega) ?_;(conv=>whnf);rw[w8 (x:=(b:Int)) zO zO];refine Al (KG b b zO zO H8) ?_;intro H9 V;refine⟨V,?_⟩;refine Al (No x0 (Ba b b) H9) ?_;intro H10 O;have en:=BF V;have y:D_ (H_ H8) H8 H10:=V.trans (O.mono λk a=>by unfold H_ at*;omega);refine⟨y,?_⟩;refine ix CJ zO zO ?_;have dw:=BF y;have bo:=(a4.agr L b6).agr y (show bq<H8.size by have:=a4.lt;omega);refine Zaa rfl bo (by rw[K_,O'];exact ce) rfl ?_;intro H11 Z A d7;(conv=>whnf);rw[R_ b zO];have c1:∀k,Q_ v7 k->nb+1<=k/\k<H7.size:=λk a=>m.lt a;have b7:=((m.agr L (λk a=>by have:=c1 k a;omega) (λk a=>a.elim)).agr y (λk a=>by have:=c1 k a;unfold H_;omega) (λk a=>a.elim)).agr A
        (λk a dx=>by subst dx;exact a3 _ a ⟨0,_,_,rfl⟩) (λk a=>a.elim)
       have cj:=(((ab.agr L (zO:nb≠pb)).agr y (show nb<H8.size by have:=ab.lt;omega)).agr A (zO:nb≠bq));have ck:=(J.agr y (zO:pb<H8.size)).agr A (show pb≠bq from Ne.symm b6);refine⟨rfl,(b+1,v7),zZ,⟨zO,?_,zO,?_,cj,.slice (N_ bq) w.length b0,?_,a3,?_⟩,zO⟩
       ·intro k a;rw[A k zO,y k (by unfold H_;omega),L k a.2,du k a]
       ·rw[az];exact b7
       ·rw[az];have hg:w.getD p 0#256=x0:=by rw[xA,b5];rfl
        rw[hg,<-dg];rw[K_,O']at Z;have:=ch H11 (Ag (x0 ||| Ba b b)) (x0 ||| Ba b b) Z (λk a=>a.elim) rfl;exact this
       ·rw[az];exact ck
    ·have am:c.getLsbD b=zU:=Rf zO c8;rw[am];(conv=>whnf);rw[R_ f zO];exact⟨rfl,f+1,zZ,⟨X,zO⟩,zO⟩
  ·have dy:b=256:=zO
   subst dy;have t:=GR (next:=next) (sp:=sp) ak 256 zO;generalize cw:Bs next cells sp 256=d at*
   have eo:=t.le;have ep:=t.len;(conv=>whnf);refine A0.mk [95] (λq:Nat=>[A_ q]) (λq H4=>q<=next.length/\D_ (λk=>k<H3.size/\k≠nb) H3 H4/\H3.size<=H4.size/\∃vs:List v_,vs.length=next.length/\S_ H4 nb 39 vs/\
    (∀i,q<=i->i<next.length->vs[i]?=zY (.slice zV 0 0))/\∀i v row,i<q->vs[i]?=zY v->next[i]?=zY row->Z_ tI (λ_=>False) H4 H3.size 3 v (HG d.cols row)) (λq _=>next.length-q) ?_ ?_
   ·(conv=>whnf);refine⟨0,rfl,zO,D_.refl _ _,M_ _,_,zZ,a7,λi _ hi=>by simp[hi],λi v row hi=>zO⟩
   ·rintro q H4 c7 ⟨hq,W,fj,vs,d8,c2,c3,b8⟩;have eu:=a7.lt;have c4:=ag.lt;have bj:D_ (λk=>k<H.size/\k≠pb) H H4:=bi.trans (W.mono λk a=>zO);refine AB.m2 (λh=>?_) (λh=>?_)
    ·have⟨row,P⟩:=Ac (l:=next) (k:=q) zO;have⟨cz,fk⟩:=aj row (d_ P);have dz:=hn.frame (bj.mono λk a=>hS k a);refine U' Dj dz P rfl ?_;rintro b2 o2 dm d0 I ⟨ra,rc,rfl,hr⟩;refine lT C4 I.one ?_;(conv=>whnf);rw[e_];refine A0.mk [102] (λj:Nat=>[A_ j]) (λj H5=>j<=d.cols.length/\D_ (λk=>k<H4.size/\k≠nb) H4 H5/\H4.size<=H5.size/\∃a1,S_ H5 nb 39 (vs.set q a1)/\
      Z_ tI (λ_=>False) H5 H4.size 3 a1 (HG (d.cols.take j) row)) (λj _=>d.cols.length-j) ?_ ?_
     ·(conv=>whnf);refine⟨0,rfl,zO,D_.refl _ _,M_ _,.slice zV 0 0,?_,Z_.nil⟩;have:vs.set q (.slice zV 0 0)=vs:=by
       have h1:=c3 q (M_ _) zO;rw[T_]at h1;have⟨h2,h3⟩:=h1;rw[<-h3];exact List.set_getElem_self h2
      rw[this];exact c2
     ·rintro j H5 ao ⟨hj,ah,fm,a1,b9,D⟩;have bd:D_ (λk=>k<H3.size/\k≠nb) H3 H5:=W.trans (ah.mono λk a=>zO);have e0:=ag.agr bd ⟨c4,zO⟩;have E:=g.agr bd (λk a=>by have:=g.lt a;omega) (λk a=>a.elim);have⟨fo,e3,e4,a2,cy⟩:=E.view (S':=λk=>k<H3.size) (λk a=>(g.lt a).2) (λk a=>a.elim);cases e4;refine AB.m2 (λh=>?_) (λh=>?_)
      ·have⟨c0,G⟩:=Ac (l:=d.cols) (k:=j) zO;have bv:=t.cols c0 (d_ G);refine DY (x:=(c0:Int)) AD a2 zZ (by simp[G]) rfl ?_;rintro b3 o3 fp ev be ⟨rfl,-⟩;refine lT E_ be.one ?_;obtain⟨e5,cm,rfl,-,-⟩:=D.view (S':=λk=>Q_ a1 k) (λk a=>a) (λk a=>a.elim);(conv=>whnf);refine Ap.held (λk=>k<H4.size) 19 (sq [0,1,2,3,4,5,6,7,8,9,10,11,12,13,14,15] (.f 16 (.f 17 (sq [18] (.f 19 .e))))) rfl zX ?_;have co:cell H5 nb (0+(q:Int).toNat*1)=zY (.slice e5 (HG (d.cols.take j) row).length cm):=by
        rw[b9.cell,(zO:0+(q:Int).toNat*1=q),yQ zO]
       have e6:=hr.frame (ah.mono λk a=>by have:=hS k a;omega);have bf:cell H5 pb (0+257)=zY (.slice (N_ nb) next.length next.length):=by
        rw[e0.cell,K_];exact GY (by rw[t.cell];omega)
       refine fa HY (C_ D7 bf (zO:pb<H4.size) (fa HY (C_ D7 bf (zO:pb<H4.size) (ix Dj zO zO (C_ C4 co (zO:nb<H4.size) ?_)))));have⟨x0,b5⟩:=Ac (l:=row) (k:=c0) zO;refine U' AD e6 b5 rfl ?_;rintro b4 o4 fq d9 bg ⟨rfl,da⟩;refine C_ E_ bg.one (show b4<H4.size by have:=hS b4 d9;omega) ?_;refine Aj AD [A_ x0] rfl rfl zQ zQ ?_;intro q6 H6 fu fw aq C;refine⟨C.mono λk a=>zO,?_⟩;have cp:=D.agr C (λk a=>by have:=(D.lt a).2;omega) (λk a=>a.elim);have ew:(HG (d.cols.take j) row).length<=256:=by simp[HG];omega
       refine BN (T:=tI) (S:=λ_=>False) (ys:=[x0]) (ds:=[A_ x0]) (lo:=H4.size) (xs:=HG (d.cols.take j) row) AD cp zO (λk a=>a.elim)
         (aq.cells (λj v hv=>by simpa using hv)) (Ty.reps_one ⟨rfl,da⟩) rfl (by intro u hu;cases V_.1 hu;rfl) (by simp only[maxLen,c_];omega) (by simp only[c_];omega) ?_
       intro v7 H7 a5 Y d4 db;refine⟨λk a=>?_,?_⟩
       ·rw[Y k ⟨zO,λh=>by have:=(D.lt h).1;omega⟩,C k zO]
       have ab:=(b9.agr C zO).agr Y ⟨zO,λh=>by have:=(D.lt h).1;omega⟩;refine ix Dj zO zO ?_;refine F_ C4 ab (by simp;omega) a5.one ?_;intro H8 J L d5;(conv=>whnf);rw[R_ j zO];refine⟨rfl,j+1,zZ,⟨zO,?_,zO,v7,?_,?_⟩,zO⟩
       ·intro k a;rw[L k a.2,Y k ⟨zO,λh=>by have:=(D.lt h).1;omega⟩,C k zO,ah k a]
       ·rw[(zO:0+(q:Int).toNat*1=q),List.set_set]at J;exact J
       ·have:=a5.agr L (λk a=>by have:=(a5.lt a).1;omega) (λk a=>a.elim);have e1:HG (d.cols.take (j+1)) row=HG (d.cols.take j) row++[x0]:=by
         unfold HG;rw[Ab G,yV];simp[b5]
        rw[e1];exact this
      ·have e7:j=d.cols.length:=zO
       subst e7;rw[M']at D;(conv=>whnf);rw[R_ q zO];refine⟨rfl,q+1,zZ,⟨zO,bd,zO,vs.set q a1,by simp[d8],b9,?_,?_⟩,zO⟩
       ·intro i h1 h2;rw[yX zO];exact c3 i zO h2
       ·intro i v dc hi hv a6;by_cases e8:i=q
        ·subst e8;rw[yQ zO]at hv;rw[P]at a6;cases hv;cases a6;exact D.lower zO
        ·rw[yX zO]at hv;have hd:=b8 i v dc zO hv a6;exact hd.agr ah (λk a=>by have:=hd.lt a;omega) (λk a=>a.elim)
    ·have e9:q=next.length:=zO
     subst e9;(conv=>whnf);have ey:H2.size<=H3.size:=di;obtain⟨ea,cq,eb,bp,-⟩:=(B.agr W (λk a=>by have:=B.lt a;omega) (λk a=>a.elim)).view (S':=λk=>H.size<=k/\k<H4.size)
      (λk a=>by have:=B.lt a;omega) (λk a=>a.elim)
     subst eb;refine⟨bj,zO,ea,cq,zY ⟨nb,0,zV⟩,next.length,ag.agr W ⟨c4,zO⟩,bp,Y_.intro (zO:H.size<=nb/\nb<H4.size) zZ (by simp[maxLen];omega) (c2.cells (cs:=vs) (λj v hv=>by simpa using hv)) ?_⟩;refine Em (by simp[d8]) λi v x hv hx=>?_;rw[Y']at hx;obtain⟨row,P,rfl⟩:=Option.map_eq_some_iff.1 hx;have hd:=b8 i v row (T_.1 P).1 hv P;obtain⟨a0,de,rfl,ec,-⟩:=hd.view (S':=λk=>H.size<=k/\k<H4.size) (λk a=>by have:=hd.lt a;omega) (λk a=>a.elim);exact⟨a0,de,rfl,ec⟩
inductive Er(rows:List (List Int))(fin:List Bool):Nat->Prop
 | fin {q:Nat}:fin[q]?=zY zW->Er rows fin q
 | step {q t:Nat} {row:List Int}:rows[q]?=zY row->(t:Int)∈row->Er rows fin t->Er rows fin q
def Px(rows:List (List Int))(q j t:Nat)(p:Int):Prop:=∃(q':Nat) (row:List Int),p=(q':Int)/\rows[q']?=zY row/\(q'<q/\(t:Int)∈row\/q'=q/\(t:Int)∈row.take j)
def nF(al:List Bool):Nat:=al.count zU
def Xi{p:Nat}(h:al[p]?=zY zU):nF (al.set p zW)+1=nF al:=by unfold nF;induction al generalizing p with|nil=>simp at h|cons a al b=>{cases p with|zero=>simp at h;subst h;simp[fP]|succ p=>simp at h;simp only[rQ,fP];have:=b h;omega}
structure WI(rows:List (List Int))(final:List Bool)(bk:List (List Int))(al:List Bool)(td:List Int)(ex:Option (Nat×Nat)):Prop where
 len:al.length=rows.length
 sound:∀q:Nat,al[q]?=zY zW->Er rows final q
 fin:∀q:Nat,final[q]?=zY zW->al[q]?=zY zW
 tdok:∀x∈td,∃q:Nat,x=(q:Int)/\al[q]?=zY zW
 cnt:td.length+nF al<=rows.length
 closed:∀(q:Nat) (x:List Int),al[q]?=zY zW->bk[q]?=zY x->(q:Int)∈td\/(∀p∈x,al[p.toNat]?=zY zW)\/∃j,ex=zY (q,j)/\∀p∈x.take j,al[p.toNat]?=zY zW
def mG(rows:List (List Int))(bk:List (List Int)):Prop:=bk.length=rows.length/\∀(t:Nat) (x:List Int),bk[t]?=zY x->∀p,p∈x↔∃(q':Nat) (row:List Int),p=(q':Int)/\rows[q']?=zY row/\(t:Int)∈row
section
variable{rows:List (List Int)}{final:List Bool}
def WI.pop{q:Nat}(h:WI rows final bk al (td++[(q:Int)]) zV):WI rows final bk al td (zY (q,0)):=by refine⟨h.len,h.sound,h.fin,λx b=>h.tdok x (yO _ b),by have:=h.cnt;simp at this;omega,λd x c b=>?_⟩;rcases h.closed d x c b with a | a | ⟨j,a,_⟩;{rcases k_.1 a with a | a;{exact .inl a};rw[V_]at a;have:d=q:=zO;subst this;exact .inr (.inr ⟨0,rfl,zZ⟩)};{exact .inr (.inl a)};cases a
def WI.skip{q e:Nat}{x:List Int}(h:WI rows final bk al td (zY (q,j)))(f:bk[q]?=zY x)(g:x[j]?=zY (e:Int))(i:al[e]?=zY zW):WI rows final bk al td (zY (q,j+1)):=by refine⟨h.len,h.sound,h.fin,h.tdok,h.cnt,λk l d b=>?_⟩;rcases h.closed k l d b with c | c | ⟨n,c,m⟩;{exact .inl c};{exact .inr (.inl c)};cases c;rw[f]at b;cases b;refine .inr (.inr ⟨j+1,rfl,λp a=>?_⟩);rw[Ab g,k_,V_]at a;rcases a with a | rfl;{exact m p a};simpa using i
def WI.mark{q:Nat}{x:List Int}(r:mG rows bk)(h:WI rows final bk al td (zY (q,j)))(w:al[q]?=zY zW)(t:bk[q]?=zY x)(u:x[j]?=zY (b:Int))(v:al[b]?=zY zU):WI rows final bk (al.set b zW) (td++[(b:Int)]) (zY (q,j+1)):=by have f:b<al.length:=(T_.1 v).1;have a:∀i,al[i]?=zY zW->(al.set b zW)[i]?=zY zW:=λi k=>by{by_cases d:b=i;{subst d;rw[yQ f]};rw[yX d];exact k};have m:Er rows final b:=by{have⟨o,row,d,e,s⟩:=(r.2 q x t (b:Int)).1 (d_ u);have:b=o:=zO;subst this;exact .step e s (h.sound q w)};refine⟨by simp[h.len],λi k=>?_,λi k=>a i (h.fin i k),λy l=>?_,?_,λo z n g=>?_⟩;{by_cases d:b=i;{subst d;exact m};rw[yX d]at k;exact h.sound i k};{rcases k_.1 l with l | l;{have⟨i,d,e⟩:=h.tdok y l;exact⟨i,d,a i e⟩};rw[V_]at l;exact⟨b,l,by rw[yQ f]⟩};{have d:=Xi v;have e:=h.cnt;simp only[O_,c_];omega};by_cases d:b=o;{subst d;exact .inl (xX _ (V_.2 rfl))};rw[yX d]at n;rcases h.closed o z n g with e | e | ⟨A,e,s⟩;{exact .inl (yO _ e)};{exact .inr (.inl λp c=>a _ (e p c))};cases e;rw[t]at g;cases g;refine .inr (.inr ⟨j+1,rfl,λp c=>?_⟩);rw[Ab u,k_,V_]at c;rcases c with c | rfl;{exact a _ (s p c)};rw[O',yQ f]
def WI.done{q:Nat}{x:List Int}(h:WI rows final bk al td (zY (q,x.length)))(e:bk[q]?=zY x):WI rows final bk al td zV:=by refine⟨h.len,h.sound,h.fin,h.tdok,h.cnt,λf g c a=>?_⟩;rcases h.closed f g c a with b | b | ⟨i,b,d⟩;{exact .inl b};{exact .inr (.inl b)};cases b;rw[e]at a;cases a;rw[M']at d;exact .inr (.inl d)
def WI.finish(a:mG rows bk)(d:∀row∈rows,∀t∈row,0<=t/\t<(rows.length:Int))(h:WI rows final bk al [] zV)(q:Nat):al[q]?=zY zW↔Er rows final q:=by refine⟨h.sound q,λe=>?_⟩;induction e with|fin f=>exact h.fin _ f|@step q t row h1 h2 _ ih=>{have i:=d row (d_ h1) _ h2;have⟨x,c⟩:=Ac (l:=bk) (k:=t) (by rw[a.1];omega);have g:(q:Int)∈x:=(a.2 t x c (q:Int)).2 ⟨q,row,rfl,h1,h2⟩;rcases h.closed t x ih c with b | b | ⟨_,b,_⟩;{cases b};{simpa using b _ g};cases b}
end
def An1(pb:Nat)(cv av:v_)(cell:List Nat)(an af:Option Addr)(I J:Nat)(rows:List (List Int))(final:List Bool)(S:Nat->Prop)(H:Aa)(hS:∀k,S k->k<H.size/\k≠pb)
  (n:S_ H pb 148 (Cu cv cell (.slice an rows.length I) (.slice af final.length J) av)) (M:cell.length<=256) (hn:Y_ IZ S H an I rows) (hf:Y_ Ay S H af J final)
  (du:rows.length<=65536) (cq:final.length=rows.length) (a7:∀row∈rows,row.length<=256/\∀t∈row,0<=t/\t<(rows.length:Int)):
  Ai prog 70 #[U_ pb] H λv H'=>D_ (λk=>k<H.size/\k≠pb) H H'/\H.size<=H'.size/\
   ∃(al:List Bool) (aa:Option Addr) (bd:Nat),al.length=rows.length/\(∀q,q<rows.length->(al[q]?=zY zW↔Er rows final q))/\
    S_ H' pb 148 (Cu cv cell (.slice an rows.length I) (.slice af final.length J) (.slice aa al.length bd))/\Y_ Ay (λk=>H.size<=k/\k<H'.size) H' aa bd al:=by
 have dv:=n.lt;refine Ai.of_vc func70 rfl (call70 _) (fa HY ?_);refine C_ D7 (by rw[n.cell,K_];exact GY M) zA ?_;refine DH Dj rfl zO zO zO zO ?_;intro nb H1 dw dx be c3;rw[O']at be;have c4:=n.agr c3 (zO:pb<nb);refine fa HY ?_;refine C_ D7 (by rw[c4.cell,K_];exact GY M) zA ?_;(conv=>whnf);refine A0.mk [24] (λq:Nat=>[A_ q]) (λq H2=>q<=rows.length/\D_ (λk=>k<H1.size/\k≠nb) H1 H2/\H1.size<=H2.size/\∃vs bk,Tab tI (λ_=>False) H2 (nb+1) 3 nb 39 vs bk/\bk.length=rows.length/\
  (∀(t:Nat) (x:List Int),bk[t]?=zY x->x.length<=q*256/\∀p,p∈x↔Px rows q 0 t p)) (λq _=>rows.length-q) ?_ ?_
 ·(conv=>whnf);refine⟨0,rfl,zO,D_.refl _ _,M_ _,_,_,Tab.new be zO,zZ,λt x N=>?_⟩;rw[wU]at N;split at N
  ·cases N;refine⟨zZ,λp=>⟨(λh=>by cases h),?_⟩⟩;rintro⟨V,row,_,_,⟨h,_⟩ | ⟨_,h⟩⟩
   ·omega
   ·simp at h
  ·cases N
 ·rintro q H2 dc ⟨hq,bj,cr,vs,bk,m,A,O⟩;have bm:D_ (λk=>k<H.size/\k≠pb) H H2:=(c3.mono λk a=>zO).trans (bj.mono λk a=>zO);have c5:=c4.agr bj ⟨zO,zO⟩;refine AB.m2 (λh=>?_) (λh=>?_)
  ·have⟨row,e⟩:=Ac (l:=rows) (k:=q) zO;have⟨dy,ct⟩:=a7 row (d_ e);refine U' Dj (hn.frame (bm.mono λk a=>hS k a)) e rfl ?_;rintro b2 o2 dz de a8 ⟨ra,rc,rfl,hr⟩;refine lT C4 a8.one ?_;(conv=>whnf);refine A0.mk [31] (λj:Nat=>[A_ j]) (λj H3=>j<=row.length/\D_ (λk=>k<H1.size/\k≠nb) H2 H3/\H1.size<=H3.size/\∃vs bk,Tab tI (λ_=>False) H3 (nb+1) 3 nb 39 vs bk/\bk.length=rows.length/\
    (∀(t:Nat) (x:List Int),bk[t]?=zY x->x.length<=q*256+j/\∀p,p∈x↔Px rows q j t p)) (λj _=>row.length-j) ?_ ?_
   ·(conv=>whnf);exact⟨0,rfl,zO,D_.refl _ _,cr,vs,bk,m,A,O⟩
   ·clear m A O vs bk;rintro j H3 bn ⟨hj,a4,cu,vs,bk,m,A,O⟩;have cw:=hr.frame (a4.mono λk a=>by have:=hS k a;omega);refine AB.m2 (λh=>?_) (λh=>?_)
    ·have⟨ti,a9⟩:=Ac (l:=row) (k:=j) zO;have⟨cx,e0⟩:=ct ti (d_ a9);obtain⟨t,rfl⟩:=xR cx;refine U' AD cw a9 rfl ?_;rintro b3 o3 c6 bf g ⟨rfl,e1⟩;refine lT E_ g.one ?_;have⟨v,x,P,N,cy⟩:=m.get (i:=t) zO;have⟨e3,cz⟩:=O t x N;obtain⟨e4,d0,rfl,-,-⟩:=cy.view (S':=λk=>Q_ v k) (λk a=>a) (λk a=>a.elim);have df:t<vs.length:=(T_.1 P).1;refine ix Dj zO zO ?_;refine C_ C4 (by rw[m.blk.cell,(zO:0+(t:Int).toNat*1=t)];exact P) zA ?_;refine Aj AD [A_ q] rfl rfl zQ zQ ?_;intro q4 H4 e5 d1 ae ag;have dg:=m.blk.lt;have B:=m.agr ag zO (λb _ n=>zO) (λk a=>a.elim);refine BN (T:=tI) (S:=λ_=>False) (ys:=[(q:Int)]) (ds:=[A_ q]) (lo:=nb+1) (xs:=x) AD (B.own t _ x P N) zO (λk a=>a.elim)
      (ae.cells (λj v P=>by simpa using P)) (Ty.reps_one ⟨rfl,BJ zO⟩) rfl (by intro u hu;cases V_.1 hu;rfl) (by simp only[maxLen,c_];omega) (by simp only[c_];omega) ?_
     intro v5 H5 ah bo c7 ai;have c8:=B.blk.agr bo ⟨zO,λa=>by have:=((B.own t _ x P N).lt a).1;omega⟩;refine ix Dj zO zO (F_ C4 c8 zO ah.one ?_);intro H6 W a5 c9;rw[(zO:0+(t:Int).toNat*1=t)]at W;(conv=>whnf);rw[R_ j zO];refine⟨rfl,j+1,zZ,⟨zO,?_,zO,_,_,B.push P ah bo ai W a5 (λk a=>a.elim),by simp[A],?_⟩,zO⟩
     ·intro k a;rw[a5 k a.2,bo k ⟨zO,λn=>by have:=((B.own t _ x P N).lt n).1;omega⟩,ag k zO,a4 k a]
     ·intro t' x' aw;have bg:∀p,Px rows q (j+1) t' p↔Px rows q j t' p\/(t'=t/\p=(q:Int)):=by
       intro p;unfold Px;constructor
       ·rintro⟨V,o,z,d,⟨U,r⟩ | ⟨U,r⟩⟩
        ·exact .inl ⟨V,o,z,d,.inl ⟨U,r⟩⟩
        ·subst U;rw[e]at d;cases d;rw[Ab a9,k_,V_]at r;rcases r with r | r
         ·exact .inl ⟨_,_,z,e,.inr ⟨rfl,r⟩⟩
         ·exact .inr ⟨zO,z⟩
       ·rintro(⟨V,o,z,d,⟨U,r⟩ | ⟨U,r⟩⟩ | ⟨rfl,rfl⟩)
        ·exact⟨V,o,z,d,.inl ⟨U,r⟩⟩
        ·subst U;rw[e]at d;cases d;exact⟨_,_,z,e,.inr ⟨rfl,by rw[Ab a9,k_];exact .inl r⟩⟩
        ·exact⟨q,row,rfl,e,.inr ⟨rfl,by rw[Ab a9,k_];exact .inr (V_.2 rfl)⟩⟩
      by_cases bp:t'=t
      ·subst bp;rw[yQ zO]at aw;cases aw;refine⟨by simp only[O_,c_];omega,λp=>?_⟩;rw[bg p,k_,cz p,V_];simp
      ·rw[yX (Ne.symm bp)]at aw;have⟨z,d⟩:=O t' x' aw;refine⟨zO,λp=>?_⟩;rw[bg p,d p];simp[bp]
    ·have bq:j=row.length:=zO
     subst bq;(conv=>whnf);rw[R_ q zO];refine⟨rfl,q+1,zZ,⟨zO,bj.trans a4,zO,vs,bk,m,A,λt x N=>?_⟩,zO⟩;have⟨g1,g2⟩:=O t x N;refine⟨by rw[Nat.succ_mul];omega,λp=>?_⟩;rw[g2 p];unfold Px;constructor
     ·rintro⟨V,o,z,d,⟨U,r⟩ | ⟨U,r⟩⟩
      ·exact⟨V,o,z,d,.inl ⟨zO,r⟩⟩
      ·exact⟨V,o,z,d,.inl ⟨zO,fM r⟩⟩
     ·rintro⟨V,o,z,d,⟨U,r⟩ | ⟨U,r⟩⟩
      ·by_cases br:V=q
       ·rw[br,e]at d;cases d;exact⟨V,_,z,by rw[br];exact e,.inr ⟨br,by rw[M'];exact r⟩⟩
       ·exact⟨V,o,z,d,.inl ⟨zO,r⟩⟩
      ·simp at r
  ·have d2:q=rows.length:=zO
   subst d2;have aj:mG rows bk:=⟨A,λt x N p=>by
    rw[(O t x N).2 p];unfold Px;constructor
    ·rintro⟨V,row,z,d,⟨U,r⟩ | ⟨_,r⟩⟩
     ·exact⟨V,row,z,d,r⟩
     ·simp at r
    ·rintro⟨V,row,z,d,r⟩;exact⟨V,row,z,d,.inl ⟨(T_.1 d).1,r⟩⟩⟩
   have dh:=m.blk.lt;have bu:=m.view (S':=λk=>nb<=k/\k<H2.size) A.symm (by simp[maxLen];omega) (λk z d=>⟨z,d⟩) (λk a=>a.elim);clear O;refine fa HY ?_;refine C_ D7 (by rw[c5.cell,K_];exact GY M) zA ?_;refine DH Ci rfl zO zO zO zO ?_;intro D H3 e6 cu Z a4;rw[O']at Z;have d3:=c5.agr a4 (zO:pb<D);refine fa OX ?_;refine F_ FX d3 (by rw[KS M];omega) rfl ?_;intro H4 ae ag d1;rw[K_,SF M]at ae;replace Z:=Z.agr ag (zO:D≠pb);have cd:D_ (λk=>k<H2.size/\k≠pb) H2 H4:=(a4.mono λk a=>zO).trans (ag.mono λk a=>a.2);refine fa SX ?_;refine C_ FX (by rw[ae.cell,K_];exact Nv M) zA ?_;(conv=>whnf);refine A0.mk [7,61] (λx:Nat×v_=>[x.2,A_ x.1]) (λx H5=>x.1<=rows.length/\D_ (λk=>k<H2.size/\k≠pb) H2 H5/\H4.size<=H5.size/\
    S_ H5 pb 148 (Cu cv cell (.slice an rows.length I) (.slice af final.length J) (.slice (N_ D) (rows.length:Int).toNat (rows.length:Int).toNat))/\
    ∃al td,al.length=rows.length/\S_ H5 D 4 (al.map .bool)/\Z_ tI (λ_=>False) H5 (D+1) 3 x.2 td/\
     (∀q,al[q]?=zY zW↔q<x.1/\final[q]?=zY zW)/\(∀q:Nat,al[q]?=zY zW->(q:Int)∈td)/\(∀y∈td,∃q:Nat,y=(q:Int)/\al[q]?=zY zW)/\td.length+nF al=rows.length) (λx _=>rows.length-x.1) ?_ ?_
   ·(conv=>whnf);refine⟨(0,_),rfl,zO,cd,M_ _,ae,An8 rows.length zU,[],zZ,by simpa using Z,Z_.nil,λq=>⟨λh=>?_,λh=>zO⟩,λq h=>?_,(λy hy=>by cases hy),by simp[nF,List.count_replicate]⟩
    ·rw[wU]at h;split at h<;>simp at h
    ·rw[wU]at h;split at h<;>simp at h
   ·rintro⟨i,v7⟩ H5 bn ⟨hi,ak,c7,a6,al,td,s,Q,c,C,a0,a1,bh⟩;dsimp only at hi c C;refine AB.m2 (λh=>?_) (λh=>?_)
    ·have ce:=bm.trans (ak.mono λk a=>zO);have⟨f,bv⟩:=Ac (l:=final) (k:=i) zO;refine A7.run (U' Ci (hf.frame (ce.mono λk a=>hS k a)) bv rfl ?_);rintro b3 o3 c6 bf g rfl;refine C_ zE g.one zA (AB.mk (λd=>?_) (λd=>?_))
     ·subst d;have cg:al[i]?=zY zU:=by
       cases N:al[i]? with
       | none=>rw[fK]at N;omega
       | some b=>
         cases b with
         | false=>rfl
         | true=>have:=((C i).1 N).1;omega
      refine fa OX ?_;refine C_ FX (by rw[a6.cell,K_];exact Nw M) zA ?_;refine ix Ci zO zO ?_;refine F_ zE Q (by simp;omega) rfl ?_;intro H6 w a5 c9;rw[(zO:0+(i:Int).toNat*1=i)]at w;refine Aj AD [A_ i] rfl rfl zQ zQ ?_;intro q7 H7 e7 ch R ax;have e8:=a6.lt;have di:=Q.lt;have cj:Z_ tI (λ_=>False) H7 (D+1) 3 v7 td:=(c.agr a5 (λb n=>by have:=c.lt n;omega) (λk a=>a.elim)).agr ax (λb n=>by have:=c.lt n;omega) (λk a=>a.elim);have d4:=Xi cg;refine BN (T:=tI) (S:=λ_=>False) (ys:=[(i:Int)]) (ds:=[A_ i]) (lo:=D+1) (xs:=td) AD cj zO (λk a=>a.elim)
       (R.cells (λj v P=>by simpa using P)) (Ty.reps_one ⟨rfl,BJ zO⟩) rfl (by intro u hu;cases V_.1 hu;rfl) (by simp only[maxLen,c_];omega) (by simp only[c_];omega) ?_
      intro v8 H8 bw X d5 ck;(conv=>whnf);rw[R_ i zO];have Y:∀k,Q_ v7 k->D+1<=k:=λk a=>(c.lt a).1;refine⟨rfl,(i+1,v8),rfl,⟨by dsimp only;omega,?_,zO,?_,al.set i zW,td++[(i:Int)],by simp[s],?_,bw,λq=>?_,λq hq=>?_,λy hy=>?_,?_⟩,by dsimp only;omega⟩
      ·intro k a;rw[X k ⟨zO,λn=>by have:=Y k n;omega⟩,ax k zO,a5 k zO,ak k a]
      ·exact((a6.agr a5 zO).agr ax zO).agr X ⟨zO,λn=>by have:=Y _ n;omega⟩
      ·rw[List.map_set];exact(w.agr ax zO).agr X ⟨zO,λn=>by have:=Y _ n;omega⟩
      ·dsimp only;by_cases E:i=q
       ·subst E;rw[yQ zO];exact⟨λ_=>⟨zO,bv⟩,λ_=>rfl⟩
       ·rw[yX E,C q];constructor
        ·rintro⟨z,d⟩;exact⟨zO,d⟩
        ·rintro⟨z,d⟩;exact⟨zO,d⟩
      ·by_cases E:i=q
       ·subst E;exact xX _ (V_.2 rfl)
       ·rw[yX E]at hq;exact yO _ (a0 q hq)
      ·rcases k_.1 hy with hy | hy
       ·have⟨q,z,d⟩:=a1 y hy;refine⟨q,z,?_⟩;by_cases E:i=q
        ·subst E;rw[yQ zO]
        ·rw[yX E];exact d
       ·rw[V_]at hy;exact⟨i,hy,by rw[yQ zO]⟩
      ·simp only[O_,c_];omega
     ·subst d;(conv=>whnf);rw[R_ i zO];refine⟨rfl,(i+1,v7),rfl,⟨by dsimp only;omega,ak,c7,a6,al,td,s,Q,c,λq=>?_,a0,a1,bh⟩,by dsimp only;omega⟩;rw[C q];dsimp only;constructor
      ·rintro⟨z,d⟩;exact⟨zO,d⟩
      ·rintro⟨z,d⟩;refine⟨?_,d⟩;by_cases E:q=i
       ·subst E;rw[bv]at d;cases d
       ·omega
    ·have d6:i=rows.length:=zO
     subst d6;have F:WI rows final bk al td zV:=by
      refine⟨s,λq hq=>.fin ((C q).1 hq).2,λq hq=>(C q).2 ⟨?_,hq⟩,a1,zO,λq x hq N=>.inl (a0 q hq)⟩;rw[<-cq];exact(T_.1 hq).1
     clear C a0 a1 bh;(conv=>whnf);refine A0.mk [7] (λx:v_×List Bool×List Int=>[x.1]) (λx H6=>D_ (λk=>k<H2.size/\k≠pb) H2 H6/\H5.size<=H6.size/\
      S_ H6 pb 148 (Cu cv cell (.slice an rows.length I) (.slice af final.length J) (.slice (N_ D) (rows.length:Int).toNat (rows.length:Int).toNat))/\
      S_ H6 D 4 (x.2.1.map .bool)/\Z_ tI (λ_=>False) H6 (D+1) 3 x.1 x.2.2/\WI rows final bk x.2.1 x.2.2 zV) (λx _=>2*nF x.2.1+x.2.2.length) ?_ ?_
     ·(conv=>whnf);exact⟨(v7,al,td),rfl,ak,M_ _,a6,Q,c,F⟩
     ·clear c F Q a6 ak s;rintro⟨v7,al,td⟩ H6 d7 ⟨bx,c9,W,w,c,F⟩;dsimp only at c w F;obtain⟨e9,dj,rfl,bz,dk⟩:=c.view (S':=λk=>D+1<=k/\k<H6.size) (λk a=>c.lt a) (λk a=>a.elim);refine AB.m2 (λh=>?_) (λh=>?_)
      ·obtain⟨G,y,rfl⟩:∃G y,td=G++[y]:=⟨td.dropLast,td.getLast (by intro d;subst d;simp at h),(List.dropLast_concat_getLast _).symm⟩;obtain⟨q,rfl,cm⟩:=F.tdok y zZ;have ea:q<rows.length:=by have:=(T_.1 cm).1;have:=F.len;omega
       have eb:(G++[(q:Int)]).length=G.length+1:=zZ
       have dl:=F.cnt;refine U' (i:=G.length) (x:=(q:Int)) AD bz zZ (by rw[xG zO zO];omega) ?_;rintro b3 o3 c6 bf g ⟨rfl,-⟩;refine lT E_ g.one ?_;(conv=>whnf);rw[xG (x:=((G++[(q:Int)]).length:Int)-1) zO zO];refine Zs AD zO (by have:=bz.le;omega) ?_;rw[show(((G++[(q:Int)]).length:Int)-1).toNat=G.length by omega];have a2:=c.pop;clear c bz;have⟨xb,am⟩:=Ac (l:=bk) (k:=q) zO;have ay:=bu.frame (bx.mono λk a=>zO);refine DY Dj ay zO am rfl ?_;rintro b4 o4 ec dm ao ⟨xa,xc,rfl,ap⟩;refine lT C4 ao.one ?_;(conv=>whnf);refine A0.mk [7,97] (λx:Nat×v_×List Bool×List Int=>[x.2.1,A_ x.1]) (λx H7=>x.1<=xb.length/\D_ (λk=>k<H2.size/\k≠pb) H6 H7/\H6.size<=H7.size/\
        S_ H7 pb 148 (Cu cv cell (.slice an rows.length I) (.slice af final.length J) (.slice (N_ D) (rows.length:Int).toNat (rows.length:Int).toNat))/\
        S_ H7 D 4 (x.2.2.1.map .bool)/\Z_ tI (λ_=>False) H7 (D+1) 3 x.2.1 x.2.2.2/\WI rows final bk x.2.2.1 x.2.2.2 (zY (q,x.1))/\x.2.2.1[q]?=zY zW/\2*nF x.2.2.1+x.2.2.2.length<=2*nF al+G.length)
        (λx _=>xb.length-x.1) ?_ ?_
       ·(conv=>whnf);exact⟨(0,_,al,G),rfl,by dsimp only;omega,D_.refl _ _,M_ _,W,w,a2,F.pop,cm,M_ _⟩
       ·clear W w a2;rintro⟨j,v7,az,td⟩ H7 d8 ⟨hj,b0,ch,R,K,c,L,a3,aq⟩;dsimp only at hj c K L a3 aq;refine AB.m2 (λd=>?_) (λd=>?_)
        ·have⟨p,b6⟩:=Ac (l:=xb) (k:=j) zO;obtain⟨pn,dn,rfl,c1,-⟩:=(aj.2 q xb am p).1 (d_ b6);have ed:pn<rows.length:=(T_.1 c1).1;have s:=L.len;have d9:=L.cnt;have⟨f,b7⟩:=Ac (l:=az) (k:=pn) zO;have ee:=R.lt;have dp:=K.lt;refine A7.run (U' AD (ap.frame (b0.mono λk a=>zO)) b6 rfl ?_);rintro b5 o5 ef dq ar ⟨rfl,-⟩;refine C_ E_ ar.one zA (fa OX ?_);refine C_ FX (by rw[R.cell,K_];exact Nw M) zA ?_;refine ix Ci zO zO ?_;refine C_ (v:=.bool f) zE (by rw[K.cell,(zO:0+(pn:Int).toNat*1=pn),Y',b7];rfl) zA ?_;refine AB.mk (λU=>?_) (λU=>?_)
         ·obtain rfl:f=zU:=by simpa using U
          have d4:=Xi b7;refine fa OX ?_;refine C_ FX (by rw[R.cell,K_];exact Nw M) zA ?_;refine ix Ci zO zO ?_;refine F_ zE K (by simp;omega) rfl ?_;intro H8 bi X d5;rw[(zO:0+(pn:Int).toNat*1=pn)]at bi;refine Aj AD [A_ pn] rfl rfl zQ zQ ?_;intro q9 H9 eg eh da b8;have co:Z_ tI (λ_=>False) H9 (D+1) 3 v7 td:=(c.agr X (λb n=>by have:=c.lt n;omega) (λk a=>a.elim)).agr b8 (λb n=>by have:=c.lt n;omega) (λk a=>a.elim);refine BN (T:=tI) (S:=λ_=>False) (ys:=[(pn:Int)]) (ds:=[A_ pn]) (lo:=D+1) (xs:=td) AD co zO (λk a=>a.elim)
           (da.cells (λj v P=>by simpa using P)) (Ty.reps_one ⟨rfl,BJ zO⟩) rfl (by intro u hu;cases V_.1 hu;rfl) (by simp only[maxLen,c_];omega) (by simp only[c_];omega) ?_
          intro db H10 b9 au dr c2;(conv=>whnf);rw[xG (x:=(j:Int)+1) (by have:=ap.le;simp only[maxLen]at this;omega) (by have:=ap.le;simp only[maxLen]at this;omega)];have Y:∀k,Q_ v7 k->D+1<=k:=λk a=>(c.lt a).1;refine⟨rfl,(j+1,db,az.set pn zW,td++[(pn:Int)]),rfl,⟨by dsimp only;omega,?_,zO,?_,?_,b9,L.mark aj a3 am b6 b7,?_,?_⟩,by dsimp only;omega⟩
          ·intro k a;rw[au k ⟨zO,λn=>by have:=Y k n;omega⟩,b8 k zO,X k zO,b0 k a]
          ·exact((R.agr X zO).agr b8 zO).agr au ⟨zO,λn=>by have:=Y _ n;omega⟩
          ·dsimp only;rw[List.map_set];exact(bi.agr b8 zO).agr au ⟨zO,λn=>by have:=Y _ n;omega⟩
          ·dsimp only;by_cases cp:pn=q
           ·subst cp;rw[yQ zO]
           ·rw[yX cp];exact a3
          ·simp only[O_,c_];omega
         ·obtain rfl:f=zW:=by simpa using U
          (conv=>whnf);rw[xG (x:=(j:Int)+1) (by have:=ap.le;simp only[maxLen]at this;omega) (by have:=ap.le;simp only[maxLen]at this;omega)];exact⟨rfl,(j+1,v7,az,td),rfl,⟨by dsimp only;omega,b0,ch,R,K,c,L.skip am b6 b7,a3,aq⟩,by dsimp only;omega⟩
        ·have bq:j=xb.length:=zO
         subst bq;(conv=>whnf);exact⟨rfl,(v7,az,td),rfl,⟨bx.trans b0,zO,R,K,c,L.done am⟩,by dsimp only;omega⟩
      ·have a2:td=[]:=List.eq_nil_of_length_eq_zero zO;subst a2;(conv=>whnf);have s:=F.len;have ei:=W.lt;refine⟨bm.trans (bx.mono λk a=>zO),zO,al,zY ⟨D,0,zV⟩,rows.length,s,λq _=>F.finish aj (λrow e=>(a7 row e).2) q,?_,?_⟩
       ·rw[s];exact W
       ·have dt:=w.lt;refine Y_.intro (zO:H.size<=D/\D<H6.size) zO (by simp only[maxLen];omega) (w.cells (cs:=al.map .bool) (λj v P=>by rw[K_];exact P)) (Em zZ λi v x P N=>?_);rw[Y',N]at P;cases P;rfl
section
attribute [local irreducible] Bs
structure AM where
 sets:List (BitVec 256)
 cell:List Nat
 next:List (List Int)
 final:List Bool
def BY(cells:List (BitVec 256))(next:List (List Int))(final:List Bool):AM:=⟨(Bs next cells (λb=>Ba b b) 256).sets,(Bs next cells (λb=>Ba b b) 256).cell,next.map (HG (Bs next cells (λb=>Ba b b) 256).cols),final⟩
structure AM.Ok(A:AM):Prop where
 n1:1<=A.next.length
 n2:A.next.length<=65536
 fl:A.final.length=A.next.length
 cell:A.cell.length=256
 places:∀p∈A.cell,p<A.sets.length
 sl:A.sets.length<=256
 rows:∀row∈A.next,row.length=A.sets.length/\∀t∈row,0<=t/\t<(A.next.length:Int)
structure Ps(S:Nat->Prop)(H:Aa)(pb:Nat)(A:AM):Prop where
 own:S pb
 ok:A.Ok
 rep:∃ac cc an cn af cf aa ca al,S_ H pb 148 (Cu (.slice ac A.sets.length cc) A.cell (.slice an A.next.length cn) (.slice af A.final.length cf) (.slice aa al.length ca))/\
  Y_ CA S H ac cc A.sets/\Y_ IZ S H an cn A.next/\Y_ Ay S H af cf A.final/\Y_ Ay S H aa ca al/\al.length=A.next.length/\∀q:Nat,q<A.next.length->(al[q]?=zY zW↔Er A.next A.final q)
def Ps.frame{H':Aa}{pb:Nat}{A:AM}(h:Ps S H pb A)(k:D_ S H H'):Ps S H' pb A:=by have⟨a,b,c,d,e,f,g,i,j,l,al,m,n,o,p,q,r⟩:=h;exact⟨a,b,c,d,e,f,g,i,j,l,al,m.agr k a,n.frame k,o.frame k,p.frame k,q.frame k,r⟩
def Ps.mono{S':Nat->Prop}{pb:Nat}{A:AM}(h:Ps S H pb A)(k:∀b,S b->S' b):Ps S' H pb A:=by have⟨a,c,d,e,f,g,i,j,l,m,al,n,o,p,q,r,s⟩:=h;exact⟨k _ a,c,d,e,f,g,i,j,l,m,al,n,o.mono k,p.mono k,q.mono k,r.mono k,s⟩
def Bm(S:Nat->Prop)(H:Aa)(v:v_):Option AM->Prop | none=>v= .pointer zV | some A=>∃pb,v= U_ pb/\Ps S H pb A
variable{o:Option AM}
def Bm.frame{H':Aa}(h:Bm S H v o)(k:D_ S H H'):Bm S H' v o:=by cases o with|none=>exact h|some A=>have⟨pb,a,b⟩:=h;exact⟨pb,a,b.frame k⟩
def Bm.mono{S':Nat->Prop}(h:Bm S H v o)(k:∀b,S b->S' b):Bm S' H v o:=by cases o with|none=>exact h|some A=>have⟨pb,a,c⟩:=h;exact⟨pb,a,c.mono k⟩
def Vu{cells:List (BitVec 256)}{next:List (List Int)}{final:List Bool}(h:B9 cells next final.length=zW):(BY cells next final).Ok:=by have⟨i,j,k,d⟩:=Fb h;have e:=GR (next:=next) (sp:=λb=>Ba b b) (λb l=>(Ce h l).1) 256 (M_ _);have g:=e.len;have m:=e.le;have f:=e.cell;refine⟨by simpa [BY]using i,by simpa [BY]using j,by simp[BY,k],?_,?_,?_,?_⟩;{exact f};{intro p n;have:=e.places p n;simp only[BY];omega};{simp only[BY];omega};intro row a;simp only[BY,yD]at a;obtain⟨r,o,rfl⟩:=a;refine⟨by simp only[HG,BY,e_];omega,λt q=>?_⟩;obtain⟨c,s,rfl⟩:=yD.1 q;have u:=e.cols c s;have:=d r o;simp only[BY,e_];rw[xA,zJ zO,sQ];exact this.2 _ (List.getElem_mem _)
def nV(E na fa:Option Addr)(F nc fc:Nat)(cells:List (BitVec 256))(next:List (List Int))(final:List Bool)(S:Nat->Prop)(H:Aa)(w:∀k,S k->k<H.size)(Q:Y_ CA S H E F cells) (R:Y_ IZ S H na nc next) (U:Y_ Ay S H fa fc final):Ai prog 39 #[.slice E cells.length F,.slice na next.length nc,.slice fa final.length fc] H λv H'=> D_ (H_ H) H H'/\H.size<=H'.size/\Bm (λk=>H.size<=k/\k<H'.size) H' v (if B9 cells next final.length then zY (BY cells next final)else zV):=by
 have lf:=U.le;unfold maxLen at lf;refine Ai.of_vc func39 rfl (call39 _) (Al (Aj7 E na fa F nc fc final.length cells next S H w Q R zO) λH1 j=>?_);have G:H.size<=H1.size:=by{rcases Nat.eq_zero_or_pos H.size with h | h;{omega};have:=An j (k:=H.size-1) (by unfold H_;omega);omega};refine AB.mk (λh=>?_) (λh=>?_);{
 (conv=>whnf);have p:B9 cells next final.length=zU:=by simpa using h
 rw[p];exact⟨j,G,rfl⟩};have p:B9 cells next final.length=zW:=by simpa using h
 rw[p];have⟨n1,Y,Z,I⟩:=Fb p;refine Np (T:=Ay) (S:=S) (lo:=H1.size) (xs:=[]) Ci QQ Z_.nil (M_ _) (λk a=>⟨by have:=w k a;omega,?_⟩) (U.frame (j.mono w)) (by simp only[maxLen,i_];omega) (by simp only[i_];omega) ?_;{rintro⟨o,n,c,h⟩;cases h};intro v2 H2 e J a0 _;rw[rN]at e;have l:Z_ Ay (λ_=>False) H2 H1.size 4 v2 final:=e.free QP;obtain⟨x,d,rfl,y,-⟩:=l.view (S':=λk=>H1.size<=k/\k<H2.size) (λk a=>e.lt a) (λk a=>a.elim);refine Au rfl rfl _ rfl (Cu (.slice zV 0 0) [] (.slice zV 0 0) (.slice x final.length d) (.slice zV 0 0)) (by rfl) (BI (Cu (.slice zV 0 0) [] (.slice zV 0 0) (.slice x final.length d) (.slice zV 0 0)) rfl ?_);intro pb H3 a1 a2 K z;have V:H2.size=pb:=zO;have L:∀k,H_ H k->k<H1.size:=λk a=>by unfold H_ at a;omega
 have s:D_ (λk=>k<H.size) H H3:=(j.trans (J.mono λk a=>⟨L k a,λp=>by have⟨o,n,c,h⟩:=p;cases h⟩)).trans (z.mono λk a=>by unfold H_ at a;omega);have M:∀k,S k->k<H3.size/\k≠pb:=λk a=>by have:=w k a;omega
 refine Ae.mk (Ai9 pb (.slice x final.length d) (.slice zV 0 0) E na F nc cells next final.length S H3 M K (Q.frame (s.mono w)) (R.frame (s.mono w)) p) ?_;rintro v4 H4 ⟨A,a3,W,q,X,r,N,t,f⟩;have i:Y_ Ay (λk=>H1.size<=k/\k<H2.size) H4 x d final:=(y.frame (z.mono λk a=>zO)).frame (A.mono λk a=>zO);have g:=Vu p;(conv=>whnf);refine Ae.mk (An1 pb (.slice W (Bs next cells (λb=>Ba b b) 256).sets.length q) (.slice zV 0 0) (Bs next cells (λb=>Ba b b) 256).cell X x r d (next.map (HG (Bs next cells (λb=>Ba b b) 256).cols)) final (λk=>H1.size<=k/\k<H4.size/\k≠pb) H4 (λk a=>zO) (by rw[e_];exact N) (tG g.cell) (f.mono λk a=>zO) (i.mono λk a=>zO) (by simpa using Y) (by simp[Z]) (λrow B=>?_)) ?_;{have:=g.rows row B;have h2:=g.sl;exact⟨zO,this.2⟩};rintro v5 H5 ⟨m,a4,al,aa,C,D,u,O,P⟩;(conv=>whnf);refine⟨?_,zO,pb,rfl,⟨zO,zO⟩,g,W,q,X,r,x,d,aa,C,al,O,?_,?_,?_,?_,D,u⟩;{exact(s.trans (A.mono λk a=>zO)).trans (m.mono λk a=>zO)};{exact(t.frame (m.mono λk a=>zO)).mono λk a=>zO};{exact(f.frame (m.mono λk a=>zO)).mono λk a=>zO};{exact(i.frame (m.mono λk a=>zO)).mono λk a=>zO};exact P.mono λk a=>zO
def stN:Option AM->Nat | none=>1 | some A=>A.next.length
def TR:prog.underlying 35=zY (.pointer 148):=rfl
def QM(h:Bm S H v o):BK prog 64 #[v] H (.int .i64 (stN o:Int)):=by cases o with|none=>obtain rfl:=h;refine Ai.of_vc func64 rfl (call64 _) (mO TR ?_);(conv=>whnf);exact⟨rfl,D_.refl _ _⟩|some A=>obtain⟨pb,rfl,f,a,l,m,n,p,q,r,s,t,al,j,b,c,g,k,i,d⟩:=h;have e:A.cell.length<=256:=tG a.cell;refine Ai.of_vc func64 rfl (call64 _) (mP TR (fa HY ?_));refine C_ D7 (by rw[j.cell,K_];exact GY e) zA ?_;(conv=>whnf);exact⟨rfl,D_.refl _ _⟩
def AL:Option AM->Int->Bool | none,_=>zU | some A,q=>zT (0<=q)&&(A.final[q.toNat]?).getD zU
def CR(h:Bm S H v o):BK prog 33 #[v,A_ q] H (.bool (AL o q)):=by cases o with|none=>obtain rfl:=h;refine Ai.of_vc func33 rfl (call33 _) (AoJ TR ?_);(conv=>whnf);exact⟨rfl,D_.refl _ _⟩|some A=>{obtain⟨pb,rfl,l,c,y,z,B,C,D,E,F,G,al,m,g,i,d,t,p,j⟩:=h;have e:A.cell.length<=256:=tG c.cell;have u:=c.fl;have w:=c.n2;refine Ai.of_vc func33 rfl (call33 _) ?_;cases q with|negSucc n=>refine gK TR ?_;(conv=>whnf);exact⟨rfl,D_.refl _ _⟩|ofNat n=>refine gK TR (fa SX ?_);refine C_ FX (by rw[m.cell,K_];exact Nv e) zA ?_;by_cases b:n<A.final.length;{have⟨f,r⟩:=Ac b;have k:zT (AqD n<(A.final.length:Int))=zW:=r_ (by simpa using b);(conv=>whnf);rw[k];refine fa SX ?_;refine C_ FX (by rw[m.cell,K_];exact Nv e) zA ?_;refine U' Ci d r rfl ?_;rintro I J x s a rfl;refine lT zE a.one ?_;(conv=>whnf);exact⟨by simp[AL,r],D_.refl _ _⟩};have k:zT (AqD n<(A.final.length:Int))=zU:=n_ (by simpa using b);(conv=>whnf);rw[k];(conv=>whnf);exact⟨by simp[AL,zC (Nat.le_of_not_lt b)],D_.refl _ _⟩}
def cN{cell:List Nat}(h:cell[b]?=zY c):(Cu cv cell nv fv av)[1+b]?=zY (.int .u8 (c:Int)):=by have a:=(T_.1 h).1;unfold Cu;rw[nH,Nat.add_comm,sI,zS,yB (by simpa using a),Y',h];rfl
def Am(o:Option AM)(q:Int)(b:Nat):Int:=if q<0\/(stN o:Int)<=q then -1 else match o with
  | none=>0
  | some A=>((A.next[q.toNat]?).getD []).getD (A.cell.getD b 0) 0
def iN(h:Bm S H v o):1<=stN o/\stN o<=65536:=by cases o with|none=>simp[stN]|some A=>obtain⟨pb,rfl,b,a,_⟩:=h;exact⟨a.n1,a.n2⟩
def D5(J:∀k,S k->k<H.size)(h:Bm S H v o)(r:b<256):BK prog 32 #[v,A_ q,.int .u8 (b:Int)] H (.int .i64 (Am o q b)):=by refine Ai.of_vc func32 rfl (call32 _) ?_;cases q with|negSucc n=>have j:zT (Int.negSucc n<0)=zW:=r_ (nG n);(conv=>whnf);rw[j];(conv=>whnf);exact⟨by simp[Am,nG],D_.refl _ _⟩|ofNat n=>{refine Al (QM h) λH1 f=>?_;have z:=h.frame (f.mono J);by_cases p:stN o<=n;{have j:zT ((stN o:Int)<=AqD n)=zW:=r_ (by simpa using p);(conv=>whnf);rw[j];(conv=>whnf);exact⟨by simp[Am,p],f⟩};have j:zT ((stN o:Int)<=AqD n)=zU:=n_ (by simpa using p);(conv=>whnf);rw[j];have m:∀x,x=(match o with | none=>(0:Int) | some A=>((A.next[n]?).getD []).getD (A.cell.getD b 0) 0)->Am o (AqD n) b=x:=by{intro x K;subst K;unfold Am;rw[I_ (by simp;omega)];cases o<;>rfl};cases o with|none=>obtain rfl:=z;refine mO TR ?_;(conv=>whnf);exact⟨by rw[m 0 rfl],f⟩|some A=>obtain⟨pb,rfl,B,g,R,T,U,V,W,X,Y,Z,al,C,s,i,D,L,E,u⟩:=z;have w:A.cell.length<=256:=tG g.cell;simp only[stN]at p;have⟨row,a⟩:=Ac (l:=A.next) (k:=n) zO;have⟨c,y⟩:=Ac (l:=A.cell) (k:=b) (by rw[g.cell];exact r);have M:=(g.rows row (d_ a)).1;have N:=g.places c (d_ y);have⟨t,F⟩:=Ac (l:=row) (k:=c) zO;refine mP TR (Ap.lex rfl zX (fa HY ?_));refine C_ D7 (by rw[C.cell,K_];exact GY w) zA ?_;refine U' Dj i a rfl ?_;rintro b2 o2 O G d ⟨ra,rc,rfl,P⟩;refine C_ C4 d.one zA (fa Yt (V' iW zO zO ?_));refine C_ (v:=.int .u8 (c:Int)) vZ (by rw[C.cell,(zO:0+1+(b:Int).toNat*1=1+b)];exact cN y) zA ?_;refine U' AD P F rfl ?_;rintro b3 o3 Q I e ⟨rfl,-⟩;refine lT E_ e.one ?_;(conv=>whnf);exact⟨by rw[m t (by simp[a,y,F,xA])],f⟩}
def VM(o:Option AM)(s:ByteArray)(k:Nat):Int:=(s.data.toList.take k).foldl (λq b=>Am o q b.toNat) 0
def dP{s:ByteArray}{b:UInt8}(h:s.data[k]?=zY b):VM o s (k+1)=Am o (VM o s k) b.toNat:=by unfold VM;rw[Ab (x:=b) (by rw[Array.getElem?_toList];exact h),xO];rfl
def Uk:prog.underlying 9=zY .string:=rfl
def aC{s:ByteArray}(h:k<s.size):∃b,s.data[k]?=zY b:=⟨s.data[k]'h,uD h⟩
def DU(o:Option AM)(s:ByteArray):Bool:=AL o (VM o s s.size)
def Rt{s:ByteArray}(e:∀k,S k->k<H.size)(h:Bm S H v o)(hs:s.size<=maxLen):BK prog 66 #[v,.string s] H (.bool (DU o s)):=by unfold maxLen at hs;refine Ai.of_vc func66 rfl (call66 _) ?_;(conv=>whnf);refine A0.mk [5,9] (λk:Nat=>[A_ (VM o s k),A_ k]) (λk H2=>k<=s.size/\D_ (H_ H) H H2) (λk _=>s.size-k) ?_ ?_;{(conv=>whnf);exact⟨0,rfl,zO,D_.refl _ _⟩};rintro k H2 f ⟨d,a⟩;have g:=h.frame (a.mono e);refine AB.m2 (λh=>?_) (λh=>?_);{have⟨b,i⟩:=aC (s:=s) (k:=k) zO;refine EJ Uk rfl i (Al (D5 (λk d=>An a (e k d)) g (UInt8.toNat_lt b)) λH3 c=>?_);(conv=>whnf);rw[R_ k zO];exact⟨rfl,k+1,by rw[dP i];simp,⟨zO,a.trans (c.mono λk d=>An a d)⟩,zO⟩};obtain rfl:k=s.size:=zO;refine Al (CR g) λH3 c=>?_;(conv=>whnf);exact⟨rfl,a.trans (c.mono λk d=>An a d)⟩
open Classical in
noncomputable def S5:Option AM->Int->Bool
 | none,_=>zU
 | some A,q=>zT (Er A.next A.final q.toNat)
def Wd{A:AM}(d:A.Ok)(h:0<=q)(m:q<A.next.length)(i:b<256):0<=Am (zY A) q b/\Am (zY A) q b<A.next.length:=by obtain⟨n,rfl⟩:=xR h;have⟨row,a⟩:=Ac (l:=A.next) (k:=n) zO;have⟨c,f⟩:=Ac (l:=A.cell) (k:=b) (by rw[d.cell];exact i);have e:=d.rows row (d_ a);have j:=d.places c (d_ f);have⟨t,g⟩:=Ac (l:=row) (k:=c) zO;unfold Am;rw[I_ (by simp[stN];omega)];simp only[O',a,xA,f,sQ,g];exact e.2 t (d_ g)
def NR:CA.Ones:=by intro S H b x h u a;obtain rfl:=h;simp[Ag]at a;rcases a with rfl | rfl | rfl | rfl<;>rfl
def dY:CA.Free:=λS S' H H' a x h=>h
def Y_.ofBlk{α:Type}{T:Ty α}{n:Nat}{l:List v_}{xs:List α}(a:S_ H b e l)(c:S b)(d:T.reps S H l xs)(f:n=xs.length)(g:n<=maxLen):Y_ T S H (N_ b) n xs:=Y_.intro c (tG f.symm) g (a.cells (λj v h=>by rw[K_];exact h)) d
def A8:Option AM->List (BitVec 256)| none=>[ApW 256]| some A=>A.sets
def Cr(H H':Aa)(k:Nat):Prop:=H.size<=k/\k<H'.size
def OS(u:∀k,S k->k<H.size)(h:Bm S H v o):Ai prog 61 #[v] H λw H'=>D_ (H_ H) H H'/\H.size<=H'.size/\Z_ CA (λ_=>False) H' H.size 108 w (A8 o):=by refine Ai.of_vc func61 rfl (call61 _) ?_;cases o with|none=>obtain rfl:=h;refine mO TR (Al (KG 0 255 zQ zQ H) λH1 f=>?_);rw[JG];have x:=BF f;refine Aj CJ (Ag (ApW 256)) rfl rfl zQ zQ ?_;intro b H2 l g m d;(conv=>whnf);exact⟨f.trans (d.mono λk i=>by unfold H_ at i;omega),zO,Z_.ofBlk zO m (Ty.reps_one rfl) rfl zQ⟩|some A=>obtain⟨pb,rfl,r,j,C,D,E,F,G,I,J,K,al,l,e,p,s,y,t,q⟩:=h;have z:A.cell.length<=256:=tG j.cell;have B:=j.sl;refine mP TR (G_ MB ?_);refine C_ UR (by rw[l.cell];exact ON) zA ?_;refine Np (T:=CA) (S:=S) (lo:=H.size) (xs:=[]) CJ NR Z_.nil (M_ _) (λk i=>⟨u k i,?_⟩) e (by simp only[maxLen,i_];omega) (by simp only[i_];omega) ?_;{rintro⟨o,n,c,h⟩;cases h};intro L H2 a d g _;rw[rN]at a;(conv=>whnf);exact⟨d.mono λk i=>⟨i,λl=>by have⟨o,n,c,h⟩:=l;cases h⟩,g,a.free dY⟩
end
end Go.Proofs.YtelngokgpnphfaaGreatDoor
