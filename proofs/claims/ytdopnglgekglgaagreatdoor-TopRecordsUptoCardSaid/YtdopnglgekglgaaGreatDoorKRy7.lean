import Derived.Test.YtdopnglgekglgaaGreatDoorKRy6
import Derived.Test.YtdopnglgekglgaaGreatDoorRows
import Derived.Lib.LaidTab
import Derived.OpenShut
import Derived.ChangeSame
import Derived.Deep.DeepHandedRow
import Derived.ProofKit
import Derived.JoinedCond
import Derived.WideKeyArgs
set_option linter.unusedVariables false
set_option linter.unusedSimpArgs false
set_option linter.defProp false
set_option maxHeartbeats 100000000
open List renaming range → AhM, cons → AiC, replicate → AlO
open Option renaming some → Al6
set_option maxRecDepth 100000
open Go.Proofs.Tryz
open Go renaming Value → v_, Operand → z_, World → y_, TypeId → x_, Program → w_
namespace Go.Proofs.YtdopnglgekglgaaGreatDoor
open Go.Lib
def AS(l:List ByteArray):ByteArray:=l.foldl (·++·) nx
theorem S3(l:List ByteArray)(x:ByteArray):AS (l++[x])=AS l++x:=by unfold AS;rw[Yca];rfl
theorem IQ{l:List ByteArray}{i:Nat}{x:ByteArray}(h:l[i]?=some x):AS (l.take (i+1))=AS (l.take i)++x:=by
 rw[←S3,Yd0,h];rfl
theorem Gn(l:List ByteArray):∀i,(AS (l.take i)).size≤(AS l).size:=fun i=>by
 have b:∀(m:List ByteArray) (a:ByteArray),a.size≤(m.foldl (·++·) a).size:=fun m=>by
  induction m with
  | nil=>exact fun a=>J_ _
  | cons x m c=>exact fun a=>YbC (by show a.size≤(a++x).size;rw[ByteArray.size_append];omega) (c (a++x))
 have:=b (l.drop i) (AS (l.take i));unfold AS at this ⊢;rwa [←Yca,Ybb]at this
abbrev JL(rb k:Nat):Pc:=pB 63 rb [C_ k]
section
variable{B S:Nat→Prop}{H0 H H' G:Aa}{b rb k j:Nat}{s:ByteArray}{ps:List Pc}
theorem AfA{l:List v_}(b:E_ B H0 H ps)(i:Nat)(c:ps[i]?=some (pB 63 rb l))(x:o_ rb H H'){d:List v_}(f:K_ H' rb 63 d):E_ B H0 H' (ps.set i (pB 63 rb d)):=
 b.upd i c (x.ag.mono fun k a=>⟨a.1,fun e=>a.2 e⟩) _ f (fun k a=>.inl a) (fun k a=>Ybq (b.in_ i c (k:=k) a).2 x.sz) x.sz
abbrev E6(rb:Nat)(H:Aa):Nat→Prop:=fun j=>j<H.size∧j≠rb
theorem JW(a:E_ (E6 rb H) H G ps):o_ rb H G:=⟨a.old,a.size⟩
theorem AdH(h:O8 (E6 rb H0) H0 b s [JL rb k] H)(w:rb<H0.size):O8 (D_ (H.extract 0 H0.size)) (H.extract 0 H0.size) b s [] H:=by
 have⟨p,a,c,x,d⟩:=h;have f:(H.extract 0 H0.size).size=H0.size:=by have:=d.size;rw[Ydy];omega
 refine⟨p,a,c,x,⟨fun j g=>?_,fun j g=>g,by rw[f];exact d.size,fun q m=>d.oks q (by simp only[Ybe,Yd7,or_false]at m ⊢;exact m.elim .inl fun h=>.inr (.inl h)),fun q m j g=>?_,?_⟩⟩
 ·unfold D_ at g;rw[f]at g;rw[Ydx];have:=d.size;simp;omega
 ·have⟨i,n⟩:=YaT m;have r:i<2:=(X_.1 n).1;have l:(pB 117 b [.pointer p,.slice a s.size c]::pS tU8 YA a s.size c (HY s)::[JL rb k])[i]?=some q:=by
   match i,r with
   | 0,_=>exact n
   | 1,_=>exact n
  have t:=d.in_ i l g;have y:j≠rb:=fun e=>d.apart2 (i:=i) (j:=2) l rfl (by omega) j g e;refine⟨fun u=>t.1 ⟨?_,y⟩,t.2⟩;unfold D_ at u;rwa [f]at u
 ·exact List.Pairwise.sublist (by simp) d.dis
theorem Sp{f:FuncId}{first cap:Array v_}{a:Option Addr}{c:Nat}{xs os:List ByteArray}(r:Dw B H rb k)(N:∀j,S j→j<H.size∧j≠rb)(O:S_ Cp S H a c xs)(D:os.length=xs.length)(P:xs.length≤1048576)(hk:(AS os).size≤k)
  (Q:∀(i:Nat) (x o:ByteArray),xs[i]?=some x→os[i]?=some o→∀(G:Aa) (j:Nat),o_ rb H G→K_ G rb 63 [C_ j]→o.size≤j→j≤1048576→Al prog f (first.toList++[Value.int .i64 (i:Int),Value.string x]++cap.toList).toArray G (F0 G rb (j-o.size) o)):
  Al prog 29 #[.slice a xs.length c,.func (.func f) first cap] H (F0 H rb (k-(AS os).size) (AS os)):=by
 have R:=r.k1;have g:rb<H.size:=r.bl.lt;refine Al.of_vc func29 rfl (call29 _) ?_;have E:E_ (E6 rb H) H H [JL rb k]:=E_.start (p:=JL rb k) r.bl (fun j b=>by rw[show j=rb from b];exact g);refine BV E (.agg #[.pointer none,.slice none 0 0]) [.pointer none,.slice none 0 0] rfl rfl fun q H1 F=>?_;have T:O8 (E6 rb H) H q nx [JL rb k] H1:=⟨none,none,0,.inl rfl,E_.perm (F.nils tU8 YA) (by exact(List.Perm.swap _ _ _).symm.trans (List.Perm.cons _ (List.Perm.swap _ _ _)))⟩;clear E F;(conv=>whnf);refine A8.mk [10] (fun i:Nat=>[C_ i]) (fun i G=>i≤xs.length∧O8 (E6 rb H) H q (AS (os.take i)) [JL rb (k-(AS (os.take i)).size)] G) (fun i _=>xs.length-i) ?_ ?_
 ·(conv=>whnf);exact⟨0,rfl,by omega,T⟩
 ·rintro i G I ⟨hi,t⟩;have U:=Gn os i;have⟨p,a',J,K,e⟩:=t;have u:S_ Cp S G a c xs:=O.frame (e.old.mono fun j b=>N j b);by_cases w:i<xs.length
  ·(conv=>whnf);rw[s_];have⟨x,m⟩:=Am (l:=xs) (k:=i) w;have⟨o,n⟩:=Am (l:=os) (k:=i) (by omega);have b:=IQ n;have L:=Gn os (i+1);have y:(AS (os.take (i+1))).size=(AS (os.take i)).size+o.size:=by rw[b,ByteArray.size_append]
   repeat (refine Af.run ?_)
   refine u_ DO u m rfl ?_;rintro z o3 V M d ⟨rfl,-⟩;refine lT d.one ?_
   repeat (refine Af.run ?_)
   refine Aj.mk (Q i x o m n G _ (JW e) (e.blk 2 rfl) (by omega) (by omega)) ?_;rintro _ G2 ⟨rfl,W,X⟩;have A:=AfA e 2 rfl W X;have C:O8 (E6 rb H) H q (AS (os.take i)) [JL rb (k-(AS (os.take i)).size-o.size)] G2:=⟨p,a',J,K,A⟩;refine vwS C (by omega) fun G3 z=>?_;rw[←b,Yd8,←y]at z
   repeat (refine Af.run ?_)
   (conv=>whnf);rw[R_ i (by omega)];exact⟨rfl,i+1,rfl,⟨by omega,z⟩,by omega⟩
  ·(conv=>whnf);rw[m_];obtain rfl:i=xs.length:=by omega
   rw[Ycy (by omega)]at e;have t:O8 (E6 rb H) H q (AS os) [JL rb (k-(AS os).size)] G:=⟨p,a',J,K,e⟩;have Y:=AdH t g;refine vStr Y fun G2 a2=>?_;(conv=>whnf);have hs:(G.extract 0 H.size).size=H.size:=by have:=e.size;rw[Ydy];omega
   have a3:A_ (D_ H) G G2:=fun j b=>by
    have h:=a2 j (by show j<_;rw[hs];exact b);rw[h,Ydx];have Z:j<H.size:=b;have:=e.size;simp;omega
   have hz:H.size≤G2.size:=by have:=Ap a2;omega
   exact⟨rfl,⟨e.old.trans (a3.mono fun j b=>b.1),hz⟩,(e.blk 2 rfl).agr a3 g⟩
end
theorem EY{xs:List (List Nat)}{i:Nat}{x:List Nat}(h:xs[i]?=some x):(xs.take (i+1)).flatten=(xs.take i).flatten++x:=by rw[Yd0,h];simp
theorem Jz(xs:List (List Nat))(i:Nat):(xs.take i).flatten.length≤xs.flatten.length:=by
 have:=congrArg List.length (congrArg List.flatten (Ybb i xs));rw[Yd5,Q_]at this;omega
theorem NL:∀{xs:List (List Nat)} {i n:Nat} {x:List Nat},xs[i]?=some x→(Gl n xs)[i]?=some ((n+(xs.take (i+1)).flatten.length:Nat):Int)
 | [],_,_,_,h=>by cases h
 | y::ys,0,n,x,h=>by simp[Gl]
 | y::ys,i+1,n,x,h=>by
   show(Gl (n+y.length) ys)[i]?=_;rw[NL (show ys[i]?=some x from h)]
   congr 2
   simp only[List.take_succ_cons,Ydo,Q_];omega
theorem NM:∀(xs:List (List Nat)) (n:Nat),(Gl n xs).length=xs.length
 | [],_=>rfl
 | y::ys,n=>by show(Gl _ ys).length+1=ys.length+1;rw[NM ys]
theorem Xg{xs:List (List Nat)}{i:Nat}{x:List Nat}(h:xs[i]?=some x):(bA xs.flatten).extract (xs.take i).flatten.length (xs.take (i+1)).flatten.length=bA x:=by
 have e:xs.flatten=((xs.take i).flatten++x)++(xs.drop (i+1)).flatten:=by
  rw[←EY h,←Yd5,Ybb]
 rw[RX,e,EY h,List.take_left,List.drop_left]
theorem DY{B:Nat→Prop}{H:Aa}{v:v_}{r:ReM}{xs:List (List Nat)}(Q:∀j,B j→j<H.size)(S:AuV B H v r)(U:Nw r (bA xs.flatten) xs)(hs:xs.flatten.length≤1048576)(hn:xs.length≤1048576):
  Al prog 30 #[v,.string (bA xs.flatten)] H fun R H'=>A_ (D_ H) H H'∧∃a c,R= .slice a xs.length c∧S_ Cp (fun j=>H.size≤j∧j<H'.size) H' a c (xs.map bA):=by
 have⟨A,av,V⟩:=S;have W:(bA xs.flatten).size=xs.flatten.length:=AB _;refine Al.of_vc func30 rfl (call30 _) ?_;have m:=WF Q av (s:=bA xs.flatten) (by omega);rw[U V]at m;refine Aj.mk (show Al prog _ _ H (fun X H'=>A_ (D_ H) H H'∧∃w,X= .tuple #[w,C_ 0]∧M_ tI none_ H' H.size 3 w (Gl 0 xs))from m) ?_;rintro _ H1 ⟨a1,w,rfl,J⟩;obtain⟨wa,wc,rfl,hd,-⟩:=J.view (S':=D_ H1) (fun j g=>(J.lt g).2) (fun _ f=>f.elim);have Y:=NM xs 0;refine D1 DO rfl (by omega) (by omega) (by omega) (by omega) ?_;intro q H2 K p t u;have Z:=(St.nil H1).newCap (T:=Cp) (cap:=((Gl 0 xs).length:Int).toNat) K p t u (by show _=_*1;simp) (by unfold maxLen;omega);clear K p t u;(conv=>whnf);refine A8.mk [7,8,22] (fun x:Nat×Option Addr×Nat=>match x with | (i,a,c)=>[.slice a i c,C_ ((xs.take i).flatten.length:Nat),C_ i])
  (fun x G=>x.1≤xs.length∧St H1 G [pS Cp 9 x.2.1 x.1 x.2.2 ((xs.take x.1).map bA)]) (fun x _=>xs.length-x.1) ?_ ?_
 ·(conv=>whnf);exact⟨(0,some ⟨q,0,none⟩,((Gl 0 xs).length:Int).toNat),rfl,l_ _,Z⟩
 ·rintro⟨i,a,c⟩ G L ⟨hi,h⟩;simp only at hi h;have z:=hd.frame h.old;by_cases C:i<xs.length
  ·have⟨x,d⟩:=Am (l:=xs) (k:=i) C;have M:=NL (n:=0) d;rw[P_]at M;have N:=Jz xs (i+1);have h2:=Jz xs i;have h3:=congrArg List.length (EY d);rw[Q_]at h3;(conv=>whnf);rw[s_]
   repeat (refine Af.run ?_)
   refine u_ AO z M rfl ?_;rintro b3 o3 a0 O b ⟨rfl,-⟩;refine lT b.one ?_
   repeat (refine Af.run ?_)
   refine RI Hv (by omega) (by omega) (by omega) ?_;rw[show(bA xs.flatten).extract ((((xs.take i).flatten.length:Nat):Int)).toNat ((((xs.take (i+1)).flatten.length:Nat):Int)).toNat=bA x from Xg d];refine Az DO [.string (bA x)] rfl rfl (by decide) (by decide) ?_;intro q6 H6 D a5 E F;refine GH (h.skip D F) 0 DO rfl E ⟨rfl,by rw[AB];unfold maxLen;omega⟩ rfl (by rw[Z_,YaN];omega) (by decide) fun a' I H7 y g7=>?_
   repeat (refine Af.run ?_)
   (conv=>whnf);rw[R_ i (by omega)];have P:((xs.take i).map bA).length=i:=by rw[Z_,YaN];omega
   have hm:(xs.take i).map bA++[bA x]=(xs.take (i+1)).map bA:=by rw[Yd0,d];simp
   rw[P,hm]at y;rw[P];exact⟨rfl,(i+1,a',I),rfl,⟨by simp only;omega,y⟩,by simp only;omega⟩
  ·(conv=>whnf);rw[m_];obtain rfl:i=xs.length:=by omega
   rw[YaB]at h;(conv=>whnf);obtain⟨a',I,e,N,-⟩:=(h.at_ 0 rfl).1.view (S':=fun j=>H.size≤j∧j<G.size) (fun j g=>⟨YbC (Ap a1) (Nat.le_of_not_lt (h.in_ 0 rfl (.inl g)).1),(h.in_ 0 rfl (.inl g)).2⟩) (fun j g=>g.elim);rw[Z_]at e;exact⟨a1.trans (h.old.mono fun j g=>Ae a1 g),a',I,e,N⟩
section
variable{B:Nat→Prop}{H:Aa}{g gt p rb k:Nat}{ws:ByteArray}{n:Option ReM}{w:ByteArray}{tl:List v_}{a b:ReM}{A C:LnM}{vs vv vq vA vC vl:v_}{v s o:ByteArray}
theorem AeA{c d:Nat}{i:Int}(m:K_ H c 44 [H_ rb])(q:K_ H d 24 [H_ g])(r:Dw B H rb k)(l:LeM B H g gt p ws n w tl a b A C vs vv vq vA vC)(t:Ev .get A v s o)(hs:s.size≤1048576)(u:o.size≤k):
  Al prog 31 #[C_ i,.string s,H_ c,H_ d] H (F0 H rb (k-o.size) o):=by
 refine Al.of_vc func31 rfl (call31 _) (Au.heldZ (fun j=>j=c∨j=d∨B j) [6,7] (sq [0,1,2,3,4,5] (.f 6 (.f 7 .e))) rfl (by kernel_rfl) ?_)
 repeat ((conv=>whnf);first | refine F_ ?_ | refine B_ (m.cellE rfl) (.inl rfl) ?_ | refine B_ (q.cellE rfl) (.inr (.inl rfl)) ?_ | refine B_ (l.bg.cellE rfl) (.inr (.inr l.gB)) ?_)
 refine Aj.mk (AgZ t r l.la hs u) ?_;rintro _ G h;have e:=h.e;subst e;(conv=>whnf);exact⟨rfl,h.x,h.bl⟩
theorem Xl{H3:Aa}{l m c:Nat}{pa:Option Addr}{xs:List (List Nat)}{os:List ByteArray}(a3:A_ (D_ H) H H3)(r:Dw B H rb k)(M:LeM B H g gt p ws n w tl a b A C vs vv vq vA vC)(t:K_ H l 44 [H_ rb])(u:K_ H m 24 [H_ g])(N:l≠rb)(O:m≠rb)(hd:S_ Cp (fun j=>H.size≤j∧j<H3.size) H3 pa c (xs.map bA))(e:os.length=xs.length)
  (y:∀(i:Nat) (x:List Nat) (o:ByteArray),xs[i]?=some x→os[i]?=some o→∃z,Ev .get A z (bA x) o) (P:xs.flatten.length≤1048576) (Q:xs.length≤1048576) (R:(AS os).size≤k):
  Al prog 29 #[.slice pa xs.length c,.func (.func 31) #[] #[H_ l,H_ m]] H3 (F0 H3 rb (k-(AS os).size) (AS os)):=by
 have I:(xs.map bA).length=xs.length:=Z_ _;have d:=r.old a3;have D:=M.up (a3.mono r.hB);have S:=r.bl.lt;have J:=Sp (f:=31) (first:= #[]) (cap:= #[H_ l,H_ m]) d (fun j T=>⟨T.2,by omega⟩) hd (by rw[I];exact e) (by omega) R (fun i x o K E G j q U V W=>?_)
 ·rw[I]at J;exact J
 ·rw[t_,Ydt]at K;obtain⟨L,h,rfl⟩:=K;have⟨z,X⟩:=y i L o h E;have F:L.length≤1048576:=by
   have Y:=Jz xs (i+1);rw[EY h,Q_]at Y;omega
  exact AeA ((t.agr a3 t.lt).agr q.ag ⟨Ae a3 t.lt,N⟩) ((u.agr a3 u.lt).agr q.ag ⟨Ae a3 u.lt,O⟩) ⟨fun i Z=>Ybq (d.hB i Z) q.sz,d.rn,U,W⟩ (D.up (d.ag q)) X (by rw[AB];exact F) V
theorem AeB{op:LO}{q x y:Tm}{Q:QuM}{xs:List (List Nat)}{os:List ByteArray}(F:op= .star∨op= .keyed)(W:A≠ .nil)(K:Nw A.s (bA xs.flatten) xs)(l:os.length=xs.length)(r:∀(i:Nat) (x:List Nat) (o:ByteArray),xs[i]?=some x→os[i]?=some o→∃z,Ev .get A z (bA x) o)(d:xs.flatten.length≤1048576)(f:xs.length≤1048576)(E:Dw B H rb k)(t:M' B H (.mk (.le p op n w q x y) a b Q A C) vl)(L:(AS os).size≤k):
  Al prog 14 #[H_ rb,vl,.string (bA xs.flatten)] H (F0 H rb (k-(AS os).size) (AS os)):=by
 obtain⟨g,gt,tl,vs,vv,vq,vA,vC,rfl,M⟩:=HJ t;obtain⟨ws,u⟩:∃ws,ws=op.s:=⟨_,rfl⟩;rw[←u]at M;have T:=DJ u;refine Al.of_vc func14 rfl (call14 _) (BL (St.nil H) [H_ rb] rfl fun I H1 N=>(BL N [H_ g] rfl fun J H2 m=>?_));have j:=E.old m.old;have c:=M.up (m.old.mono E.hB);have O:o_ rb H H2:=.old m.old;have P:=m.blk 0 rfl;have D:=m.blk 1 rfl;have R:I≠rb:=fun e=>(m.in_ 0 rfl (show I=I from rfl)).1 (by rw[e];exact E.bl.lt);have S:J≠rb:=fun e=>(m.in_ 1 rfl (show J=J from rfl)).1 (by rw[e];exact E.bl.lt);clear N m;obtain⟨Z,_,_,_,_,_,_,rfl,X,U,V,-⟩:=EC W c.la
 repeat ((conv=>whnf);first | refine Af.run ?_ | refine F_ ?_ | refine B_ (D.cellE rfl) trivial ?_ | refine B_ (c.bg.cellE rfl) trivial ?_ | refine B_ (c.bt.cellE rfl) trivial ?_)
 (conv=>whnf);rcases F with rfl | rfl
 ·refine Ag.ff (T.t0.trans rfl) ?_
  repeat (refine Af.run ?_)
  (conv=>whnf);refine Ag.ff (T.t1.trans rfl) ?_
  repeat (refine Af.run ?_)
  (conv=>whnf);refine Ag.ff (T.t2.trans rfl) ?_
  repeat (refine Af.run ?_)
  (conv=>whnf);refine Ag.ff (T.t10.trans rfl) ?_
  repeat (refine Af.run ?_)
  (conv=>whnf);refine Ag.ff (T.t11.trans rfl) ?_
  repeat (refine Af.run ?_)
  (conv=>whnf);refine Ag.ff (T.t9.trans rfl) ?_
  repeat (refine Af.run ?_)
  (conv=>whnf);refine Ag.tt (T.t8.trans rfl) ?_
  repeat ((conv=>whnf);first | refine Af.run ?_ | refine F_ ?_ | refine B_ (D.cellE rfl) trivial ?_ | refine B_ (c.bg.cellE rfl) trivial ?_ | refine B_ (U.cellE rfl) trivial ?_)
  refine Aj.mk (DY j.hB V K d f) ?_;rintro _ H3 ⟨a3,pa,Y,rfl,hd⟩;have t:=Xl a3 j c P D R S hd l r d f L;refine Aj.mk t ?_;rintro _ G h;have e:=h.e;subst e;(conv=>whnf);exact⟨rfl,(O.trans (.old a3)).trans h.x,h.bl⟩
 ·refine Ag.ff (T.t0.trans rfl) ?_
  repeat (refine Af.run ?_)
  (conv=>whnf);refine Ag.ff (T.t1.trans rfl) ?_
  repeat (refine Af.run ?_)
  (conv=>whnf);refine Ag.ff (T.t2.trans rfl) ?_
  repeat (refine Af.run ?_)
  (conv=>whnf);refine Ag.ff (T.t10.trans rfl) ?_
  repeat (refine Af.run ?_)
  (conv=>whnf);refine Ag.ff (T.t11.trans rfl) ?_
  repeat (refine Af.run ?_)
  (conv=>whnf);refine Ag.ff (T.t9.trans rfl) ?_
  repeat (refine Af.run ?_)
  (conv=>whnf);refine Ag.ff (T.t8.trans rfl) ?_
  repeat (refine Af.run ?_)
  (conv=>whnf);refine Ag.tt (T.t7.trans rfl) ?_
  repeat ((conv=>whnf);first | refine Af.run ?_ | refine F_ ?_ | refine B_ (D.cellE rfl) trivial ?_ | refine B_ (c.bg.cellE rfl) trivial ?_ | refine B_ (U.cellE rfl) trivial ?_)
  refine Aj.mk (DY j.hB V K d f) ?_;rintro _ H3 ⟨a3,pa,Y,rfl,hd⟩;have t:=Xl a3 j c P D R S hd l r d f L;refine Aj.mk t ?_;rintro _ G h;have e:=h.e;subst e;(conv=>whnf);exact⟨rfl,(O.trans (.old a3)).trans h.x,h.bl⟩
theorem AdV{c d:Nat}{i:Int}(m:K_ H c 44 [H_ rb])(q:K_ H d 24 [H_ g])(r:Dw B H rb k)(l:LeM B H g gt p ws n w tl a b A C vs vv vq vA vC)(t:Ev .cre A v s o)(u:v.size≤1048576)(y:o.size≤k):
  Al prog 34 #[C_ i,.string v,H_ c,H_ d] H (F0 H rb (k-o.size) o):=by
 refine Al.of_vc func34 rfl (call34 _) (Au.heldZ (fun j=>j=c∨j=d∨B j) [6,7] (sq [0,1,2,3,4,5] (.f 6 (.f 7 .e))) rfl (by kernel_rfl) ?_)
 repeat ((conv=>whnf);first | refine F_ ?_ | refine B_ (m.cellE rfl) (.inl rfl) ?_ | refine B_ (q.cellE rfl) (.inr (.inl rfl)) ?_ | refine B_ (l.bg.cellE rfl) (.inr (.inr l.gB)) ?_)
 refine Aj.mk (AgN t r l.la u y) ?_;rintro _ G h;have e:=h.e;subst e;(conv=>whnf);exact⟨rfl,h.x,h.bl⟩
theorem WM{H3:Aa}{l m c:Nat}{pa:Option Addr}{xs:List (List Nat)}{os:List ByteArray}(a3:A_ (D_ H) H H3)(r:Dw B H rb k)(M:LeM B H g gt p ws n w tl a b A C vs vv vq vA vC)(t:K_ H l 44 [H_ rb])(u:K_ H m 24 [H_ g])(N:l≠rb)(O:m≠rb)(hd:S_ Cp (fun j=>H.size≤j∧j<H3.size) H3 pa c (xs.map bA))(e:os.length=xs.length)
  (y:∀(i:Nat) (x:List Nat) (o:ByteArray),xs[i]?=some x→os[i]?=some o→∃z,Ev .cre A (bA x) z o) (P:xs.flatten.length≤1048576) (Q:xs.length≤1048576) (R:(AS os).size≤k):
  Al prog 29 #[.slice pa xs.length c,.func (.func 34) #[] #[H_ l,H_ m]] H3 (F0 H3 rb (k-(AS os).size) (AS os)):=by
 have I:(xs.map bA).length=xs.length:=Z_ _;have d:=r.old a3;have D:=M.up (a3.mono r.hB);have S:=r.bl.lt;have J:=Sp (f:=34) (first:= #[]) (cap:= #[H_ l,H_ m]) d (fun j T=>⟨T.2,by omega⟩) hd (by rw[I];exact e) (by omega) R (fun i x o K E G j q U V W=>?_)
 ·rw[I]at J;exact J
 ·rw[t_,Ydt]at K;obtain⟨L,h,rfl⟩:=K;have⟨z,X⟩:=y i L o h E;have F:L.length≤1048576:=by
   have Y:=Jz xs (i+1);rw[EY h,Q_]at Y;omega
  exact AdV ((t.agr a3 t.lt).agr q.ag ⟨Ae a3 t.lt,N⟩) ((u.agr a3 u.lt).agr q.ag ⟨Ae a3 u.lt,O⟩) ⟨fun i Z=>Ybq (d.hB i Z) q.sz,d.rn,U,W⟩ (D.up (d.ag q)) X (by rw[AB];exact F) V
theorem AdW{op:LO}{q x y:Tm}{Q:QuM}{xs:List (List Nat)}{os:List ByteArray}(F:op= .star∨op= .keyed)(W:A≠ .nil)(K:Nw A.v (bA xs.flatten) xs)(l:os.length=xs.length)(r:∀(i:Nat) (x:List Nat) (o:ByteArray),xs[i]?=some x→os[i]?=some o→∃z,Ev .cre A (bA x) z o)(d:xs.flatten.length≤1048576)(f:xs.length≤1048576)(E:Dw B H rb k)(t:M' B H (.mk (.le p op n w q x y) a b Q A C) vl)(L:(AS os).size≤k):
  Al prog 16 #[H_ rb,vl,.string (bA xs.flatten)] H (F0 H rb (k-(AS os).size) (AS os)):=by
 obtain⟨g,gt,tl,vs,vv,vq,vA,vC,rfl,M⟩:=HJ t;obtain⟨ws,u⟩:∃ws,ws=op.s:=⟨_,rfl⟩;rw[←u]at M;have T:=DJ u;refine Al.of_vc func16 rfl (call16 _) (BL (St.nil H) [H_ rb] rfl fun I H1 N=>(BL N [H_ g] rfl fun J H2 m=>?_));have j:=E.old m.old;have c:=M.up (m.old.mono E.hB);have O:o_ rb H H2:=.old m.old;have P:=m.blk 0 rfl;have D:=m.blk 1 rfl;have R:I≠rb:=fun e=>(m.in_ 0 rfl (show I=I from rfl)).1 (by rw[e];exact E.bl.lt);have S:J≠rb:=fun e=>(m.in_ 1 rfl (show J=J from rfl)).1 (by rw[e];exact E.bl.lt);clear N m;obtain⟨Z,_,_,_,_,_,_,rfl,X,U,-,V⟩:=EC W c.la
 repeat ((conv=>whnf);first | refine Af.run ?_ | refine F_ ?_ | refine B_ (D.cellE rfl) trivial ?_ | refine B_ (c.bg.cellE rfl) trivial ?_ | refine B_ (c.bt.cellE rfl) trivial ?_)
 (conv=>whnf);rcases F with rfl | rfl
 ·refine Ag.ff (T.t0.trans rfl) ?_
  repeat (refine Af.run ?_)
  (conv=>whnf);refine Ag.ff (T.t1.trans rfl) ?_
  repeat (refine Af.run ?_)
  (conv=>whnf);refine Ag.ff (T.t3.trans rfl) ?_
  repeat (refine Af.run ?_)
  (conv=>whnf);refine Ag.ff (T.t10.trans rfl) ?_
  repeat (refine Af.run ?_)
  (conv=>whnf);refine Ag.ff (T.t11.trans rfl) ?_
  repeat (refine Af.run ?_)
  (conv=>whnf);refine Ag.ff (T.t9.trans rfl) ?_
  repeat (refine Af.run ?_)
  (conv=>whnf);refine Ag.tt (T.t8.trans rfl) ?_
  repeat ((conv=>whnf);first | refine Af.run ?_ | refine F_ ?_ | refine B_ (D.cellE rfl) trivial ?_ | refine B_ (c.bg.cellE rfl) trivial ?_ | refine B_ (U.cellE rfl) trivial ?_)
  refine Aj.mk (DY j.hB V K d f) ?_;rintro _ H3 ⟨a3,pa,Y,rfl,hd⟩;have t:=WM a3 j c P D R S hd l r d f L;refine Aj.mk t ?_;rintro _ G h;have e:=h.e;subst e;(conv=>whnf);exact⟨rfl,(O.trans (.old a3)).trans h.x,h.bl⟩
 ·refine Ag.ff (T.t0.trans rfl) ?_
  repeat (refine Af.run ?_)
  (conv=>whnf);refine Ag.ff (T.t1.trans rfl) ?_
  repeat (refine Af.run ?_)
  (conv=>whnf);refine Ag.ff (T.t3.trans rfl) ?_
  repeat (refine Af.run ?_)
  (conv=>whnf);refine Ag.ff (T.t10.trans rfl) ?_
  repeat (refine Af.run ?_)
  (conv=>whnf);refine Ag.ff (T.t11.trans rfl) ?_
  repeat (refine Af.run ?_)
  (conv=>whnf);refine Ag.ff (T.t9.trans rfl) ?_
  repeat (refine Af.run ?_)
  (conv=>whnf);refine Ag.ff (T.t8.trans rfl) ?_
  repeat (refine Af.run ?_)
  (conv=>whnf);refine Ag.tt (T.t7.trans rfl) ?_
  repeat ((conv=>whnf);first | refine Af.run ?_ | refine F_ ?_ | refine B_ (D.cellE rfl) trivial ?_ | refine B_ (c.bg.cellE rfl) trivial ?_ | refine B_ (U.cellE rfl) trivial ?_)
  refine Aj.mk (DY j.hB V K d f) ?_;rintro _ H3 ⟨a3,pa,Y,rfl,hd⟩;have t:=WM a3 j c P D R S hd l r d f L;refine Aj.mk t ?_;rintro _ G h;have e:=h.e;subst e;(conv=>whnf);exact⟨rfl,(O.trans (.old a3)).trans h.x,h.bl⟩
end
theorem AhZ{L:LnM}{v s o:ByteArray}(h:Ev .put L v s o):∀{B:Nat→Prop} {H:Aa} {rb k:Nat} {vl:v_},Dw B H rb k→M' B H L vl→v.size≤1048576→s.size≤1048576→o.size≤k→
  Al prog 18 #[H_ rb,vl,.string v,.string s] H (F0 H rb (k-o.size) o):=by
 induction h with
 | @leaf p op n w q x y a b Q A C v s hop=>
   intro B H rb k vl F I M hs t;obtain⟨g,gt,tl,vs,vv,vq,vA,vC,rfl,u⟩:=HJ I;obtain⟨ws,e⟩:∃ws,ws=op.s:=⟨_,rfl⟩;rw[←e]at u;have T:=DJ e;refine Al.of_vc func18 rfl (call18 _) ?_;have c:=F;have d:=u;have r:o_ rb H H:=.refl
   repeat ((conv=>whnf);first | refine Af.run ?_ | refine F_ ?_ | refine B_ (d.bg.cellE rfl) trivial ?_ | refine B_ (d.bt.cellE rfl) trivial ?_)
   (conv=>whnf);cases op<;>first | (exact absurd hop (by decide)) | skip
   case copy=>
    refine Ag.tt (T.t0.trans rfl) ?_
    repeat ((conv=>whnf);first | refine Af.run ?_ | refine F_ ?_)
    refine Aj.mk (Fh c t) ?_;rintro _ G ⟨rfl,f,z⟩;(conv=>whnf);exact⟨rfl,r.trans f,z⟩
   case key=>
    refine Ag.ff (T.t0.trans rfl) ?_
    repeat (refine Af.run ?_)
    (conv=>whnf);refine Ag.tt (T.t1.trans rfl) ?_
    repeat ((conv=>whnf);first | refine Af.run ?_ | refine F_ ?_)
    refine Aj.mk (Fh c t) ?_;rintro _ G ⟨rfl,f,z⟩;(conv=>whnf);exact⟨rfl,r.trans f,z⟩
   case ins=>
    refine Ag.ff (T.t0.trans rfl) ?_
    repeat (refine Af.run ?_)
    (conv=>whnf);refine Ag.ff (T.t1.trans rfl) ?_
    repeat (refine Af.run ?_)
    (conv=>whnf);refine Ag.ff (T.t3.trans rfl) ?_
    repeat (refine Af.run ?_)
    (conv=>whnf);refine Ag.ff (T.t10.trans rfl) ?_
    repeat (refine Af.run ?_)
    (conv=>whnf);refine Ag.ff (T.t11.trans rfl) ?_
    repeat (refine Af.run ?_)
    (conv=>whnf);refine Ag.ff (T.t9.trans rfl) ?_
    repeat (refine Af.run ?_)
    (conv=>whnf);refine Ag.ff (T.t8.trans rfl) ?_
    repeat (refine Af.run ?_)
    (conv=>whnf);refine Ag.ff (T.t7.trans rfl) ?_
    repeat (refine Af.run ?_)
    (conv=>whnf);refine Ag.ff (T.t4.trans rfl) ?_
    repeat (refine Af.run ?_)
    (conv=>whnf);refine Ag.ff (T.t5.trans rfl) ?_
    repeat (refine Af.run ?_)
    (conv=>whnf);refine Ag.ff (T.t6.trans rfl) ?_
    repeat (refine Af.run ?_)
    (conv=>whnf);refine Ag.ff (T.t12.trans rfl) ?_
    repeat (refine Af.run ?_)
    (conv=>whnf);exact⟨rfl,r,c.bl⟩
   case del=>
    refine Ag.ff (T.t0.trans rfl) ?_
    repeat (refine Af.run ?_)
    (conv=>whnf);refine Ag.ff (T.t1.trans rfl) ?_
    repeat (refine Af.run ?_)
    (conv=>whnf);refine Ag.tt (T.t3.trans rfl) ?_
    repeat ((conv=>whnf);first | refine Af.run ?_ | refine F_ ?_)
    refine Aj.mk (Fh c t) ?_;rintro _ G ⟨rfl,f,z⟩;(conv=>whnf);exact⟨rfl,r.trans f,z⟩
 | @cat p n w q x y a b Q A C v1 v2 s1 s2 o1 o2 hA hC hcs hcv e1 e2 ih1 ih2=>
   intro B H rb k vl F I M hs t;have N:(o1++o2).size=o1.size+o2.size:=ByteArray.size_append;have W:(v1++v2).size=v1.size+v2.size:=ByteArray.size_append;have ss:(s1++s2).size=s1.size+s2.size:=ByteArray.size_append;rw[N]at t;obtain⟨g,gt,tl,vs,vv,vq,vA,vC,rfl,u⟩:=HJ I;obtain⟨ws,e⟩:∃ws,ws=LO.cat.s:=⟨_,rfl⟩;rw[←e]at u;have T:=DJ e;refine Al.of_vc func18 rfl (call18 _) ?_;have c:=F;have d:=u;have r:o_ rb H H:=.refl
   repeat ((conv=>whnf);first | refine Af.run ?_ | refine F_ ?_ | refine B_ (d.bg.cellE rfl) trivial ?_ | refine B_ (d.bt.cellE rfl) trivial ?_)
   (conv=>whnf);refine Ag.ff (T.t0.trans rfl) ?_
   repeat (refine Af.run ?_)
   (conv=>whnf);refine Ag.ff (T.t1.trans rfl) ?_
   repeat (refine Af.run ?_)
   (conv=>whnf);refine Ag.ff (T.t3.trans rfl) ?_
   repeat (refine Af.run ?_)
   (conv=>whnf);refine Ag.tt (T.t10.trans rfl) ?_
   repeat ((conv=>whnf);first | refine Af.run ?_ | refine F_ ?_)
   refine Ak (K8 c.hB d hA hC (hcs rfl) hs) fun H3 a3=>?_;have j:=c.old a3;have D:=d.up (a3.mono c.hB);have f:o_ rb H H3:=r.trans (.old a3)
   repeat ((conv=>whnf);first | refine Af.run ?_ | refine F_ ?_)
   refine Ak (PV j.hB D e hA hC (hcv rfl) M) fun H4 a4=>?_;have l:=j.old a4;have m:=D.up (a4.mono j.hB);have O:o_ rb H H4:=f.trans (.old a4)
   repeat ((conv=>whnf);first | refine Af.run ?_ | refine F_ ?_ | refine B_ (m.bg.cellE rfl) trivial ?_)
   refine Aj.mk (ih1 l m.la (by omega) (by omega) (by omega)) ?_;rintro _ G1 ⟨rfl,J,P⟩;have K:=l.next J P (by omega)
   have E:=m.up (l.ag J);have R:=O.trans J
   repeat ((conv=>whnf);first | refine Af.run ?_ | refine F_ ?_ | refine B_ (E.bg.cellE rfl) trivial ?_)
   refine Aj.mk (ih2 K E.lc (by omega) (by omega) (by omega)) ?_;rintro _ G2 ⟨rfl,S,U⟩;have V:=F.k1;refine He (by unfold maxLen;omega) ?_;(conv=>whnf);rw[N,Ydw];exact⟨rfl,R.trans S,U⟩
theorem sk_c{L:LnM}{v s o:ByteArray}(h:Ev .sk L v s o):∀{B:Nat→Prop} {H:Aa} {rb k:Nat} {vl:v_},Dw B H rb k→M' B H L vl→s.size≤1048576→o.size≤k→
  Al prog 57 #[H_ rb,vl,.string s] H (F0 H rb (k-o.size) o):=by
 induction h with
 | @leaf p op n w q x y a b Q A C v s hop=>
   intro B H rb k vl t O hs P;obtain⟨g,gt,tl,vs,vv,vq,vA,vC,rfl,M⟩:=HJ O;obtain⟨ws,r⟩:∃ws,ws=op.s:=⟨_,rfl⟩;rw[←r]at M;have T:=DJ r;refine Al.of_vc func57 rfl (call57 _) (BL (St.nil H) [H_ rb] rfl fun z H1 F=>(BL F [H_ g] rfl fun D H2 c=>?_));have d:=t.old c.old;have l:=M.up (c.old.mono t.hB);have K:o_ rb H H2:=.old c.old;have u:=c.blk 0 rfl;have m:=c.blk 1 rfl;have U:z≠rb:=fun e=>(c.in_ 0 rfl (show z=z from rfl)).1 (by rw[e];exact t.bl.lt);have V:D≠rb:=fun e=>(c.in_ 1 rfl (show D=D from rfl)).1 (by rw[e];exact t.bl.lt);clear F c
   repeat ((conv=>whnf);first | refine Af.run ?_ | refine F_ ?_ | refine B_ (m.cellE rfl) trivial ?_ | refine B_ (l.bg.cellE rfl) trivial ?_ | refine B_ (l.bt.cellE rfl) trivial ?_)
   (conv=>whnf);cases op<;>first | (exact absurd hop (by decide)) | skip
   case copy=>
    refine Ag.ff (T.t1.trans rfl) ?_
    repeat (refine Af.run ?_)
    (conv=>whnf);refine Ag.ff (T.t10.trans rfl) ?_
    repeat (refine Af.run ?_)
    (conv=>whnf);refine Ag.ff (T.t11.trans rfl) ?_
    repeat (refine Af.run ?_)
    (conv=>whnf);refine Ag.ff (T.t9.trans rfl) ?_
    repeat (refine Af.run ?_)
    (conv=>whnf);refine Ag.ff (T.t8.trans rfl) ?_
    repeat (refine Af.run ?_)
    (conv=>whnf);refine Ag.ff (T.t7.trans rfl) ?_
    repeat (refine Af.run ?_)
    (conv=>whnf);refine Ag.ff (T.t4.trans rfl) ?_
    repeat (refine Af.run ?_)
    (conv=>whnf);refine Ag.ff (T.t5.trans rfl) ?_
    repeat (refine Af.run ?_)
    (conv=>whnf);refine Ag.ff (T.t6.trans rfl) ?_
    repeat (refine Af.run ?_)
    (conv=>whnf);refine Ag.ff (T.t12.trans rfl) ?_
    repeat (refine Af.run ?_)
    (conv=>whnf);exact⟨rfl,K,d.bl⟩
   case key=>
    refine Ag.tt (T.t1.trans rfl) ?_
    repeat ((conv=>whnf);first | refine Af.run ?_ | refine B_ (u.cellE rfl) trivial ?_ | refine F_ ?_)
    refine Aj.mk (Fh d P) ?_;rintro _ G ⟨rfl,R,X⟩;(conv=>whnf);exact⟨rfl,K.trans R,X⟩
   case ins=>
    refine Ag.ff (T.t1.trans rfl) ?_
    repeat (refine Af.run ?_)
    (conv=>whnf);refine Ag.ff (T.t10.trans rfl) ?_
    repeat (refine Af.run ?_)
    (conv=>whnf);refine Ag.ff (T.t11.trans rfl) ?_
    repeat (refine Af.run ?_)
    (conv=>whnf);refine Ag.ff (T.t9.trans rfl) ?_
    repeat (refine Af.run ?_)
    (conv=>whnf);refine Ag.ff (T.t8.trans rfl) ?_
    repeat (refine Af.run ?_)
    (conv=>whnf);refine Ag.ff (T.t7.trans rfl) ?_
    repeat (refine Af.run ?_)
    (conv=>whnf);refine Ag.ff (T.t4.trans rfl) ?_
    repeat (refine Af.run ?_)
    (conv=>whnf);refine Ag.ff (T.t5.trans rfl) ?_
    repeat (refine Af.run ?_)
    (conv=>whnf);refine Ag.ff (T.t6.trans rfl) ?_
    repeat (refine Af.run ?_)
    (conv=>whnf);refine Ag.ff (T.t12.trans rfl) ?_
    repeat (refine Af.run ?_)
    (conv=>whnf);exact⟨rfl,K,d.bl⟩
   case del=>
    refine Ag.ff (T.t1.trans rfl) ?_
    repeat (refine Af.run ?_)
    (conv=>whnf);refine Ag.ff (T.t10.trans rfl) ?_
    repeat (refine Af.run ?_)
    (conv=>whnf);refine Ag.ff (T.t11.trans rfl) ?_
    repeat (refine Af.run ?_)
    (conv=>whnf);refine Ag.ff (T.t9.trans rfl) ?_
    repeat (refine Af.run ?_)
    (conv=>whnf);refine Ag.ff (T.t8.trans rfl) ?_
    repeat (refine Af.run ?_)
    (conv=>whnf);refine Ag.ff (T.t7.trans rfl) ?_
    repeat (refine Af.run ?_)
    (conv=>whnf);refine Ag.ff (T.t4.trans rfl) ?_
    repeat (refine Af.run ?_)
    (conv=>whnf);refine Ag.ff (T.t5.trans rfl) ?_
    repeat (refine Af.run ?_)
    (conv=>whnf);refine Ag.ff (T.t6.trans rfl) ?_
    repeat (refine Af.run ?_)
    (conv=>whnf);refine Ag.ff (T.t12.trans rfl) ?_
    repeat (refine Af.run ?_)
    (conv=>whnf);exact⟨rfl,K,d.bl⟩
 | @cat p n w q x y a b Q A C v1 v2 F c o1 o2 hA hC hcs hcv e1 e2 ih1 ih2=>
   intro B H rb k vl t O hs P;have W:(o1++o2).size=o1.size+o2.size:=ByteArray.size_append;have sv:(v1++v2).size=v1.size+v2.size:=ByteArray.size_append;have ss:(F++c).size=F.size+c.size:=ByteArray.size_append;rw[W]at P;obtain⟨g,gt,tl,vs,vv,vq,vA,vC,rfl,M⟩:=HJ O;obtain⟨ws,r⟩:∃ws,ws=LO.cat.s:=⟨_,rfl⟩;rw[←r]at M;have T:=DJ r;refine Al.of_vc func57 rfl (call57 _) (BL (St.nil H) [H_ rb] rfl fun z H1 F=>(BL F [H_ g] rfl fun D H2 c=>?_));have d:=t.old c.old;have l:=M.up (c.old.mono t.hB);have K:o_ rb H H2:=.old c.old;have u:=c.blk 0 rfl;have m:=c.blk 1 rfl;have U:z≠rb:=fun e=>(c.in_ 0 rfl (show z=z from rfl)).1 (by rw[e];exact t.bl.lt);have V:D≠rb:=fun e=>(c.in_ 1 rfl (show D=D from rfl)).1 (by rw[e];exact t.bl.lt);clear F c
   repeat ((conv=>whnf);first | refine Af.run ?_ | refine F_ ?_ | refine B_ (m.cellE rfl) trivial ?_ | refine B_ (l.bg.cellE rfl) trivial ?_ | refine B_ (l.bt.cellE rfl) trivial ?_)
   (conv=>whnf);refine Ag.ff (T.t1.trans rfl) ?_
   repeat (refine Af.run ?_)
   (conv=>whnf);refine Ag.tt (T.t10.trans rfl) ?_
   repeat ((conv=>whnf);first | refine Af.run ?_ | refine B_ (m.cellE rfl) trivial ?_ | refine F_ ?_)
   refine Ak (K8 d.hB l hA hC (hcs rfl) hs) fun H3 a3=>?_;have I:=d.old a3;have E:=l.up (a3.mono d.hB);have R:o_ rb H H3:=K.trans (.old a3);replace u:=u.agr a3 u.lt;replace m:=m.agr a3 m.lt
   repeat (refine Af.run ?_)
   refine Au.heldZ (fun j=>j=z∨j=D∨B j) [6,7] (sq [0,1,2,3,4,5] (.f 6 (.f 7 .e))) rfl (by kernel_rfl) ?_
   repeat ((conv=>whnf);first | refine F_ ?_ | refine B_ (u.cellE rfl) (.inl rfl) ?_ | refine B_ (m.cellE rfl) (.inr (.inl rfl)) ?_ | refine B_ (E.bg.cellE rfl) (.inr (.inr E.gB)) ?_)
   refine Aj.mk (ih1 I E.la (by omega) (by omega)) ?_;rintro _ G1 ⟨rfl,N,Y⟩;have S:=I.next N Y (by omega)
   have J:=E.up (I.ag N);have Z:=R.trans N;replace u:=u.agr N.ag ⟨u.lt,U⟩;replace m:=m.agr N.ag ⟨m.lt,V⟩
   repeat (refine Af.run ?_)
   refine Au.heldM (fun j=>j=z∨j=D∨B j) [0,7,8,9] [0,8] (sq [0,1,2,3,4,5,6] (.f 7 (sq [8] (.f 9 .e)))) rfl (by kernel_rfl) ?_
   repeat ((conv=>whnf);first | refine F_ ?_ | refine B_ (u.cellE rfl) (.inl rfl) ?_ | refine B_ (m.cellE rfl) (.inr (.inl rfl)) ?_ | refine B_ (J.bg.cellE rfl) (.inr (.inr J.gB)) ?_)
   refine Aj.mk (ih2 S J.lc (by omega) (by omega)) ?_;rintro _ G2 ⟨rfl,y2,d2⟩;have a0:=t.k1;refine He (by unfold maxLen;omega) ?_;(conv=>whnf);rw[W,Ydw];exact⟨rfl,Z.trans y2,d2⟩
theorem vk_c{L:LnM}{v s o:ByteArray}(h:Ev .vk L v s o):∀{B:Nat→Prop} {H:Aa} {rb k:Nat} {vl:v_},Dw B H rb k→M' B H L vl→v.size≤1048576→o.size≤k→
  Al prog 56 #[H_ rb,vl,.string v] H (F0 H rb (k-o.size) o):=by
 induction h with
 | @leaf p op n w q x y a b Q A C v s hop=>
   intro B H rb k vl t O U P;obtain⟨g,gt,tl,vs,vv,vq,vA,vC,rfl,M⟩:=HJ O;obtain⟨ws,m⟩:∃ws,ws=op.s:=⟨_,rfl⟩;rw[←m]at M;have T:=DJ m;refine Al.of_vc func56 rfl (call56 _) (BL (St.nil H) [H_ rb] rfl fun z H1 F=>(BL F [H_ g] rfl fun D H2 c=>?_));have d:=t.old c.old;have l:=M.up (c.old.mono t.hB);have K:o_ rb H H2:=.old c.old;have u:=c.blk 0 rfl;have r:=c.blk 1 rfl;have V:z≠rb:=fun e=>(c.in_ 0 rfl (show z=z from rfl)).1 (by rw[e];exact t.bl.lt);have W:D≠rb:=fun e=>(c.in_ 1 rfl (show D=D from rfl)).1 (by rw[e];exact t.bl.lt);clear F c
   repeat ((conv=>whnf);first | refine Af.run ?_ | refine F_ ?_ | refine B_ (r.cellE rfl) trivial ?_ | refine B_ (l.bg.cellE rfl) trivial ?_ | refine B_ (l.bt.cellE rfl) trivial ?_)
   (conv=>whnf);cases op<;>first | (exact absurd hop (by decide)) | skip
   case copy=>
    refine Ag.ff (T.t1.trans rfl) ?_
    repeat (refine Af.run ?_)
    (conv=>whnf);refine Ag.ff (T.t10.trans rfl) ?_
    repeat (refine Af.run ?_)
    (conv=>whnf);refine Ag.ff (T.t11.trans rfl) ?_
    repeat (refine Af.run ?_)
    (conv=>whnf);refine Ag.ff (T.t9.trans rfl) ?_
    repeat (refine Af.run ?_)
    (conv=>whnf);refine Ag.ff (T.t8.trans rfl) ?_
    repeat (refine Af.run ?_)
    (conv=>whnf);refine Ag.ff (T.t7.trans rfl) ?_
    repeat (refine Af.run ?_)
    (conv=>whnf);refine Ag.ff (T.t5.trans rfl) ?_
    repeat (refine Af.run ?_)
    (conv=>whnf);refine Ag.ff (T.t4.trans rfl) ?_
    repeat (refine Af.run ?_)
    (conv=>whnf);refine Ag.ff (T.t6.trans rfl) ?_
    repeat (refine Af.run ?_)
    (conv=>whnf);refine Ag.ff (T.t12.trans rfl) ?_
    repeat (refine Af.run ?_)
    (conv=>whnf);exact⟨rfl,K,d.bl⟩
   case key=>
    refine Ag.tt (T.t1.trans rfl) ?_
    repeat ((conv=>whnf);first | refine Af.run ?_ | refine B_ (u.cellE rfl) trivial ?_ | refine F_ ?_)
    refine Aj.mk (Fh d P) ?_;rintro _ G ⟨rfl,R,Y⟩;(conv=>whnf);exact⟨rfl,K.trans R,Y⟩
   case ins=>
    refine Ag.ff (T.t1.trans rfl) ?_
    repeat (refine Af.run ?_)
    (conv=>whnf);refine Ag.ff (T.t10.trans rfl) ?_
    repeat (refine Af.run ?_)
    (conv=>whnf);refine Ag.ff (T.t11.trans rfl) ?_
    repeat (refine Af.run ?_)
    (conv=>whnf);refine Ag.ff (T.t9.trans rfl) ?_
    repeat (refine Af.run ?_)
    (conv=>whnf);refine Ag.ff (T.t8.trans rfl) ?_
    repeat (refine Af.run ?_)
    (conv=>whnf);refine Ag.ff (T.t7.trans rfl) ?_
    repeat (refine Af.run ?_)
    (conv=>whnf);refine Ag.ff (T.t5.trans rfl) ?_
    repeat (refine Af.run ?_)
    (conv=>whnf);refine Ag.ff (T.t4.trans rfl) ?_
    repeat (refine Af.run ?_)
    (conv=>whnf);refine Ag.ff (T.t6.trans rfl) ?_
    repeat (refine Af.run ?_)
    (conv=>whnf);refine Ag.ff (T.t12.trans rfl) ?_
    repeat (refine Af.run ?_)
    (conv=>whnf);exact⟨rfl,K,d.bl⟩
   case del=>
    refine Ag.ff (T.t1.trans rfl) ?_
    repeat (refine Af.run ?_)
    (conv=>whnf);refine Ag.ff (T.t10.trans rfl) ?_
    repeat (refine Af.run ?_)
    (conv=>whnf);refine Ag.ff (T.t11.trans rfl) ?_
    repeat (refine Af.run ?_)
    (conv=>whnf);refine Ag.ff (T.t9.trans rfl) ?_
    repeat (refine Af.run ?_)
    (conv=>whnf);refine Ag.ff (T.t8.trans rfl) ?_
    repeat (refine Af.run ?_)
    (conv=>whnf);refine Ag.ff (T.t7.trans rfl) ?_
    repeat (refine Af.run ?_)
    (conv=>whnf);refine Ag.ff (T.t5.trans rfl) ?_
    repeat (refine Af.run ?_)
    (conv=>whnf);refine Ag.ff (T.t4.trans rfl) ?_
    repeat (refine Af.run ?_)
    (conv=>whnf);refine Ag.ff (T.t6.trans rfl) ?_
    repeat (refine Af.run ?_)
    (conv=>whnf);refine Ag.ff (T.t12.trans rfl) ?_
    repeat (refine Af.run ?_)
    (conv=>whnf);exact⟨rfl,K,d.bl⟩
 | @cat p n w q x y a b Q A C v1 v2 F c o1 o2 hA hC hcs hcv e1 e2 ih1 ih2=>
   intro B H rb k vl t O U P;have X:(o1++o2).size=o1.size+o2.size:=ByteArray.size_append;have sv:(v1++v2).size=v1.size+v2.size:=ByteArray.size_append;have ss:(F++c).size=F.size+c.size:=ByteArray.size_append;rw[X]at P;obtain⟨g,gt,tl,vs,vv,vq,vA,vC,rfl,M⟩:=HJ O;obtain⟨ws,m⟩:∃ws,ws=LO.cat.s:=⟨_,rfl⟩;rw[←m]at M;have T:=DJ m;refine Al.of_vc func56 rfl (call56 _) (BL (St.nil H) [H_ rb] rfl fun z H1 F=>(BL F [H_ g] rfl fun D H2 c=>?_));have d:=t.old c.old;have l:=M.up (c.old.mono t.hB);have K:o_ rb H H2:=.old c.old;have u:=c.blk 0 rfl;have r:=c.blk 1 rfl;have V:z≠rb:=fun e=>(c.in_ 0 rfl (show z=z from rfl)).1 (by rw[e];exact t.bl.lt);have W:D≠rb:=fun e=>(c.in_ 1 rfl (show D=D from rfl)).1 (by rw[e];exact t.bl.lt);clear F c
   repeat ((conv=>whnf);first | refine Af.run ?_ | refine F_ ?_ | refine B_ (r.cellE rfl) trivial ?_ | refine B_ (l.bg.cellE rfl) trivial ?_ | refine B_ (l.bt.cellE rfl) trivial ?_)
   (conv=>whnf);refine Ag.ff (T.t1.trans rfl) ?_
   repeat (refine Af.run ?_)
   (conv=>whnf);refine Ag.tt (T.t10.trans rfl) ?_
   repeat ((conv=>whnf);first | refine Af.run ?_ | refine B_ (r.cellE rfl) trivial ?_ | refine F_ ?_)
   refine Ak (PV d.hB l m hA hC (hcv rfl) U) fun H3 a3=>?_;have I:=d.old a3;have E:=l.up (a3.mono d.hB);have R:o_ rb H H3:=K.trans (.old a3);replace u:=u.agr a3 u.lt;replace r:=r.agr a3 r.lt
   repeat (refine Af.run ?_)
   refine Au.heldZ (fun j=>j=z∨j=D∨B j) [6,7] (sq [0,1,2,3,4,5] (.f 6 (.f 7 .e))) rfl (by kernel_rfl) ?_
   repeat ((conv=>whnf);first | refine F_ ?_ | refine B_ (u.cellE rfl) (.inl rfl) ?_ | refine B_ (r.cellE rfl) (.inr (.inl rfl)) ?_ | refine B_ (E.bg.cellE rfl) (.inr (.inr E.gB)) ?_)
   refine Aj.mk (ih1 I E.la (by omega) (by omega)) ?_;rintro _ G1 ⟨rfl,N,Z⟩;have S:=I.next N Z (by omega)
   have J:=E.up (I.ag N);have xG:=R.trans N;replace u:=u.agr N.ag ⟨u.lt,V⟩;replace r:=r.agr N.ag ⟨r.lt,W⟩
   repeat (refine Af.run ?_)
   refine Au.heldM (fun j=>j=z∨j=D∨B j) [0,7,8,9] [0,8] (sq [0,1,2,3,4,5,6] (.f 7 (sq [8] (.f 9 .e)))) rfl (by kernel_rfl) ?_
   repeat ((conv=>whnf);first | refine F_ ?_ | refine B_ (u.cellE rfl) (.inl rfl) ?_ | refine B_ (r.cellE rfl) (.inr (.inl rfl)) ?_ | refine B_ (J.bg.cellE rfl) (.inr (.inr J.gB)) ?_)
   refine Aj.mk (ih2 S J.lc (by omega) (by omega)) ?_;rintro _ G2 ⟨rfl,y2,d2⟩;have a0:=t.k1;refine He (by unfold maxLen;omega) ?_;(conv=>whnf);rw[X,Ydw];exact⟨rfl,xG.trans y2,d2⟩
def same(a b:ByteArray):Bool:=decide (a.data.toList=b.data.toList)
theorem PB{a b:ByteArray}:same a b=true↔a=b:=by
 unfold same;rw[Zzj];exact⟨Ds,fun h=>by rw[h]⟩
theorem Gx(a:ByteArray):same a a=true:=PB.2 rfl
theorem PC{a b:ByteArray}(h:a≠b):same a b=false:=by
 cases hs:same a b with
 | false=>rfl
 | true=>exact absurd (PB.1 hs) h
theorem KG(a b:ByteArray):(a.toList==b.toList)=same a b:=RF a b
def AA(source:List ByteArray)(i:Nat)(k:ByteArray):List Nat:=(AhM i).filter fun j=>(source[j]?).any fun x=>same x k
def AU(view:List ByteArray)(i:Nat)(k:ByteArray):Nat:=((view.take i).filter fun x=>same x k).length
def Jg(view source:List ByteArray)(i:Nat):Int:=
 match view[i]? with
 | none=>0
 | some k=>match(AA source source.length k)[AU view i k]? with
   | none=> -1
   | some p=>(p:Int)
def Di(view source:List ByteArray):List Int:=(AhM view.length).map (Jg view source)
theorem Rf{a:List ByteArray}{i:Nat}{x:ByteArray}(h:a[i]?=some x)(k:ByteArray):AA a (i+1) k=if same x k then AA a i k++[i]else AA a i k:=by
 unfold AA;rw[List.range_succ,Yce];cases hs:same x k<;>simp[h,hs]
theorem KQ{view:List ByteArray}{i:Nat}{x:ByteArray}(h:view[i]?=some x)(k:ByteArray):AU view (i+1) k=AU view i k+if same x k then 1 else 0:=by
 unfold AU;rw[Ai h,Yce];cases hs:same x k<;>simp[hs]
theorem VE{a:List ByteArray}{i:Nat}{k:ByteArray}:∀p∈AA a i k,p<i:=by
 intro p b;unfold AA at b;exact Ych.1 (YbV.1 b).1
def B9(l:List Nat):List Int:=l.map fun(n:Nat)=>(n:Int)
theorem X3:Qh prog 192 9 193 .string (.slice none 0 0):=⟨rfl,rfl,rfl⟩
theorem Zk(va sa:Option Addr)(vc sc:Nat)(view d:List ByteArray)(S:Nat→Prop)(H:Aa)(hS:∀k,S k→k<H.size)(hv:S_ Cp S H va vc view)(hs:S_ Cp S H sa sc d)(nv:view.length≤4194304)(ns:d.length≤4194304):
  Al prog 58 #[.slice va view.length vc,.slice sa d.length sc] H fun v H'=>A_ (D_ H) H H'∧H.size≤H'.size∧∃b,v= .slice (b_ b) view.length view.length∧H.size≤b∧
   M_ tI (fun _=>False) H' H.size 3 v (Di view d):=by
 refine Al.of_vc func58 rfl (call58 _) (QW (enc:=Value.string) ?_);intro mb H1 bx bz au aw;(conv=>whnf);refine A8.mk [15] (fun i:Nat=>[C_ i]) (fun i H2=>i≤d.length∧A_ (fun j=>j<mb) H1 H2∧H1.size≤H2.size∧∃m,Qs Value.string tI H2 (mb+1) 3 mb m (fun k=>B9 (AA d i k))) (fun i _=>d.length-i) ?_ ?_
 ·(conv=>whnf);exact⟨0,rfl,by omega,A_.refl _ _,by omega,_,(Qs.new au (by omega)).ext fun k=>rfl⟩
 ·rintro i H2 ae ⟨hi,ah,c2,m,W⟩;have F:A_ (D_ H) H H2:=(aw.mono fun j g=>by unfold D_ at g;omega).trans (ah.mono fun j g=>by unfold D_ at g;omega);refine Ag.m2 (fun h=>?_) (fun h=>?_)
  ·have⟨x,X⟩:=Am (l:=d) (k:=i) (by omega);refine u_ DO (hs.frame (F.mono hS)) X rfl ?_;rintro b3 o3 c3 bn G ⟨rfl,ay⟩;refine B_ G.one trivial (X8 (a:=x) X3 Zae W.map trivial ?_);have bo:=W.own x;have bp:(B9 (AA d i x)).length≤i:=by
    unfold B9 AA;rw[Z_];exact YbC (Ycg _ _) (by simp)
   refine Az UC [C_ i] rfl rfl (by decide) (by decide) ?_;intro q4 H4 c4 az b4 A;have b6:=W.map.lt;have I:=W.agr A (by omega) (fun b _ Q=>by omega);refine BG (T:=tI) (S:=fun _=>False) (ys:=[(i:Int)]) (ds:=[C_ i]) (lo:=mb+1) (xs:=B9 (AA d i x)) UC (I.own x) (by omega) (fun k B=>B.elim)
    (b4.cells (fun j v hv=>by simpa using hv)) (Ty.reps_one ⟨rfl,Co (by omega)⟩) rfl (by intro u hu;cases V_.1 hu;rfl) (by simp only[maxLen,k_];omega) (by simp only[k_];omega) ?_
   intro v5 H5 Y Z c5 J;have ai:mb<H4.size∧¬N_ (Cl m x) mb:=⟨by omega,fun Q=>by have:=((I.own x).lt Q).1;omega⟩;refine AeN (a:=x) X3 Zae (I.map.agr Z ai) ?_;intro H6 b7 aj c6;have b9:=I.push Y Z J b7 aj;(conv=>whnf);rw[R_ i (by omega)];refine⟨rfl,i+1,by simp,⟨by omega,?_,by omega,_,b9.ext fun k=>?_⟩,by omega⟩
   ·exact((ah.trans (A.mono fun j g=>by omega)).trans (Z.mono fun j g=>⟨by omega,fun Q=>by have:=((I.own x).lt Q).1;omega⟩)).trans (aj.mono fun j g=>by omega)
   ·rw[Rf X];by_cases B:k=x
    ·subst B;rw[Ib,Gx,I_ rfl];simp[B9]
    ·rw[No B,PC (Ne.symm B)];rfl
  ·obtain rfl:i=d.length:=by omega
   have b6:=W.map.lt;refine D1 AO rfl (by omega) (by omega) (by omega) (by omega) ?_;intro nb H3 c7 c8 ak a0;rw[Yau]at ak;(conv=>whnf);refine A8.mk [34] (fun i:Nat=>[C_ i]) (fun i H4=>i≤view.length∧A_ (fun j=>j<H3.size∧j≠nb∧j≠mb) H3 H4∧H3.size=H4.size∧(∃m,Dm Value.string H4 mb m∧
    ∀k,∃a cap,Cl m k= .slice a ((B9 (AA d d.length k)).drop (AU view i k)).length cap∧S_ tI (fun j=>mb<j∧j<nb) H4 a cap ((B9 (AA d d.length k)).drop (AU view i k)))∧
    M_ tI (fun _=>False) H4 H.size 3 (.slice (b_ nb) view.length view.length) ((Di view d).take i++AlO ((Di view d).length-i) 0)) (fun i _=>view.length-i) ?_ ?_
   ·(conv=>whnf);have a5:(Di view d).length=view.length:=by simp[Di]
    refine⟨0,rfl,by omega,A_.refl _ _,rfl,⟨m,W.map.agr a0 (by omega),fun k=>?_⟩,?_⟩
    ·have⟨a,cap,h1,h2⟩:=W.view k;rw[show AU view 0 k=0 by simp[AU],List.drop_zero];exact⟨a,cap,h1,(h2.frame (a0.mono fun j g=>by omega)).mono fun j g=>by omega⟩
    ·rw[Ms,a5];exact M_.made (T:=tI) (v:=(0:Int)) (c:=[C_ 0]) (by omega) (by simpa using ak) ⟨rfl,Co (x:=0) (by decide)⟩ (by unfold maxLen;omega)
   ·rintro i H4 ae ⟨hi,A,az,⟨m4,a6,am⟩,E⟩;have a5:(Di view d).length=view.length:=by simp[Di]
    have ao:A_ (D_ H) H H4:=(F.trans (a0.mono fun j g=>by have:=Ae F g;omega)).trans (A.mono fun j g=>by have:=Ae F g;unfold D_ at g;omega);refine Ag.m2 (fun h=>?_) (fun h=>?_)
    ·have⟨x,X⟩:=Am (l:=view) (k:=i) (by omega);have w:Jg view d i=(match(AA d d.length x)[AU view i x]? with | none=> -1 | some p=>(p:Int)):=by unfold Jg;rw[X]
     have R:(Di view d)[i]?=some (Jg view d i):=by
      unfold Di;rw[t_,Ybf (by omega)];rfl
     refine Af.run (u_ DO (hv.frame (ao.mono hS)) X rfl ?_);rintro b5 o5 c9 bq K ⟨rfl,ay⟩;refine B_ K.one trivial (X8 (a:=x) X3 Zae a6 trivial ?_);have⟨qa,qc,e1,O⟩:=am x;rw[show(m4 x).getD (.slice none 0 0)=Cl m4 x from rfl,e1];have P:∀k,k≠x→AU view (i+1) k=AU view i k:=fun k B=>by rw[KQ X,PC (Ne.symm B)];rfl
     have a7:AU view (i+1) x=AU view i x+1:=by rw[KQ X,Gx];rfl
     have cb:((B9 (AA d d.length x)).drop (AU view i x)).length=(AA d d.length x).length-AU view i x:=by simp[B9]
     have cd:(AA d d.length x).length≤d.length:=by
      unfold AA;exact YbC (Ycg _ _) (by simp)
     have a8:∀{H8:Aa} {m8:ByteArray→Option v_},Dm Value.string H8 mb m8→(∀k,k≠x→Cl m8 k=Cl m4 k)→(∃a cap,Cl m8 x= .slice a ((B9 (AA d d.length x)).drop (AU view (i+1) x)).length cap∧S_ tI (fun j=>mb<j∧j<nb) H8 a cap ((B9 (AA d d.length x)).drop (AU view (i+1) x)))→
       A_ (fun j=>mb<j∧j<nb) H4 H8→∃m,Dm Value.string H8 mb m∧∀k,∃a cap,Cl m k= .slice a ((B9 (AA d d.length k)).drop (AU view (i+1) k)).length cap∧S_ tI (fun j=>mb<j∧j<nb) H8 a cap ((B9 (AA d d.length k)).drop (AU view (i+1) k)):=by
      intro H8 m8 h1 h2 h3 h4;refine⟨m8,h1,fun k=>?_⟩;by_cases B:k=x
      ·subst B;exact h3
      ·rw[h2 k B,P k B];have⟨a,cap,h5,h6⟩:=am k;exact⟨a,cap,h5,h6.frame h4⟩
     have ce:i*tI.size=i:=Nat.mul_one i;have br:tI.size=1:=rfl;obtain⟨-,-,bu,l7,L,bd,-,M⟩:=E.placeS (i:=i) (by rw[Mu (by omega)];omega);have U:i*tI.size<l7.length:=by omega
     refine Ag.mk (fun h0=>?_) (fun h0=>?_)
     ·have ab:(AA d d.length x).length≤AU view i x:=by
       have:(((B9 (AA d d.length x)).drop (AU view i x)).length:Int)=0:=by simpa using h0
       omega
      rw[YaE ab]at w;replace w:Jg view d i= -1:=w;refine ix AO (by omega) (by omega) (st1 L (by omega) rfl ?_);intro H8 C r be;rw[show 0+(i:Int).toNat*1=i*tI.size by show 0+(i:Int).toNat*1=i*1;omega]at C;have q:=M H8 [C_ (-1)] (-1) (by rw[←C6 U]at C;exact C) (fun j g=>g.elim) ⟨rfl,by decide,by decide⟩;rw[←w,HH R]at q;(conv=>whnf);rw[R_ i (by omega)];refine⟨rfl,i+1,by simp,⟨by omega,A.trans (r.mono fun j g=>by omega),by omega,a8 (a6.agr r (by omega)) (fun k _=>rfl) ⟨qa,qc,?_,?_⟩ (r.mono fun j g=>by omega),q⟩,by omega⟩
      ·rw[e1,Ycn (by simp[B9];omega),Ycn (by simp[B9];omega)]
      ·rw[Ycn (by simp[B9];omega)];rw[Ycn (by simp[B9];omega)]at O;exact O.frame (r.mono fun j g=>by omega)
     ·have ab:AU view i x<(AA d d.length x).length:=by
       have:¬(((B9 (AA d d.length x)).drop (AU view i x)).length:Int)=0:=by simpa using h0
       omega
      have⟨p,hp⟩:=Am ab;have bv:=VE p (d_ hp);rw[hp]at w;replace w:Jg view d i=(p:Int):=w;have bf:((B9 (AA d d.length x)).drop (AU view i x))[0]?=some (p:Int):=by
       rw[List.getElem?_drop,Nat.add_zero];simp[B9,hp]
      refine u_ UC O bf rfl ?_;rintro b8 o8 cg bw N ⟨rfl,-⟩;refine B_ N.one trivial (ix AO (by omega) (by omega) (st1 L (by omega) rfl ?_));intro H8 C r be;rw[show 0+(i:Int).toNat*1=i*tI.size by show 0+(i:Int).toNat*1=i*1;omega]at C;have q:=M H8 [C_ p] (p:Int) (by rw[←C6 U]at C;exact C) (fun j g=>g.elim) ⟨rfl,Co (by omega)⟩;rw[←w,HH R]at q;have ap:=a6.agr r (show mb≠nb by omega);have t:(B9 (AA d d.length x)).drop (AU view (i+1) x)=((B9 (AA d d.length x)).drop (AU view i x)).drop 1:=by
       rw[a7,List.drop_drop]
      refine Ag.mk (fun h1=>?_) (fun h1=>?_)
      ·have ch:((B9 (AA d d.length x)).drop (AU view i x)).length=1:=by
        have:(((B9 (AA d d.length x)).drop (AU view i x)).length:Int)=1:=by simpa using h1
        omega
       have V:((B9 (AA d d.length x)).drop (AU view i x)).drop 1=[]:=Ycn (by omega);refine mdel (a:=x) X3 Zae ap rfl ?_;intro H9 ad y bh;have D:=q.agr y (fun b Q=>by have⟨o,n,c,e⟩:=Q;cases e;omega) (fun _ f=>f.elim);(conv=>whnf);rw[R_ i (by omega)];refine⟨rfl,i+1,by simp,⟨by omega,(A.trans (r.mono fun j g=>by omega)).trans (y.mono fun j g=>by omega),by omega,a8 ad (fun k B=>ES B) ⟨none,0,?_,?_⟩ ((r.mono fun j g=>by omega).trans (y.mono fun j g=>by omega)),D⟩,by omega⟩
       ·rw[t,V];simp[Cl,Bw]
       ·rw[t,V];exact⟨rfl,rfl⟩
      ·refine Ad1 (l:=1) UC (O.frame (r.mono fun j g=>by omega)) rfl (by omega) fun a9 bj=>(AeN (a:=x) X3 Zae ap ?_);intro H9 ad y bh;have D:=q.agr y (fun b Q=>by have⟨o,n,c,e⟩:=Q;cases e;omega) (fun _ f=>f.elim);(conv=>whnf);rw[R_ i (by omega)];refine⟨rfl,i+1,by simp,⟨by omega,(A.trans (r.mono fun j g=>by omega)).trans (y.mono fun j g=>by omega),by omega,a8 ad (fun k B=>ES B) ⟨a9,qc-1,?_,?_⟩ ((r.mono fun j g=>by omega).trans (y.mono fun j g=>by omega)),D⟩,by omega⟩
       ·rw[t,Fw]
       ·rw[t];exact bj.frame (y.mono fun j g=>by omega)
    ·obtain rfl:i=view.length:=by omega
     (conv=>whnf);have aq:=Mt (l:=Di view d) (z:=(0:Int));rw[a5]at aq E;rw[aq]at E;exact⟨ao,by have:=Ap F;omega,nb,rfl,by have:=Ap F;omega,E⟩
section
variable{B:Nat→Prop}{H:Aa}{g gt p rb k:Nat}{ws:ByteArray}{n:Option ReM}{w:ByteArray}{tl:List v_}{a b:ReM}{A C:LnM}{vs vv vq vA vC vl:v_}{v s o:ByteArray}
structure PeM(H:Aa)(rb g q1 q2 q9 q11:Nat)(xs:List ByteArray)(F:List Int):Prop where
 b0:K_ H q1 44 [H_ rb]
 b1:K_ H q2 24 [H_ g]
 n0:q1≠rb
 n1:q2≠rb
 n9:q9≠rb
 n11:q11≠rb
 xs:∃xa xc,K_ H q9 22 [.slice xa xs.length xc]∧S_ Cp (E6 rb H) H xa xc xs
 fs:∃fa fc,K_ H q11 23 [.slice fa F.length fc]∧S_ tI (E6 rb H) H fa fc F
theorem PeM.ag{d e f a:Nat}{xs:List ByteArray}{F:List Int}{G:Aa}(h:PeM H rb g d e f a xs F)(x:o_ rb H G):PeM G rb g d e f a xs F:=by
 obtain⟨k,l,m,n,p,b,⟨t,u,q,w⟩,fa,fc,c,y⟩:=h;have up:∀j,E6 rb H j→E6 rb G j:=fun j r=>⟨Ybq r.1 x.sz,r.2⟩;exact⟨k.agr x.ag ⟨k.lt,m⟩,l.agr x.ag ⟨l.lt,n⟩,m,n,p,b,⟨t,u,q.agr x.ag ⟨q.lt,p⟩,(w.frame x.ag).mono up⟩,fa,fc,c.agr x.ag ⟨c.lt,b⟩,(y.frame x.ag).mono up⟩
theorem Af4{z D E d i f:Nat}{xs:List ByteArray}{F:List Int}(h:PeM H rb g z D E d xs F)(I:F[i]?=some (f:Int))(M:xs[f]?=some s)(N:Dw B H rb k)(l:LeM B H g gt p ws n w tl a b A C vs vv vq vA vC)(O:Ev .put A v s o)(P:v.size≤1048576)(hs:s.size≤1048576)(Q:o.size≤k):
  Al prog 59 #[C_ i,.string v,H_ d,H_ z,H_ D,H_ E] H (F0 H rb (k-o.size) o):=by
 obtain⟨J,K,W,X,Y,R,⟨Z,xc,L,m⟩,fa,fc,c,j⟩:=h;refine Al.of_vc func59 rfl (call59 _) ?_
 repeat ((conv=>whnf);first | refine Af.run ?_ | refine B_ (c.cellE rfl) trivial ?_)
 refine u_ AO j I rfl ?_;rintro b3 o3 S T q ⟨rfl,-⟩;refine lT q.one ?_
 repeat (refine Af.run ?_)
 refine Au.heldZ (D_ H) [13,14] (sq [0,1,2,3,4,5,6,7,8,9,10,11,12] (.f 13 (.f 14 .e))) rfl (by kernel_rfl) ?_
 repeat ((conv=>whnf);first | refine F_ ?_ | refine B_ (J.cellE rfl) J.lt ?_ | refine B_ (K.cellE rfl) K.lt ?_ | refine B_ (l.bg.cellE rfl) l.bg.lt ?_ | refine B_ (L.cellE rfl) L.lt ?_ | refine B_ (c.cellE rfl) c.lt ?_)
 refine u_ AO j I rfl ?_;rintro b4 o4 U r t ⟨rfl,-⟩;refine B_ t.one r.1 (u_ DO m M rfl ?_);rintro b5 o5 V u y ⟨rfl,-⟩;refine B_ y.one u.1 (Aj.mk (AhZ O N l.la P hs Q) ?_);rintro _ G h;have e:=h.e;subst e;(conv=>whnf);exact⟨rfl,h.x,h.bl⟩
theorem Af3{m q r d c:Nat}{pa:Option Addr}{xs ys os:List ByteArray}{F:List Int}(h:PeM H rb g m q r d xs F)(l:Dw B H rb k)(E:LeM B H g gt p ws n w tl a b A C vs vv vq vA vC)(hd:S_ Cp (E6 rb H) H pa c ys)(e:os.length=ys.length)(t:ys.length≤1048576)
  (u:∀(i:Nat) (y o:ByteArray),ys[i]?=some y→os[i]?=some o→∃(f:Nat) (x:ByteArray),F[i]?=some (f:Int)∧xs[f]?=some x∧Ev .put A y x o∧y.size≤1048576∧x.size≤1048576) (I:(AS os).size≤k):
  Al prog 29 #[.slice pa ys.length c,.func (.func 59) #[] #[H_ d,H_ m,H_ q,H_ r]] H (F0 H rb (k-(AS os).size) (AS os)):=by
 refine Sp (f:=59) (first:= #[]) (cap:= #[H_ d,H_ m,H_ q,H_ r]) l (fun j J=>J) hd e t I (fun i y o K z G j D L M N=>?_);have⟨f,x,O,P,Q,R,hs⟩:=u i y o K z;exact Af4 (h.ag D) O P ⟨fun i S=>Ybq (l.hB i S) D.sz,l.rn,L,N⟩ (E.up (l.ag D)) Q R hs M
end
def Ff(n m i:Nat):List Int:=(AhM n).map fun j=>if j<i then(if m≤j then -1 else(j:Int))else 0
theorem Ip(n m i:Nat):(Ff n m i).length=n:=by simp[Ff]
theorem Sw(n m:Nat):Ff n m 0=AlO n 0:=by
 unfold Ff;rw[Yd2];exact⟨by simp,fun b a=>by obtain⟨j,-,rfl⟩:=Ycp.1 a;simp⟩
theorem NQ{n m i:Nat}(h:i<n):(Ff n m i).set i (if m≤i then -1 else(i:Int))=Ff n m (i+1):=by
 apply YaH;intro j;rw[YaP];unfold Ff;simp only[t_,Z_,Yd1];by_cases a:i=j
 ·subst a;simp[h]
 ·rw[G_ a];by_cases c:j<n
  ·simp only[Ybf c,YcH]
   congr 1
   by_cases b:j<i
   ·rw[I_ b,I_ (show j<i+1 by omega)]
   ·rw[G_ b,G_ (show¬j<i+1 by omega)]
  ·simp[YaE (l:=AhM n) (i:=j) (by simp;omega)]
inductive PeH(A:LnM)(xs ys:List (List Nat)):LO→List Int→Nat→Prop
 | star:PeH A xs ys .star (Ff ys.length xs.length ys.length) 0
 | keyed {vks sks:List ByteArray}:vks.length=ys.length→sks.length=xs.length→(∀(i:Nat) (y:List Nat) (z:ByteArray),ys[i]?=some y→vks[i]?=some z→∃s,Ev .vk A (bA y) s z)→(∀(i:Nat) (x:List Nat) (z:ByteArray),xs[i]?=some x→sks[i]?=some z→∃v,Ev .sk A v (bA x) z)→PeH A xs ys .keyed (Di vks sks) ((AS vks).size+(AS sks).size)
theorem Po{xs:List (List Nat)}{i:Nat}{x:List Nat}(h:xs[i]?=some x):(bA x).size≤xs.flatten.length:=by
 have a:=Jz xs (i+1);rw[EY h,Q_]at a;rw[AB];omega
section
variable{B:Nat→Prop}{H:Aa}{g gt p rb k:Nat}{ws:ByteArray}{n:Option ReM}{w:ByteArray}{tl:List v_}{a b:ReM}{A C:LnM}{vs vv vq vA vC vl:v_}{v s o:ByteArray}
theorem VK{op:LO}{q x y:Tm}{Q:QuM}{xs ys:List (List Nat)}{os:List ByteArray}{F:List Int}{cst:Nat}(hP:PeH A xs ys op F cst)(b7:os.length=ys.length)(bu:∀(i:Nat) (y:List Nat) (o:ByteArray),ys[i]?=some y→os[i]?=some o→∃(f:Nat) (x:List Nat),F[i]?=some (f:Int)∧xs[f]?=some x∧Ev .put A (bA y) (bA x) o)(ho:cst+(AS os).size≤k)(hA:A≠ .nil)(bv:Nw A.s (bA xs.flatten) xs)(bw:Nw A.v (bA ys.flatten) ys)(am:xs.flatten.length≤1048576)(bx:xs.length≤1048576)(ao:ys.flatten.length≤1048576)(b8:ys.length≤1048576)(hr:Dw B H rb k)(hl:M' B H (.mk (.le p op n w q x y) a b Q A C) vl):
  Al prog 36 #[H_ rb,vl,.string (bA ys.flatten),.string (bA xs.flatten)] H (fun R H'=>∃j,F0 H rb j (AS os) R H'):=by
 obtain⟨g,gt,tl,vs,vv,vq,vA,vC,rfl,hm⟩:=HJ hl;obtain⟨ws,b9⟩:∃ws,ws=op.s:=⟨_,rfl⟩;rw[←b9]at hm;have T:=DJ b9;have cm:=hr.bl.lt;refine Al.of_vc func36 rfl (call36 _) (BL (St.nil H) [H_ rb] rfl fun q1 H1 s1=>(BL s1 [H_ g] rfl fun q2 H2 Y=>?_));have D:=hr.old Y.old;have N:=hm.up (Y.old.mono hr.hB);have x2:o_ rb H H2:=.old Y.old;have b0:=Y.blk 0 rfl;have b1:=Y.blk 1 rfl;have n0:q1≠rb:=fun e=>(Y.in_ 0 rfl (show q1=q1 from rfl)).1 (by rw[e];exact hr.bl.lt);have n1:q2≠rb:=fun e=>(Y.in_ 1 rfl (show q2=q2 from rfl)).1 (by rw[e];exact hr.bl.lt);clear s1 Y;obtain⟨gA,_,_,_,_,_,_,rfl,co,kA,uA,wA⟩:=EC hA N.la;have cp:=x2.sz;refine Au.heldM (D_ H2) [19,20] [] (sq [0,1,2,3,4,5,6,7,9,10,11,12,13,14,15,16] (.b 8 (.b 17 (.f 18 (.f 19 (.f 20 .e))) 18 (.f 17 (.f 19 (.f 20 .e)))) 18 (.f 8 (.f 17 (.f 19 (.f 20 .e)))))) rfl (by kernel_rfl) ?_
 repeat ((conv=>whnf);first | refine F_ ?_ | refine B_ (b1.cellE rfl) b1.lt ?_ | refine B_ (N.bg.cellE rfl) N.bg.lt ?_ | refine B_ (kA.cellE rfl) kA.lt ?_)
 have ap:∀{G:Aa} {K:v_→Aa→Prop},A_ (D_ H2) H2 G→(∀H' U V,A_ (D_ G) G H'→S_ Cp (fun j=>G.size≤j∧j<H'.size) H' U V (xs.map bA)→K (.slice U xs.length V) H')→Aj prog 30 #[_,.string (bA xs.flatten)] G K:=fun a k=>Aj.mk (DY (D.old a).hB (uA.up (fun _ h=>h) (a.mono D.hB)) bv am bx) (by rintro _ H' ⟨a',U,V,rfl,I⟩;exact k H' U V a' I);have ae:∀{G:Aa} {K:v_→Aa→Prop},A_ (D_ H2) H2 G→(∀H' Z yc,A_ (D_ G) G H'→S_ Cp (fun j=>G.size≤j∧j<H'.size) H' Z yc (ys.map bA)→K (.slice Z ys.length yc) H')→Aj prog 30 #[_,.string (bA ys.flatten)] G K:=fun a k=>Aj.mk (DY (D.old a).hB (wA.up (fun _ h=>h) (a.mono D.hB)) bw ao b8) (by rintro _ H' ⟨a',U,V,rfl,I⟩;exact k H' U V a' I);constructor;refine ap (A_.refl _ _) fun H3 U V a3 I=>⟨a3,?_⟩;(conv=>whnf);constructor;refine ae a3 fun H4 Z yc a4 O=>?_;have r:=a3.trans (a4.mono fun j d=>Ae a3 d);refine⟨r,?_⟩;refine Aw (.slice none 0 0) [.slice none 0 0] rfl rfl ?_;intro q9 H5 hq hs P ha;have M:=ha.new hq;refine⟨r.trans (M.mono fun j d=>Ae r d),?_⟩;refine Zak P (by simp) rfl fun H6 b6 e6 z6=>?_;have K:H2.size≤q9∧A_ (D_ H2) H2 H6∧S_ Cp (fun j=>H2.size≤j∧j<H6.size) H6 U V (xs.map bA)∧S_ Cp (fun j=>H2.size≤j∧j<H6.size) H6 Z yc (ys.map bA):=by
  have z3:=Ap a3;have z4:=Ap a4;have fr:∀j,j<H4.size→H6[j]?=H4[j]? :=fun j d=>by rw[e6 j (by omega),M j d]
  exact⟨by omega,fun j d=>by rw[fr j (Ae r d),r j d],((I.frame (a4.mono fun j d=>d.2)).frame (fun j d=>fr j (by omega))).mono fun j d=>by omega,(O.frame (fun j d=>fr j d.2)).mono fun j d=>by omega⟩
 (conv=>whnf);clear a3 I a4 O r hq hs P ha M e6 z6
 rotate_left
 refine Aw (.slice none 0 0) [.slice none 0 0] rfl rfl ?_;intro q9 H4 hq hs P ha;have a4:=ha.new hq;have r:=a3.trans (a4.mono fun j d=>Ae a3 d);refine⟨r,?_⟩;refine ae r fun H5 Z yc M O=>(⟨r.trans (M.mono fun j d=>Ae r d),?_⟩);refine Zak (P.agr M P.lt) (by simp) rfl fun H6 b6 e6 z6=>?_;have K:H2.size≤q9∧A_ (D_ H2) H2 H6∧S_ Cp (fun j=>H2.size≤j∧j<H6.size) H6 U V (xs.map bA)∧S_ Cp (fun j=>H2.size≤j∧j<H6.size) H6 Z yc (ys.map bA):=by
  have z3:=Ap a3;have z4:=Ap a4;have z5:=Ap M;have fr:∀j,j<H3.size→H6[j]?=H3[j]? :=fun j d=>by rw[e6 j (by omega),M j (by unfold D_;omega),a4 j d]
  exact⟨by omega,fun j d=>by rw[fr j (Ae a3 d),a3 j d],(I.frame (fun j d=>fr j d.2)).mono fun j d=>by omega,(O.frame (fun j d=>e6 j (by omega))).mono fun j d=>by omega⟩
 (conv=>whnf);clear a3 I a4 O r hq hs P ha M e6 z6
 rotate_left
 refine Aw (.slice none 0 0) [.slice none 0 0] rfl rfl ?_;intro q9 H3 hq hs P ha;have a3:=ha.new hq;refine⟨a3,?_⟩;refine ap a3 fun H4 U V a4 I=>?_;have r:=a3.trans (a4.mono fun j d=>Ae a3 d);refine⟨r,?_⟩;refine ae r fun H5 Z yc M O=>(⟨r.trans (M.mono fun j d=>Ae r d),?_⟩);refine Zak ((P.agr a4 P.lt).agr M (Ae a4 P.lt)) (by simp) rfl fun H6 b6 e6 z6=>?_;have K:H2.size≤q9∧A_ (D_ H2) H2 H6∧S_ Cp (fun j=>H2.size≤j∧j<H6.size) H6 U V (xs.map bA)∧S_ Cp (fun j=>H2.size≤j∧j<H6.size) H6 Z yc (ys.map bA):=by
  have z3:=Ap a3;have z4:=Ap a4;have z5:=Ap M;exact⟨by omega,fun j d=>by have:j<H2.size:=d;rw[e6 j (by omega),M j (by unfold D_;omega),a4 j (by unfold D_;omega),a3 j d],(I.frame (fun j d=>by rw[e6 j (by omega),M j (by unfold D_;omega)])).mono fun j d=>by omega,(O.frame (fun j d=>e6 j (by omega))).mono fun j d=>by omega⟩
 (conv=>whnf);clear a3 I a4 O r hq hs P ha M e6 z6
 all_goals
  clear ap ae;have⟨cq,a6,bd,be⟩:=K;have x6:o_ rb H2 H6:=.old a6;have z6:=x6.sz;have a0:q9≠rb:=by omega
  have bf:=D.bl.agr a6 D.bl.lt;have s0:E_ (E6 rb H6) H6 H6 [JL rb k]:=E_.start (p:=JL rb k) bf (fun j d=>by rw[show j=rb from d];exact bf.lt);have ai:S_ Cp (E6 rb H6) H6 Z yc (ys.map bA):=be.mono fun j d=>⟨d.2,by omega⟩;have aj:S_ Cp (E6 rb H6) H6 U V (xs.map bA):=bd.mono fun j d=>⟨d.2,by omega⟩;clear bd be;refine YT (T:=tI) (v:=0) (S:=none_) AO ⟨rfl,Co (x:=0) (by decide)⟩ (by omega) rfl (by omega) (by omega) ?_;intro q H7 hq hs P ha;rw[Yau]at P ⊢;have s1:=s0.new (T:=tI) (n:=ys.length) (xs:=Ff ys.length xs.length 0) hq hs P ha (by rw[Sw];exact DK (T:=tI) (c:=[C_ 0]) ⟨rfl,Co (x:=0) (by decide)⟩ _) (Ip _ _ _).symm (by unfold maxLen;omega);refine BV s1 (.slice none 0 0) [.slice none 0 0] rfl rfl fun L H8 Y=>(Bh Y 2 rfl (by simp) rfl fun H9 s3=>?_);clear s0 s1 Y hq hs P ha;refine lT ((s3.blk 2 rfl).cellE rfl) ?_;(conv=>whnf);refine A8.mk [42] (fun i:Nat=>[C_ i]) (fun i G=>i≤ys.length∧E_ (E6 rb H6) H6 G [JL rb k,pS tI 3 (b_ q) ys.length ys.length (Ff ys.length xs.length i),pB 23 L [.slice (b_ q) ys.length ys.length]]) (fun i _=>ys.length-i) ?_ ?_
  ·(conv=>whnf);exact⟨0,rfl,by omega,s3⟩
  ·rintro i G ci ⟨hi,J⟩;have cr:=b6.agr J.old ⟨b6.lt,a0⟩;by_cases W:i<ys.length
   ·(conv=>whnf);rw[s_]
    repeat ((conv=>whnf);first | refine Af.run ?_ | refine B_ ((J.blk 2 rfl).cellE rfl) trivial ?_)
    refine ix AO (by omega) (by omega) ?_;refine AfK (j:=i) (x:=(i:Int)) J 1 rfl rfl (by omega) (by rw[Ip];omega) rfl (fun H' _=>⟨rfl,Co (by omega)⟩) fun G2 t=>?_
    repeat ((conv=>whnf);first | refine Af.run ?_ | refine B_ ((b6.agr t.old ⟨b6.lt,a0⟩).cellE rfl) trivial ?_)
    by_cases X:xs.length≤i
    ·(conv=>whnf);rw[g_ (show(xs.length:Int)≤(i:Int) by omega)]
     repeat ((conv=>whnf);first | refine Af.run ?_ | refine B_ ((t.blk 2 rfl).cellE rfl) trivial ?_)
     refine ix AO (by omega) (by omega) ?_;refine AfK (j:=i) (x:=(-1:Int)) t 1 rfl rfl (by omega) (by rw[List.length_set,Ip];omega) rfl (fun H' _=>⟨rfl,show IntKind.min .i64≤ -1∧(-1:Int)≤IntKind.max .i64 by decide⟩) fun G3 u=>?_
     repeat (refine Af.run ?_)
     (conv=>whnf);rw[R_ i (by omega)];have e:=NQ (m:=xs.length) W;rw[I_ X]at e;have e':((Ff ys.length xs.length i).set i (i:Int)).set i (-1)=Ff ys.length xs.length (i+1):=by rw[List.set_set];exact e
     rw[e']at u;exact⟨rfl,i+1,rfl,⟨by omega,u⟩,by omega⟩
    ·(conv=>whnf);rw[a_ (show¬(xs.length:Int)≤(i:Int) by omega)]
     repeat (refine Af.run ?_)
     (conv=>whnf);rw[R_ i (by omega)];have e:=NQ (m:=xs.length) W;rw[G_ X]at e;rw[e]at t;exact⟨rfl,i+1,rfl,⟨by omega,t⟩,by omega⟩
   ·(conv=>whnf);rw[m_];obtain rfl:i=ys.length:=by omega
    clear s3;have xG:o_ rb H2 G:=x6.trans (JW J);have bz:=b1.agr xG.ag ⟨b1.lt,n1⟩;have bh:=N.up (D.ag xG);have c2:L≠rb:=fun e=>J.apart2 (i:=2) (j:=0) rfl rfl (by decide) L rfl e;refine Af.cut [] (fun _:Unit=>[]) (fun _ G'=>∃j:Nat,o_ rb H2 G'∧K_ G' rb 63 [C_ j]∧(AS os).size≤j∧j≤k∧PeM G' rb g q1 q2 q9 L (xs.map bA) F∧S_ Cp (E6 rb G') G' Z yc (ys.map bA)) ?_ ?_
    ·repeat ((conv=>whnf);first | refine Af.run ?_ | refine F_ ?_ | refine B_ (bz.cellE rfl) trivial ?_ | refine B_ (bh.bg.cellE rfl) trivial ?_ | refine B_ (bh.bt.cellE rfl) trivial ?_)
     (conv=>whnf);have fin:∀{G':Aa} {j:Nat} {ps:List Pc} {fa:Option Addr} {fc:Nat},E_ (E6 rb H6) H6 G' ps→ps[0]?=some (JL rb j)→K_ G' L 23 [.slice fa F.length fc]→S_ tI (E6 rb G') G' fa fc F→(AS os).size≤j→j≤k→∃j:Nat,o_ rb H2 G'∧K_ G' rb 63 [C_ j]∧(AS os).size≤j∧j≤k∧PeM G' rb g q1 q2 q9 L (xs.map bA) F∧S_ Cp (E6 rb G') G' Z yc (ys.map bA):=fun{G' j ps fa fc} J hp c3 hF h1 h2=>by
      have aq:=x6.trans (JW J);have zG:=J.size;have up:∀j,E6 rb H6 j→E6 rb G' j:=fun j d=>⟨Ybq d.1 zG,d.2⟩;exact⟨j,aq,J.blk 0 hp,h1,h2,⟨b0.agr aq.ag ⟨b0.lt,n0⟩,b1.agr aq.ag ⟨b1.lt,n1⟩,n0,n1,a0,c2,⟨U,V,by rw[Z_];exact b6.agr J.old ⟨b6.lt,a0⟩,(aj.frame J.old).mono up⟩,fa,fc,c3,hF⟩,(ai.frame J.old).mono up⟩
     cases hP with
     | star=>
       refine Ag.ff (T.t7.trans rfl) ?_
       repeat (refine Af.run ?_)
       (conv=>whnf);refine⟨rfl,(),rfl,fin (fa:=some ⟨q,0,none⟩) (fc:=ys.length) J rfl (by rw[Ip];exact J.blk 2 rfl) ?_ (by omega) (J_ _)⟩;obtain⟨a',c',e,h1,-⟩:=(J.at_ 1 rfl).1.view (S':=E6 rb G) (fun j d=>⟨(J.in_ 1 rfl (.inl d)).2,fun e=>J.apart2 (i:=1) (j:=0) rfl rfl (by decide) j (.inl d) e⟩) (fun j d=>d.elim);injection e with e1 e2 e3
       subst e1;subst e3;exact h1
     | @keyed vks sks lv ls hv hs=>
       have ct:=Gn vks;have cu:=hr.k1;have cw:=Gn sks;refine Ag.tt (T.t7.trans rfl) ?_
       repeat (refine Af.run ?_)
       (conv=>whnf);refine A8.mk [13,67] (fun x:Nat×Option Addr×Nat=>match x with | (i,a,c)=>[.slice a i c,C_ i])
        (fun x G'=>x.1≤ys.length∧E_ (E6 rb H6) H6 G' [JL rb (k-(AS (vks.take x.1)).size),pS tI 3 (b_ q) ys.length ys.length (Ff ys.length xs.length ys.length),pB 23 L [.slice (b_ q) ys.length ys.length],pS Cp 9 x.2.1 x.1 x.2.2 (vks.take x.1)]) (fun x _=>ys.length-x.1) ?_ ?_
       ·(conv=>whnf);exact⟨(0,none,0),rfl,l_ _,J.nils Cp 9⟩
       rintro⟨i,va,vc⟩ G2 au ⟨hi,t⟩;simp only at hi t;have a7:=x6.trans (JW t);by_cases W:i<ys.length
       ·have⟨y,O⟩:=Am (l:=ys) (k:=i) W;have⟨z,hz⟩:=Am (l:=vks) (k:=i) (by omega);have aw:=IQ hz;have c4:=Gn vks (i+1);have a8:=congrArg ByteArray.size aw;rw[ByteArray.size_append]at a8;have⟨s',ev⟩:=hv i y z O hz;(conv=>whnf);rw[s_]
        repeat (refine Af.run ?_)
        refine F4 DO (ai.frame t.old) (by rw[Z_]) (by rw[t_,O];rfl) rfl ?_;rintro b3 o3 c5 c6 ay ⟨rfl,-⟩;refine lT ay.one ?_
        repeat (refine Af.run ?_)
        have a9:Dw B G2 rb _:=D.next a7 (t.blk 0 rfl) (Nat.sub_le _ _)
        have E:=N.up (D.ag a7);have c0:=b0.agr a7.ag ⟨b0.lt,n0⟩;have c1:=b1.agr a7.ag ⟨b1.lt,n1⟩;refine Au.heldM (fun j=>j=q1∨j=q2∨B j) [0,7,8,9,10] [0] (sq [0,1,2,3,4,5,6] (.f 7 (.f 8 (.f 9 (.f 10 .e))))) rfl (by kernel_rfl) ?_
        repeat ((conv=>whnf);first | refine F_ ?_ | refine B_ (c0.cellE rfl) (.inl rfl) ?_ | refine B_ (c1.cellE rfl) (.inr (.inl rfl)) ?_ | refine B_ (E.bg.cellE rfl) (.inr (.inr E.gB)) ?_)
        refine Aj.mk (vk_c ev a9 E.la (YbC (Po O) ao) (by omega)) ?_;rintro _ G4 h;have e:=h.e;subst e;have ab:=AfA t 0 rfl h.x h.bl;refine Az DO [.string z] rfl rfl (by decide) (by decide) ?_;intro q5 G5 az c7 b4 b5;refine GH (x:=z) (ab.skip az b5) 3 DO rfl b4 ⟨rfl,by unfold maxLen;omega⟩ rfl (by rw[YaN];omega) (by decide) fun a' c' G6 ad _=>?_
        repeat (refine Af.run ?_)
        (conv=>whnf);rw[R_ i (by omega)];have hl:(vks.take i).length=i:=by rw[YaN];omega
        have X:vks.take i++[z]=vks.take (i+1):=by rw[Yd0,hz];rfl
        rw[hl,X,Yd8,←a8]at ad;rw[hl];exact⟨rfl,(i+1,a',c'),rfl,⟨by simp only;omega,ad⟩,by simp only;omega⟩
       (conv=>whnf);rw[m_];obtain rfl:i=ys.length:=by omega
       rw[Ycy (by omega)]at t;have c9:=b6.agr t.old ⟨b6.lt,a0⟩;refine lT (c9.cellE rfl) ?_;(conv=>whnf);clear c9;refine A8.mk [14,84] (fun x:Nat×Option Addr×Nat=>match x with | (i,a,c)=>[.slice a i c,C_ i])
        (fun x G'=>x.1≤xs.length∧E_ (E6 rb H6) H6 G' [JL rb (k-(AS vks).size-(AS (sks.take x.1)).size),pS tI 3 (b_ q) ys.length ys.length (Ff ys.length xs.length ys.length),pB 23 L [.slice (b_ q) ys.length ys.length],pS Cp 9 va ys.length vc vks,pS Cp 9 x.2.1 x.1 x.2.2 (sks.take x.1)]) (fun x _=>xs.length-x.1) ?_ ?_
       ·(conv=>whnf);exact⟨(0,none,0),rfl,l_ _,t.nils Cp 9⟩
       rintro⟨i,sa,sc⟩ G3 c8 ⟨cb,u⟩;simp only at cb u;clear t a7;have ah:=x6.trans (JW u);by_cases W:i<xs.length
       ·have⟨x,I⟩:=Am (l:=xs) (k:=i) W;have⟨z,hz⟩:=Am (l:=sks) (k:=i) (by omega);have aw:=IQ hz;have c4:=Gn sks (i+1);have a8:=congrArg ByteArray.size aw;rw[ByteArray.size_append]at a8;have⟨s',ev⟩:=hs i x z I hz;(conv=>whnf);rw[s_]
        repeat (refine Af.run ?_)
        refine F4 DO (aj.frame u.old) (by rw[Z_]) (by rw[t_,I];rfl) rfl ?_;rintro b3 o3 c5 c6 ay ⟨rfl,-⟩;refine lT ay.one ?_
        repeat (refine Af.run ?_)
        have a9:Dw B G3 rb _:=D.next ah (u.blk 0 rfl) (by omega)
        have E:=N.up (D.ag ah);have c0:=b0.agr ah.ag ⟨b0.lt,n0⟩;have c1:=b1.agr ah.ag ⟨b1.lt,n1⟩;refine Au.heldM (fun j=>j=q1∨j=q2∨B j) [0,7,8,9,10] [0] (sq [0,1,2,3,4,5,6] (.f 7 (.f 8 (.f 9 (.f 10 .e))))) rfl (by kernel_rfl) ?_
        repeat ((conv=>whnf);first | refine F_ ?_ | refine B_ (c0.cellE rfl) (.inl rfl) ?_ | refine B_ (c1.cellE rfl) (.inr (.inl rfl)) ?_ | refine B_ (E.bg.cellE rfl) (.inr (.inr E.gB)) ?_)
        refine Aj.mk (sk_c ev a9 E.la (YbC (Po I) am) (by omega)) ?_;rintro _ G4 h;have e:=h.e;subst e;have ab:=AfA u 0 rfl h.x h.bl;refine Az DO [.string z] rfl rfl (by decide) (by decide) ?_;intro q5 G5 az c7 b4 b5;refine GH (x:=z) (ab.skip az b5) 4 DO rfl b4 ⟨rfl,by unfold maxLen;omega⟩ rfl (by rw[YaN];omega) (by decide) fun a' c' G6 ad _=>?_
        repeat (refine Af.run ?_)
        (conv=>whnf);rw[R_ i (by omega)];have hl:(sks.take i).length=i:=by rw[YaN];omega
        have X:sks.take i++[z]=sks.take (i+1):=by rw[Yd0,hz];rfl
        rw[hl,X,Yd8 (k-_),←a8]at ad;rw[hl];exact⟨rfl,(i+1,a',c'),rfl,⟨by simp only;omega,ad⟩,by simp only;omega⟩
       (conv=>whnf);rw[m_];obtain rfl:i=xs.length:=by omega
       rw[Ycy (by omega)]at u;have bj:=Zk va sa vc sc vks sks (D_ G3) G3 (fun _ h=>h) (by have:=u.view 3 rfl;exact this) (by have:=u.view 4 rfl;exact this) (by omega) (by omega);rw[lv,ls]at bj;refine Aj.mk bj ?_;rintro _ G4 ⟨a4,z4,bq,rfl,cx,ak⟩;have ab:=u.call a4;refine Nf ab 2 rfl (by simp) rfl fun G5 s5 j5 n5=>?_;(conv=>whnf);have bn:(Di vks sks).length=ys.length:=by unfold Di;rw[Z_,Yd1,lv]
       obtain⟨a',c',e,h1,-⟩:=ak.view (S':=fun j=>G3.size≤j∧j<G4.size) (fun j d=>ak.lt d) (fun j d=>d.elim);injection e with e1 e2 e3
       subst e1;subst e3;have cj:=(u.blk 2 rfl).lt;have cy:=(u.blk 0 rfl).lt;exact⟨rfl,(),rfl,fin s5 rfl (by rw[bn];exact s5.blk 2 rfl) ((h1.frame (fun j d=>j5 j (by omega))).mono fun j d=>⟨by omega,by omega⟩) (by omega) (by omega)⟩
    ·rintro _ G2 au ⟨j,xg,bg,h1,h2,cd,ce⟩;have cg:Dw B G2 rb j:=D.next xg bg h2
     have bo:=N.up (D.ag xg);have bp:=Af3 (os:=os) (ys:=ys.map bA) cd cg bo ce (by rw[Z_];exact b7) (by rw[Z_];exact b8) (fun i y o O ch=>by
      rw[t_,Ydt]at O;obtain⟨y',br,rfl⟩:=O;have⟨f,x,hF,I,ev⟩:=bu i y' o br ch;exact⟨f,bA x,hF,by rw[t_,I];rfl,ev,YbC (Po br) ao,YbC (Po I) am⟩) h1
     rw[Z_]at bp;refine Aj.mk bp ?_;rintro _ G3 h;have e:=h.e;subst e;(conv=>whnf);exact⟨_,rfl,(x2.trans xg).trans h.x,h.bl⟩
end
section
variable{B:Nat→Prop}{H:Aa}{g gt p p1 p2 rb k:Nat}{ws:ByteArray}{n:Option ReM}{w:ByteArray}{tl:List v_}{a b:ReM}{A C:LnM}{vs vv vq vA vC vl:v_}{v s o:ByteArray}
theorem AdD(u:∀j,B j→j<H.size)(m:LeM B H g gt p ws n w tl a b A C vs vv vq vA vC)(c:K_ H p2 9 [.string s])(hs:s.size≤16384)(r:Gm a s=true):AZ prog 12 #[H_ g,.pointer none,H_ p2] H (ftA 0 0 nx):=by
 have⟨A2,d,h⟩:=m.ks;obtain⟨y,rfl⟩:∃pa,vs= H_ pa:=AuV.ptr ⟨A2,d,h⟩;refine Al.of_vc func12 rfl (call12 _) (Aw (AI 0 0) (Ad 0 0) Bn rfl ?_);intro q H1 z D x E;have a1:=E.new z
 repeat ((conv=>whnf);first | refine Af.run ?_ | refine Px underlying24 ?_ | refine La underlying43 ?_ | refine HO underlying43 ?_ | refine B_ ((c.agr a1 c.lt).cellE rfl) trivial ?_ | rw[a_ (show¬(16384:Int)<(s.size:Int) by omega)])
 refine Au.heldG (D_ H1) [] (sq [0,1,2,3,4,5,6,7,8,9] (.f 10 (sq [11,12,13] .e))) rfl (by kernel_rfl) ?_
 repeat ((conv=>whnf);first | refine La underlying43 ?_)
 repeat (refine Af.run ?_)
 refine Au.heldG (D_ H1) [] (sq [0,1,2,3,4,5,6,7,8,9] (.f 10 (sq [11,12,13] .e))) rfl (by kernel_rfl) ?_
 repeat ((conv=>whnf);first | refine F_ ?_ | refine HO underlying43 ?_ | refine B_ ((m.bg.agr a1 m.bg.lt).cellE rfl) (Ae a1 m.bg.lt) ?_ | refine B_ ((c.agr a1 c.lt).cellE rfl) (Ae a1 c.lt) ?_)
 have k:=DT (s:=s) (fun j l=>Ae a1 (u j l)) (d.frame (a1.mono u)) (by unfold maxLen;omega);rw[h.aut.acc,show Bs (Hp _) s=true from r]at k;refine Ak k fun H2 e2=>?_;have a2:=a1.trans (e2.mono fun j l=>Ae a1 l);refine⟨e2,?_⟩
 repeat (refine Af.run ?_)
 refine Ah underlying27 rfl _ rfl (Y' 0 0 nx) rfl ?_;have t:K_ H2 q 27 (Y' 0 0 nx):=(x.agr e2 x.lt);refine Zaa (cs:=Y' 0 0 nx) rfl t (J_ _) rfl ?_;intro G F I J;refine lN (cs:=Y' 0 0 nx) (EI F) ?_;exact⟨rfl,a2.trans (I.mono fun j l=>by have:j<H.size:=l;omega)⟩
theorem AdE(t:∀j,B j→j<H.size)(m:LeM B H g gt p ws n w tl a b A C vs vv vq vA vC)(c:K_ H p1 9 [.string v])(I:v.size≤16384)(av:Gm b v=true):AZ prog 12 #[H_ g,H_ p1,.pointer none] H (ftA 0 0 nx):=by
 have⟨A1,d,h⟩:=m.kv;obtain⟨x,rfl⟩:∃pa,vv= H_ pa:=AuV.ptr ⟨A1,d,h⟩;refine Al.of_vc func12 rfl (call12 _) (Aw (AI 0 0) (Ad 0 0) Bn rfl ?_);intro q H1 y z u D;have a1:=D.new y
 repeat ((conv=>whnf);first | refine Af.run ?_ | refine Px underlying24 ?_ | refine La underlying43 ?_ | refine HO underlying43 ?_ | refine B_ ((c.agr a1 c.lt).cellE rfl) trivial ?_ | rw[a_ (show¬(16384:Int)<(v.size:Int) by omega)])
 refine Au.heldG (D_ H1) [] (sq [0,1,2,3,4,5,6,7,8,9] (.f 10 (sq [11,12,13] .e))) rfl (by kernel_rfl) ?_
 repeat ((conv=>whnf);first | refine F_ ?_ | refine HO underlying43 ?_ | refine B_ ((m.bg.agr a1 m.bg.lt).cellE rfl) (Ae a1 m.bg.lt) ?_ | refine B_ ((c.agr a1 c.lt).cellE rfl) (Ae a1 c.lt) ?_)
 have k:=DT (s:=v) (fun j l=>Ae a1 (t j l)) (d.frame (a1.mono t)) (by unfold maxLen;omega);rw[h.aut.acc,show Bs (Hp _) v=true from av]at k;refine Ak k fun H2 e2=>?_;have a2:=a1.trans (e2.mono fun j l=>Ae a1 l);refine⟨e2,?_⟩
 repeat (refine Af.run ?_)
 refine Au.heldG (D_ H2) [] (sq [0,1,2,3,4,5,6,7,8,9] (.f 10 (sq [11,12,13] .e))) rfl (by kernel_rfl) ?_
 repeat ((conv=>whnf);first | refine La underlying43 ?_)
 repeat (refine Af.run ?_)
 refine Ah underlying27 rfl _ rfl (Y' 0 0 nx) rfl ?_;have r:K_ H2 q 27 (Y' 0 0 nx):=(u.agr e2 u.lt);refine Zaa (cs:=Y' 0 0 nx) rfl r (J_ _) rfl ?_;intro G E F J;refine lN (cs:=Y' 0 0 nx) (EI E) ?_;exact⟨rfl,a2.trans (F.mono fun j l=>by have:j<H.size:=l;omega)⟩
theorem AdC(x:∀j,B j→j<H.size)(h:LeM B H g gt p ws n w tl a b A C vs vv vq vA vC)(k:K_ H p1 9 [.string v])(O:v.size≤16384)(av:Gm b v=true)(l:K_ H p2 9 [.string s])(hs:s.size≤16384)(y:Gm a s=true):AZ prog 12 #[H_ g,H_ p1,H_ p2] H (ftA 0 0 nx):=by
 have⟨A1,m,r⟩:=h.kv;obtain⟨F,rfl⟩:∃pa,vv= H_ pa:=AuV.ptr ⟨A1,m,r⟩;have⟨A2,t,u⟩:=h.ks;obtain⟨I,rfl⟩:∃pa,vs= H_ pa:=AuV.ptr ⟨A2,t,u⟩;refine Al.of_vc func12 rfl (call12 _) (Aw (AI 0 0) (Ad 0 0) Bn rfl ?_);intro q H1 J K z L;have a1:=L.new J
 repeat ((conv=>whnf);first | refine Af.run ?_ | refine Px underlying24 ?_ | refine La underlying43 ?_ | refine HO underlying43 ?_ | refine B_ ((k.agr a1 k.lt).cellE rfl) trivial ?_ | rw[a_ (show¬(16384:Int)<(v.size:Int) by omega)] | refine B_ ((l.agr a1 l.lt).cellE rfl) trivial ?_ | rw[a_ (show¬(16384:Int)<(s.size:Int) by omega)])
 refine Au.heldG (D_ H1) [] (sq [0,1,2,3,4,5,6,7,8,9] (.f 10 (sq [11,12,13] .e))) rfl (by kernel_rfl) ?_
 repeat ((conv=>whnf);first | refine F_ ?_ | refine HO underlying43 ?_ | refine B_ ((h.bg.agr a1 h.bg.lt).cellE rfl) (Ae a1 h.bg.lt) ?_ | refine B_ ((k.agr a1 k.lt).cellE rfl) (Ae a1 k.lt) ?_)
 have c:=DT (s:=v) (fun j d=>Ae a1 (x j d)) (m.frame (a1.mono x)) (by unfold maxLen;omega);rw[r.aut.acc,show Bs (Hp _) v=true from av]at c;refine Ak c fun H2 e2=>?_;have a2:=a1.trans (e2.mono fun j d=>Ae a1 d);refine⟨e2,?_⟩
 repeat (refine Af.run ?_)
 refine Au.heldG (D_ H2) [] (sq [0,1,2,3,4,5,6,7,8,9] (.f 10 (sq [11,12,13] .e))) rfl (by kernel_rfl) ?_
 repeat ((conv=>whnf);first | refine F_ ?_ | refine HO underlying43 ?_ | refine B_ ((h.bg.agr a2 h.bg.lt).cellE rfl) (Ae a2 h.bg.lt) ?_ | refine B_ ((l.agr a2 l.lt).cellE rfl) (Ae a2 l.lt) ?_)
 have c:=DT (s:=s) (fun j d=>Ae a2 (x j d)) (t.frame (a2.mono x)) (by unfold maxLen;omega);rw[u.aut.acc,show Bs (Hp _) s=true from y]at c;refine Ak c fun H3 D=>?_;have a3:=a2.trans (D.mono fun j d=>Ae a2 d);refine⟨D,?_⟩
 repeat (refine Af.run ?_)
 refine Ah underlying27 rfl _ rfl (Y' 0 0 nx) rfl ?_;have E:K_ H3 q 27 (Y' 0 0 nx):=((z.agr e2 z.lt).agr D (Ae e2 z.lt));refine Zaa (cs:=Y' 0 0 nx) rfl E (J_ _) rfl ?_;intro G M N P;refine lN (cs:=Y' 0 0 nx) (EI M) ?_;exact⟨rfl,a3.trans (N.mono fun j d=>by have:j<H.size:=d;omega)⟩
end
theorem Zs{H:Aa}{a b:Nat}{K:Aa→Prop}(k:K H):BX prog 24 #[H_ a,H_ b] .returning .returning H K:=by
 refine BX.mk (R:=fun H'=>H'=H) (Cj (R:=fun H'=>H'=H) func24 rfl ⟨⟨_,rfl⟩,rfl,rfl,rfl,rfl,rfl⟩ .ret rfl ?_) (fun H' h=>by rw[h];exact k);(conv=>whnf);refine⟨rfl,?_⟩;refine Kt underlying20 ?_;(conv=>whnf)
theorem Ki{f:FuncId}{first cap:Array v_}{H:Aa}{o:ByteArray}(r:∀(G:Aa) (rb:Nat),A_ (D_ H) H G→H.size≤rb→K_ G rb 63 [C_ ((1048576:Nat):Int)]→Al prog f (first.toList++[H_ rb]++cap.toList).toArray G (fun R H'=>∃j,F0 G rb j o R H')):
  Al prog 11 #[ftA 0 0 nx,.func (.func f) first cap] H fun R H'=>R= .tuple #[.string o,ftA 0 0 nx]∧A_ (D_ H) H H':=by
 refine Al.of_rest func11 rfl (call11 _) (Bu.seq (BL (St.nil H) (Y' 0 0 nx) rfl fun A H1 t=>(BV t (.string nx) [.string nx] rfl rfl fun B H2 u=>(BV u (AI 0 0) (Y' 0 0 nx) Bn rfl fun C H3 b=>(Bu.seq ?_)))))
 repeat ((conv=>whnf);first | refine Af.run ?_ | refine L_ (cs:=Y' 0 0 nx) (EI (b.blk 0 rfl)) trivial ?_ | refine Ah underlying27 rfl _ rfl (Ad 0 0) rfl ?_)
 refine GP (c:=0) (e:=0) (c':=0) (e':=0) (by decide) (by decide) (by decide) (by decide) (Bu.defer_ ⟨rfl,rfl,rfl,⟨_,rfl⟩,rfl,rfl⟩ (fun vs w=>call24 _ w) (⟨rfl,?_⟩));refine Ah underlying63 rfl _ rfl [C_ 1048576] (by kernel_rfl) (BC [C_ 1048576] rfl ?_);intro rb H4 g x k l;have a4:=l.new g;have a:=b.call a4;have d:¬D_ H rb:=fun h=>by have:=a.size;have:=Ap b.old;unfold D_ at h;omega
 have D:=(b.blk 0 rfl).lt;have E:=(b.blk 1 rfl).lt;have F:=(b.blk 2 rfl).lt;refine Ab.of (Aj.mk (r H4 rb a.old (by unfold D_ at d;omega) k) ?_);rintro _ H5 ⟨j,rfl,y,-⟩;have m:=Oz a y d (fun p q=>by
  simp only[YaO,Ybj,Ybe,Yd7,or_false]at q;rcases q with rfl | rfl | rfl<;>exact⟨_,_,_,rfl,by omega⟩)
 refine Ah underlying27 rfl _ rfl (Ad 0 0) rfl (Bh m 1 rfl (by simp) rfl fun H7 z=>(AD (cs:=Y' 0 0 nx) z 2 rfl rfl (J_ _) rfl fun H8 n=>(Zs (B_ ((n.blk 1 rfl).cellE rfl) trivial (L_ (cs:=Y' 0 0 nx) (EI (n.blk 2 rfl)) trivial ?_)))));exact⟨rfl,n.old⟩
section
variable{B:Nat→Prop}{H:Aa}{p:Nat}{n:Option ReM}{w:ByteArray}{a b:ReM}{A C:LnM}{vl:v_}{v s o:ByteArray}
theorem AeC{op:LO}{q x y:Tm}{Q:QuM}(d:∀j,B j→j<H.size)(E:M' B H (.mk (.le p op n w q x y) a b Q A C) vl)(hs:s.size≤16384)(r:Gm a s=true)(F:∀{G:Aa} {rb:Nat},Dw B G rb 1048576→M' B G (.mk (.le p op n w q x y) a b Q A C) vl→Al prog 14 #[H_ rb,vl,.string s] G (fun R H'=>∃j,F0 G rb j o R H')):
  Al prog 5 #[vl,.string s] H fun R H'=>R= .tuple #[.string o,ftA 0 0 nx]∧A_ (D_ H) H H':=by
 obtain⟨g,gt,tl,vs,vv,vq,vA,vC,rfl,I⟩:=HJ E;refine Al.of_vc func5 rfl (call5 _) (BL (St.nil H) [H_ g] rfl fun J H1 K=>(BL K [.string s] rfl fun L H2 M=>(BV M (AI 0 0) (Y' 0 0 nx) Bn rfl fun T H9 k=>(B_ ((k.blk 0 rfl).cellE rfl) trivial ?_))));have N:=k.old.mono d;have lt:∀j,B j→j<H9.size:=fun j t=>Ae k.old (d j t);refine Ak (AdD lt (I.up N) (k.blk 1 rfl) hs r) fun H10 u=>?_;have c:=k.call u;refine Aj.mk (Ki (o:=o) (f:=13) (first:= #[]) (cap:= #[H_ J,H_ L]) fun G rb O P S=>?_) ?_
 ·have m:=c.call O;have U:=c.size;refine Al.of_vc func13 rfl (call13 _) ?_
  repeat ((conv=>whnf);first | refine B_ ((m.blk 0 rfl).cellE rfl) trivial ?_ | refine B_ ((m.blk 1 rfl).cellE rfl) trivial ?_)
  refine Aj.mk (F (rb:=rb) ⟨fun j t=>Ae m.old (d j t),fun h=>by have:=d rb h;omega,S,J_ _⟩ (E.up (fun _ h=>h) (m.old.mono d))) ?_;rintro _ G' ⟨j,h⟩;have e:=h.e;subst e;(conv=>whnf);exact⟨j,rfl,h.x,h.bl⟩
 ·rintro _ H11 ⟨rfl,z⟩;have D:=c.call z;refine AD (cs:=Y' 0 0 nx) D 2 rfl rfl (J_ _) rfl fun H12 l=>(L_ (cs:=Y' 0 0 nx) (EI (l.blk 2 rfl)) trivial ?_);exact⟨rfl,l.old⟩
theorem AdX{op:LO}{q x y:Tm}{Q:QuM}(d:∀j,B j→j<H.size)(D:M' B H (.mk (.le p op n w q x y) a b Q A C) vl)(E:v.size≤16384)(av:Gm b v=true)(F:∀{G:Aa} {rb:Nat},Dw B G rb 1048576→M' B G (.mk (.le p op n w q x y) a b Q A C) vl→Al prog 16 #[H_ rb,vl,.string v] G (fun R H'=>∃j,F0 G rb j o R H')):
  Al prog 6 #[vl,.string v] H fun R H'=>R= .tuple #[.string o,ftA 0 0 nx]∧A_ (D_ H) H H':=by
 obtain⟨g,gt,tl,vs,vv,vq,vA,vC,rfl,I⟩:=HJ D;refine Al.of_vc func6 rfl (call6 _) (BL (St.nil H) [H_ g] rfl fun J H1 K=>(BL K [.string v] rfl fun L H2 M=>(BV M (AI 0 0) (Y' 0 0 nx) Bn rfl fun T H9 k=>(B_ ((k.blk 0 rfl).cellE rfl) trivial ?_))));have N:=k.old.mono d;have lt:∀j,B j→j<H9.size:=fun j r=>Ae k.old (d j r);refine Ak (AdE lt (I.up N) (k.blk 1 rfl) E av) fun H10 t=>?_;have c:=k.call t;refine Aj.mk (Ki (o:=o) (f:=15) (first:= #[]) (cap:= #[H_ J,H_ L]) fun G rb O P S=>?_) ?_
 ·have m:=c.call O;have U:=c.size;refine Al.of_vc func15 rfl (call15 _) ?_
  repeat ((conv=>whnf);first | refine B_ ((m.blk 0 rfl).cellE rfl) trivial ?_ | refine B_ ((m.blk 1 rfl).cellE rfl) trivial ?_)
  refine Aj.mk (F (rb:=rb) ⟨fun j r=>Ae m.old (d j r),fun h=>by have:=d rb h;omega,S,J_ _⟩ (D.up (fun _ h=>h) (m.old.mono d))) ?_;rintro _ G' ⟨j,h⟩;have e:=h.e;subst e;(conv=>whnf);exact⟨j,rfl,h.x,h.bl⟩
 ·rintro _ H11 ⟨rfl,u⟩;have z:=c.call u;refine AD (cs:=Y' 0 0 nx) z 2 rfl rfl (J_ _) rfl fun H12 l=>(L_ (cs:=Y' 0 0 nx) (EI (l.blk 2 rfl)) trivial ?_);exact⟨rfl,l.old⟩
theorem Yd{op:LO}{q x y:Tm}{Q:QuM}(k:∀j,B j→j<H.size)(E:M' B H (.mk (.le p op n w q x y) a b Q A C) vl)(F:v.size≤16384)(av:Gm b v=true)(hs:s.size≤16384)(r:Gm a s=true)(I:∀{G:Aa} {rb:Nat},Dw B G rb 1048576→M' B G (.mk (.le p op n w q x y) a b Q A C) vl→Al prog 18 #[H_ rb,vl,.string v,.string s] G (fun R H'=>∃j,F0 G rb j o R H')):
  Al prog 8 #[vl,.string v,.string s] H fun R H'=>R= .tuple #[.string o,ftA 0 0 nx]∧A_ (D_ H) H H':=by
 obtain⟨g,gt,tl,vs,vv,vq,vA,vC,rfl,J⟩:=HJ E;refine Al.of_vc func8 rfl (call8 _) (BL (St.nil H) [H_ g] rfl fun K H1 L=>(BL L [.string v] rfl fun M H2 N=>(BL N [.string s] rfl fun O H3 P=>(BV P (AI 0 0) (Y' 0 0 nx) Bn rfl fun W H9 d=>(B_ ((d.blk 0 rfl).cellE rfl) trivial ?_)))));have S:=d.old.mono k;have lt:∀j,B j→j<H9.size:=fun j t=>Ae d.old (k j t);refine Ak (AdC lt (J.up S) (d.blk 1 rfl) F av (d.blk 2 rfl) hs r) fun H10 u=>?_;have c:=d.call u;refine Aj.mk (Ki (o:=o) (f:=17) (first:= #[]) (cap:= #[H_ K,H_ M,H_ O]) fun G rb T U V=>?_) ?_
 ·have l:=c.call T;have X:=c.size;refine Al.of_vc func17 rfl (call17 _) ?_
  repeat ((conv=>whnf);first | refine B_ ((l.blk 0 rfl).cellE rfl) trivial ?_ | refine B_ ((l.blk 1 rfl).cellE rfl) trivial ?_ | refine B_ ((l.blk 2 rfl).cellE rfl) trivial ?_)
  refine Aj.mk (I (rb:=rb) ⟨fun j t=>Ae l.old (k j t),fun h=>by have:=k rb h;omega,V,J_ _⟩ (E.up (fun _ h=>h) (l.old.mono k))) ?_;rintro _ G' ⟨j,h⟩;have e:=h.e;subst e;(conv=>whnf);exact⟨j,rfl,h.x,h.bl⟩
 ·rintro _ H11 ⟨rfl,z⟩;have D:=c.call z;refine AD (cs:=Y' 0 0 nx) D 3 rfl rfl (J_ _) rfl fun H12 m=>(L_ (cs:=Y' 0 0 nx) (EI (m.blk 3 rfl)) trivial ?_);exact⟨rfl,m.old⟩
theorem Yc{rb k:Nat}{op:LO}{q x y:Tm}{Q:QuM}{xs ys:List (List Nat)}{os:List ByteArray}{F:List Int}{cst:Nat}(I:PeH A xs ys op F cst)(c:os.length=ys.length)(l:∀(i:Nat) (y:List Nat) (o:ByteArray),ys[i]?=some y→os[i]?=some o→∃(f:Nat) (x:List Nat),F[i]?=some (f:Int)∧xs[f]?=some x∧Ev .put A (bA y) (bA x) o)(L:cst+(AS os).size≤k)(M:A≠ .nil)(m:Nw A.s (bA xs.flatten) xs)(r:Nw A.v (bA ys.flatten) ys)(t:xs.flatten.length≤1048576)(u:xs.length≤1048576)(z:ys.flatten.length≤1048576)(D:ys.length≤1048576)(N:Dw B H rb k)(J:M' B H (.mk (.le p op n w q x y) a b Q A C) vl):
  Al prog 18 #[H_ rb,vl,.string (bA ys.flatten),.string (bA xs.flatten)] H (fun R H'=>∃j,F0 H rb j (AS os) R H'):=by
 have K:=VK I c l L M m r t u z D N J;obtain⟨g,gt,tl,vs,vv,vq,vA,vC,rfl,E⟩:=HJ J;obtain⟨ws,d⟩:∃ws,ws=op.s:=⟨_,rfl⟩;rw[←d]at E;have T:=DJ d;refine Al.of_vc func18 rfl (call18 _) ?_
 repeat ((conv=>whnf);first | refine Af.run ?_ | refine F_ ?_ | refine B_ (E.bg.cellE rfl) trivial ?_ | refine B_ (E.bt.cellE rfl) trivial ?_)
 (conv=>whnf);cases I
 ·refine Ag.ff (T.t0.trans rfl) ?_
  repeat (refine Af.run ?_)
  (conv=>whnf);refine Ag.ff (T.t1.trans rfl) ?_
  repeat (refine Af.run ?_)
  (conv=>whnf);refine Ag.ff (T.t3.trans rfl) ?_
  repeat (refine Af.run ?_)
  (conv=>whnf);refine Ag.ff (T.t10.trans rfl) ?_
  repeat (refine Af.run ?_)
  (conv=>whnf);refine Ag.ff (T.t11.trans rfl) ?_
  repeat (refine Af.run ?_)
  (conv=>whnf);refine Ag.ff (T.t9.trans rfl) ?_
  repeat (refine Af.run ?_)
  (conv=>whnf);refine Ag.tt (T.t8.trans rfl) ?_
  repeat (refine Af.run ?_)
  refine Aj.mk K ?_;rintro _ G ⟨j,h⟩;have e:=h.e;subst e;(conv=>whnf);exact⟨j,rfl,h.x,h.bl⟩
 ·refine Ag.ff (T.t0.trans rfl) ?_
  repeat (refine Af.run ?_)
  (conv=>whnf);refine Ag.ff (T.t1.trans rfl) ?_
  repeat (refine Af.run ?_)
  (conv=>whnf);refine Ag.ff (T.t3.trans rfl) ?_
  repeat (refine Af.run ?_)
  (conv=>whnf);refine Ag.ff (T.t10.trans rfl) ?_
  repeat (refine Af.run ?_)
  (conv=>whnf);refine Ag.ff (T.t11.trans rfl) ?_
  repeat (refine Af.run ?_)
  (conv=>whnf);refine Ag.ff (T.t9.trans rfl) ?_
  repeat (refine Af.run ?_)
  (conv=>whnf);refine Ag.ff (T.t8.trans rfl) ?_
  repeat (refine Af.run ?_)
  (conv=>whnf);refine Ag.tt (T.t7.trans rfl) ?_
  repeat (refine Af.run ?_)
  refine Aj.mk K ?_;rintro _ G ⟨j,h⟩;have e:=h.e;subst e;(conv=>whnf);exact⟨j,rfl,h.x,h.bl⟩
end
section
attribute [local irreducible] AN Bb AY EA
def Bl(T:List (List Nat))(P:List Nat)(w:List Nat)(Q:List Nat):Prop:=∀i∈P,F6 T i w∈Q
def CF(T:List (List Nat))(P:List Nat)(c:Nat)(Q:List Nat):Bool:=P.all fun i=>Q.contains (stT T i c)
section
variable{T:List (List Nat)}{P Q R:List Nat}{w z:List Nat}{c b:Nat}
theorem Bl.app(h:Bl T P w Q)(k:Bl T Q z R):Bl T P (w++z) R:=fun i a=>by
 unfold F6;rw[Yca];exact k _ (h i a)
theorem Ni(h:CF T P c Q=true){i:Nat}(hi:i∈P)(a:cix b=c):stT T i (cix b)∈Q:=by
 unfold CF at h;rw[Ycc]at h;have:=h i hi;rwa [Ydn,←a]at this
theorem Bl.one(a:cix b=c)(h:CF T P c Q=true):Bl T P [b] Q:=fun i d=>Ni h d a
theorem Bl.many(d:∀b∈w,cix b=c)(h:CF T Q c Q=true):Bl T Q w Q:=by
 induction w with
 | nil=>exact fun i a=>a
 | cons b w e=>exact fun i a=>e (fun x f=>d x (YbX _ f)) _ (Ni h a (d b (by simp)))
theorem Bl.opt(d:∀b∈w,cix b=c)(a:(P.all fun i=>Q.contains i)=true)(h:CF T Q c Q=true):Bl T P w Q:=fun i e=>by
 rw[Ycc]at a;have:=a i e;rw[Ydn]at this;exact Bl.many d h i this
theorem Bl.some(a:w≠[])(d:∀b∈w,cix b=c)(e:CF T P c Q=true)(h:CF T Q c Q=true):Bl T P w Q:=by
 cases w with
 | nil=>exact absurd rfl a
 | cons b w=>exact fun i f=>Bl.many (fun x g=>d x (YbX _ g)) h _ (Ni e f (d b (by simp)))
theorem Bl.acc{f:Nat}(h:Bl T [0] w Q)(a:(Q.all fun i=>f.testBit i)=true):f.testBit (F6 T 0 w)=true:=by
 rw[Ycc]at a;exact a _ (h 0 (by simp))
def lowB(T:List (List Nat)):Bool:=decide (0<T.length)&&T.all fun r=>r.all fun j=>decide (j<T.length)
theorem JP(h:lowB T=true):∀{w:List Nat} {i:Nat},i<T.length→F6 T i w<T.length
 | [],i,hi=>hi
 | b::w,i,hi=>by
   have a:=h;unfold lowB at a;simp only[h_,Zzj,Ycc]at a;refine JP h (w:=w) (i:=stT T i (cix b)) ?_;unfold stT;rw[Ya5,Ya5];cases d:T[i]? with
   | none=>exact a.1
   | some r=>
     cases c:r[cix b]? with
     | none=>simp[c,a.1]
     | some j=>simp only[Option.getD_some,c];exact a.2 r (d_ d) j (d_ c)
end
theorem WG{b:Nat}(h:cix b≠0):b<256:=by
 unfold cix at h
 repeat' split at h
 all_goals first | omega | exact absurd rfl h
structure E7(u d t:List Nat):Prop where
 ne:u≠[]
 u:∀b∈u,cix b=5
 d:∀b∈d,cix b=1
 t:∀b∈t,cix b=4
theorem Cb{w:List Nat}{c:Nat}(a:c≠0)(h:∀b∈w,cix b=c):A9 w:=fun b d=>WG (by rw[h b d];exact a)
theorem Bo{v w:List Nat}(h:A9 v)(k:A9 w):A9 (v++w):=fun b a=>(q_.1 a).elim (h b) (k b)
theorem Kj{b:Nat}(h:b<256):A9 [b]:=fun c a=>by rw[V_.1 a];exact h
theorem DD(v w:List Nat):bA (v++w)=bA v++bA w:=by
 apply Ds;rw[ByteArray.data_append,Array.toList_append,F9,F9,F9,Ybk]
theorem Ev.catL{m:EM}{p:Nat}{n:Option ReM}{w:ByteArray}{q x y:Tm}{a b:ReM}{Q:QuM}{A C:LnM}{c d e f g o2:List Nat}(h:A≠ .nil)(j:C≠ .nil)(hs:RN A.s C.s (bA e) (bA f))(k:RN A.v C.v (bA c) (bA d))(l:Ev m A (bA c) (bA e) (bA g))(r:Ev m C (bA d) (bA f) (bA o2)):Ev m (.mk (.le p .cat n w q x y) a b Q A C) (bA (c++d)) (bA (e++f)) (bA (g++o2)):=by
 rw[DD,DD,DD];exact .cat h j (fun _=>hs) (fun _=>k) l r
def AbB(m:EM)(u t v e:List Nat)(d:List Nat):List Nat:=match m with
 | .get=>u++[61]++d++[]++[59]
 | .put=>v++[61]++e++(t++[59])++[]
 | .cre=>v++[61]++e++[78,69,87,59]++[]
 | .sk=>u++[]++[]++[]++[]
 | .vk=>v++[]++[]++[]++[]
theorem Mr(m:EM){u d t v e:List Nat}(h:E7 u d t)(k:E7 v e []):Ev m lA (bA (v++[61]++e++[]++[59])) (bA (u++[61]++d++(t++[59])++[])) (bA (AbB m u t v e d)):=by
 have a:A9 [61]:=Kj (by decide);have j:A9 [59]:=Kj (by decide);have p:=Cb (by decide) h.u;have r:=Cb (by decide) h.d;have bt:=Bo (Cb (by decide) h.t) j;have q:=Cb (by decide) k.u;have w:=Cb (by decide) k.d;have x:A9 []:=fun b C=>by cases C
 have z:∀{u d t},E7 u d t→Bl tK [0] u [2,3]:=fun h=>.some h.ne h.u rfl rfl;have A:Bl tE [0] [61] [2]:=.one (c:=3) rfl rfl;have l:∀{u d t},E7 u d t→Bl tKE [0] (u++[61]) [3]:=fun h=>(Bl.some (Q:=[2,4]) h.ne h.u rfl rfl).app (.one (c:=3) rfl rfl);have B:∀{u d t},E7 u d t→Bl tD [0] d [0,2]:=fun h=>.opt h.d rfl rfl;have f:∀{u d t},E7 u d t→Bl tKD [0] (u++[61]++d) [3,5]:=fun h=>((Bl.some (Q:=[2,4]) h.ne h.u rfl rfl).app (.one (c:=3) (Q:=[3]) rfl rfl)).app (.opt h.d rfl rfl);have D:Bl tT [0] (t++[59]) [2]:=(Bl.opt (Q:=[0,3]) h.t rfl rfl).app (.one (c:=2) rfl rfl);have rS:Bl tSr [0] (u++[61]++d++(t++[59])) [6]:=(((Bl.some (Q:=[2,4]) h.ne h.u rfl rfl).app (.one (c:=3) (Q:=[3]) rfl rfl)).app (.opt (Q:=[3,5]) h.d rfl rfl)).app ((Bl.opt (Q:=[3,5,7]) h.t rfl rfl).app (.one (c:=2) rfl rfl));have E:Ev m l1 (bA v) (bA u) (bA (match m with | .get | .sk=>u | _=>v)):=by cases m<;>exact Ev.leaf (by decide)
 have e2:Ev m l2 (bA [61]) (bA [61]) (bA (match m with | .sk | .vk=>[] | _=>[61])):=by cases m<;>exact Ev.leaf (by decide)
 have F:Ev m l3 (bA e) (bA d) (bA (match m with | .sk | .vk=>[] | .get=>d | _=>e)):=by cases m<;>exact Ev.leaf (by decide)
 have G:Ev m l4 (bA []) (bA (t++[59])) (bA (match m with | .put=>t++[59] | .cre=>[78,69,87,59] | _=>[])):=by cases m<;>exact Ev.leaf (by decide)
 have H:Ev m l5 (bA [59]) (bA []) (bA (match m with | .get=>[59] | _=>[])):=by cases m<;>exact Ev.leaf (by decide)
 have y:Ev m l12 _ _ _:=Ev.catL nofun nofun (Q3 cK cE (by kernel_rfl) p a ((z h).acc rfl) (A.acc rfl)) (Q3 cK cE (by kernel_rfl) q a ((z k).acc rfl) (A.acc rfl)) E e2;have n:Ev m AeI _ _ _:=Ev.catL nofun nofun (Q3 cKE cD (by kernel_rfl) (Bo p a) r ((l h).acc rfl) ((B h).acc rfl)) (Q3 cKE cD (by kernel_rfl) (Bo q a) w ((l k).acc rfl) ((B k).acc rfl)) y F;have g:Ev m Xw _ _ _:=Ev.catL nofun nofun (Q3 cKD cT (by kernel_rfl) (Bo (Bo p a) r) bt ((f h).acc rfl) (D.acc rfl)) (Q3 cKD cNo (by kernel_rfl) (Bo (Bo q a) w) x ((f k).acc rfl) rfl) n G;have I:Ev m lA _ _ _:=Ev.catL nofun nofun (Q3 cS4 cNo (by kernel_rfl) (Bo (Bo (Bo p a) r) bt) x (rS.acc rfl) rfl) (Q3 cV4 cI (by kernel_rfl) (Bo (Bo (Bo q a) w) x) j (by rw[Yba];exact(f k).acc rfl) rfl) g H;cases m<;>exact I
end
def GS(lo hi b:Nat):Bool:=decide (lo≤b)&&decide (b≤hi)
def IA(s:ByteArray)(lo hi n:Nat):List Nat:=((unB s).filter (GS lo hi)).take n
theorem AbP{s:ByteArray}{i:Nat}{b:UInt8}(h:s.data[i]?=some b):(unB s)[i]?=some b.toNat:=by
 unfold unB;rw[t_,Yag,h];rfl
theorem V3{s:ByteArray}{lo hi n i:Nat}(a:(((unB s).take i).filter (GS lo hi)).length≤n)(h:s.size≤i∨n≤(((unB s).take i).filter (GS lo hi)).length):IA s lo hi n=((unB s).take i).filter (GS lo hi):=by
 unfold IA;rcases h with h | h
 ·rw[Ycy (l:=unB s) (by rw[LH];exact h)]at a ⊢;rw[Ycy a]
 ·obtain⟨r,b⟩:∃r,(unB s).filter (GS lo hi)=((unB s).take i).filter (GS lo hi)++r:=by
   refine⟨((unB s).drop i).filter (GS lo hi),?_⟩;rw[←Yce,Ybb]
  rw[b,List.take_append_of_le_length h,Ycy a]
theorem XO{H:Aa}{s:ByteArray}{lo hi n:Nat}(hs:s.size≤1048576)(D:lo<256)(E:hi<256)(O:n≤1048576):AZ prog 7 #[.string s,.int .u8 (lo:Int),.int .u8 (hi:Int),C_ n] H (.string (bA (IA s lo hi n))):=by
 refine Al.of_vc func7 rfl (call7 _) ?_;(conv=>whnf);refine A8.mk [9,10] (fun x:Nat×Option Addr×Nat=>match x with | (i,a,c)=>[.slice a (((unB s).take i).filter (GS lo hi)).length c,C_ i])
  (fun x G=>x.1≤s.size∧(((unB s).take x.1).filter (GS lo hi)).length≤n∧St H G [pS tU8 5 x.2.1 (((unB s).take x.1).filter (GS lo hi)).length x.2.2 ((((unB s).take x.1).filter (GS lo hi)).map fun(b:Nat)=>(b:Int))]) (fun x _=>s.size-x.1) ?_ ?_
 ·(conv=>whnf);exact⟨(0,none,0),rfl,l_ _,l_ _,(St.nil H).nils tU8 5⟩
 ·rintro⟨i,a,c⟩ G z ⟨q,j,d⟩;simp only at q j d;obtain⟨L,g⟩:∃L,((unB s).take i).filter (GS lo hi)=L:=⟨_,rfl⟩;have F:L.length≤i:=by
   rw[←g];exact YbC (Ycg _ _) (by rw[YaN];omega)
  by_cases l:s.size≤i∨n≤L.length
  ·have fin:=V3 (s:=s) (lo:=lo) (hi:=hi) (n:=n) (i:=i) j (by rw[g];exact l);rw[g]at fin j d;rw[fin];simp only[g];have f:∀{K:v_→Aa→Prop},K (.string (bA L)) G→Ba prog (convert 47 9 (.slice a L.length c)) G K:=fun k=>PW (e:=5) L d 0 rfl underlying47 underlying5 underlying9 k;by_cases A:(i:Int)<(s.size:Int)
   ·(conv=>whnf);rw[g_ A];(conv=>whnf);rw[a_ (show¬(L.length:Int)<(n:Int) by omega)];refine f ?_;(conv=>whnf);exact⟨rfl,d.old⟩
   ·(conv=>whnf);rw[a_ A];refine f ?_;(conv=>whnf);exact⟨rfl,d.old⟩
  ·rw[g]at j d;have⟨b,p⟩:=En (s:=s) (k:=i) (by omega);have r:=AbP p;have t:b.toNat<256:=UInt8.toNat_lt b;simp only[g];(conv=>whnf);rw[g_ (show(i:Int)<(s.size:Int) by omega)];(conv=>whnf);rw[g_ (show(L.length:Int)<(n:Int) by omega)];have next:∀M,((unB s).take (i+1)).filter (GS lo hi)=M↔L++(if GS lo hi b.toNat then [b.toNat]else [])=M:=fun M=>by
    rw[Yd0,r,Yce,g];cases h:GS lo hi b.toNat<;>simp[h]
   repeat (refine Af.run ?_)
   refine Ci Hv rfl p ?_;by_cases B:lo≤b.toNat
   ·(conv=>whnf);rw[g_ (show(lo:Int)≤(b.toNat:Int) by omega)];refine Ci Hv rfl p ?_;by_cases C:b.toNat≤hi
    ·have e:=(next (L++[b.toNat])).2 (by simp[GS,B,C]);(conv=>whnf);rw[g_ (show(b.toNat:Int)≤(hi:Int) by omega)]
     repeat (refine Af.run ?_)
     refine Ci Hv rfl p (Az Jd [.int .u8 (b.toNat:Int)] rfl rfl (by decide) (by decide) ?_);intro P H6 u I w y;refine GH (x:=(b.toNat:Int)) (d.skip u y) 0 Jd rfl w ⟨rfl,Lo t⟩ rfl (by rw[Z_];omega) (by decide) fun a' J H7 m _=>?_
     repeat (refine Af.run ?_)
     (conv=>whnf);rw[R_ i (by omega)];have N:L.map (fun(b:Nat)=>(b:Int))++[(b.toNat:Int)]=(L++[b.toNat]).map fun(b:Nat)=>(b:Int):=by simp
     rw[N,Z_]at m;rw[Z_];refine⟨rfl,(i+1,a',J),by simp only[e,Q_,k_];rfl,⟨by simp only;omega,by simp only[e,Q_,k_];omega,by simp only[e,Q_,k_];exact m⟩,by simp only;omega⟩
    ·have e:=(next L).2 (by simp[GS,C]);(conv=>whnf);rw[a_ (show¬(b.toNat:Int)≤(hi:Int) by omega)]
     repeat (refine Af.run ?_)
     (conv=>whnf);rw[R_ i (by omega)];refine⟨rfl,(i+1,a,c),by simp only[e];rfl,⟨by simp only;omega,by simp only[e];exact j,by simp only[e];exact d⟩,by simp only;omega⟩
   ·have e:=(next L).2 (by simp[GS,B]);(conv=>whnf);rw[a_ (show¬(lo:Int)≤(b.toNat:Int) by omega)]
    repeat (refine Af.run ?_)
    (conv=>whnf);rw[R_ i (by omega)];refine⟨rfl,(i+1,a,c),by simp only[e];rfl,⟨by simp only;omega,by simp only[e];exact j,by simp only[e];exact d⟩,by simp only;omega⟩
section
attribute [local irreducible] AN Bb AY EA
def I3(u t:List Nat):List Nat:=u++([61,55]++(t++[59]))
def IZ(u:List Nat):List Nat:=u++[61,56,59]
def N5(u t:List Nat):List Nat:=u++([61,56]++(t++[59]))
theorem E7.bare{u d t:List Nat}(h:E7 u d t):E7 u [56] []:=⟨h.ne,h.u,by intro b a;rw[V_.1 a];rfl,fun b a=>by cases a⟩
section
variable{u v t:List Nat}
theorem Xc(h:E7 u [55] t)(k:E7 v [55] []):Ev .put lA (bA (IZ v)) (bA (I3 u t)) (bA (N5 v t)):=by
 have:=Mr .put h k.bare;simpa [AbB,IZ,I3,N5]using this
theorem AgU(h:E7 u [55] t):∃z,Ev .sk lA z (bA (I3 u t)) (bA u):=by
 have:=Mr .sk h h.bare;exact⟨_,by simpa [AbB,I3]using this⟩
theorem AgV(h:E7 u [55] t):∃z,Ev .vk lA (bA (IZ u)) z (bA u):=by
 have:=Mr .vk h h.bare;exact⟨_,by simpa [AbB,IZ]using this⟩
theorem W4(h:E7 u [55] t):A9 (I3 u t):=Bo (Cb (by decide) h.u) (Bo (fun b a=>by simp at a;omega) (Bo (Cb (by decide) h.t) (Kj (by decide))))
theorem W5(h:E7 u [55] t):A9 (IZ u):=Bo (Cb (by decide) h.u) fun b a=>by simp at a;omega
theorem runS(h:E7 u [55] t){T:List (List Nat)}{P:List Nat}(a:CF T P 5 [2,4]=true)(d:CF T [2,4] 5 [2,4]=true)(e:CF T [2,4] 3 [3]=true)(f:CF T [3] 1 [3,5,7]=true)(g:CF T [3,5,7] 4 [3,5,7]=true)(j:CF T [3,5,7] 2 [6]=true):Bl T P (I3 u t) [6]:=
 (Bl.some (Q:=[2,4]) h.ne h.u a d).app (((Bl.one (b:=61) (c:=3) (Q:=[3]) rfl e).app (.one (b:=55) (c:=1) rfl f)).app ((Bl.many (Q:=[3,5,7]) h.t g).app (.one (c:=2) rfl j)))
theorem runV(h:E7 u [55] t){T:List (List Nat)}{P:List Nat}(a:CF T P 5 [2,4]=true)(d:CF T [2,4] 5 [2,4]=true)(e:CF T [2,4] 3 [3]=true)(f:CF T [3] 1 [5]=true)(g:CF T [5] 2 [6]=true):Bl T P (IZ u) [6]:=
 (Bl.some (Q:=[2,4]) h.ne h.u a d).app ((Bl.one (b:=61) (c:=3) (Q:=[3]) rfl e).app ((Bl.one (b:=56) (c:=1) (Q:=[5]) rfl f).app (.one (b:=59) (c:=2) rfl g)))
end
theorem AaC(u t:List Nat):(I3 u t).length=u.length+t.length+3:=by simp[I3];omega
theorem Vr(u:List Nat):(IZ u).length=u.length+3:=by simp[IZ]
theorem lenP(u t:List Nat):(N5 u t).length=u.length+t.length+3:=by simp[N5];omega
structure E8(ks ts:List (List Nat))(sel:List Nat):Prop where
 len:ts.length=ks.length
 rec_:∀(i:Nat) (u t:List Nat),ks[i]?=some u→ts[i]?=some t→E7 u [55] t∧t.length≤20
 nd:ks.Nodup
 sl:∀j∈sel,j<ks.length
 sd:sel.Nodup
def xsL(ks ts:List (List Nat)):List (List Nat):=List.zipWith I3 ks ts
def ysL(ks:List (List Nat))(sel:List Nat):List (List Nat):=sel.map fun j=>IZ (ks.getD j [])
def okL(ks ts:List (List Nat))(sel:List Nat):List (List Nat):=sel.map fun j=>N5 (ks.getD j []) (ts.getD j [])
def opL(ks ts:List (List Nat))(sel:List Nat):List (List Nat):=sel.zipIdx.map fun p=>N5 (ks.getD p.1 []) (ts.getD p.2 [])
theorem Dp(l:List (List Nat)):AS (l.map bA)=bA l.flatten:=by
 have b:∀(l:List (List Nat)) (a:List Nat),(l.map bA).foldl (·++·) (bA a)=bA (a++l.flatten):=fun l=>by
  induction l with
  | nil=>intro a;simp
  | cons x l c=>
    intro a;rw[YaQ,List.foldl_cons,←DD,c];simp
 have:=b l [];rw[Ybj]at this;exact this
theorem J6{α:Type}(l:List α)(f g:α→List Nat)(c:Nat)(h:∀x∈l,(f x).length≤c*(g x).length):(l.map f).flatten.length≤c*(l.map g).flatten.length:=by
 induction l with
 | nil=>simp
 | cons x l a=>
   have d:=h x (by simp);have e:=a fun y b=>h y (YbX _ b);simp only[YaQ,Ydo,Q_,Nat.mul_add];omega
theorem L4{l:List (List Nat)}(h:∀x∈l,1≤x.length):l.length≤l.flatten.length:=by
 induction l with
 | nil=>simp
 | cons x l a=>
   have c:=h x (by simp);have d:=a fun y b=>h y (YbX _ b);simp only[j_,Ydo,Q_];omega
theorem Xe{n j:Nat}{f:Nat→Bool}(a:j<n)(h:∀m,m<n→f m=decide (m=j)):(AhM n).filter f=[j]:=by
 have e:(AhM n).filter f=(AhM n).filter fun m=>m==j:=List.filter_congr fun m b=>by rw[h m (Ych.1 b)];rfl
 rw[e,List.filter_beq];rw[List.nodup_range.count,I_ (Ych.2 a)]<;>rfl
section
variable{ks ts:List (List Nat)}{sel:List Nat}
theorem Cq{l:List (List Nat)}{j:Nat}(h:j<l.length):l[j]?=some (l.getD j []):=by
 rw[Ya5,Ya2 h];rfl
theorem E8.at_(h:E8 ks ts sel){j:Nat}(a:j<ks.length):E7 (ks.getD j []) [55] (ts.getD j [])∧(ts.getD j []).length≤20:=h.rec_ j _ _ (Cq a) (Cq (by rw[h.len];exact a))
theorem E8.xs(h:E8 ks ts sel){x:List Nat}(d:x∈xsL ks ts):∃u t,x=I3 u t∧E7 u [55] t:=by
 have⟨i,a⟩:=YaT d;unfold xsL at a;rw[Yd3]at a;cases b:ks[i]? with
 | none=>rw[b]at a;cases a
 | some u=>
   cases c:ts[i]? with
   | none=>rw[b,c]at a;cases a
   | some t=>rw[b,c]at a;cases a;exact⟨u,t,rfl,(h.rec_ i u t b c).1⟩
theorem LL(h:E8 ks ts sel):(xsL ks ts).length=ks.length:=by unfold xsL;rw[List.length_zipWith,h.len,Nat.min_self]
theorem Kd(h:E8 ks ts sel){j:Nat}(a:j<ks.length):(xsL ks ts)[j]?=some (I3 (ks.getD j []) (ts.getD j [])):=by
 unfold xsL;rw[Yd3,Cq a,Cq (l:=ts) (by rw[h.len];exact a)]
theorem E8.ys(h:E8 ks ts sel){y:List Nat}(a:y∈ysL ks sel):∃u t,y=IZ u∧E7 u [55] t:=by
 obtain⟨j,b,rfl⟩:=Ycp.1 a;exact⟨_,_,rfl,(h.at_ (h.sl j b)).1⟩
theorem chkS(h:E8 ks ts sel):Nw xS (bA (xsL ks ts).flatten) (xsL ks ts):=Z1 cS (d:=1) (by kernel_rfl) fun x b=>by
 obtain⟨u,t,rfl,a⟩:=h.xs b;exact⟨W4 a,by unfold I3;simp,fun k=>JP (by rfl) (by decide),(runS (P:=[0]) a rfl rfl rfl rfl rfl rfl).acc rfl⟩
theorem chkV(h:E8 ks ts sel):Nw xV (bA (ysL ks sel).flatten) (ysL ks sel):=Z1 cV (d:=1) (by kernel_rfl) fun y b=>by
 obtain⟨u,t,rfl,a⟩:=h.ys b;exact⟨W5 a,by unfold IZ;simp,fun k=>JP (by rfl) (by decide),(runV (P:=[0]) a rfl rfl rfl rfl rfl).acc rfl⟩
theorem Nh{T:List (List Nat)}{P:List Nat}:∀{l:List (List Nat)},(∀x∈l,Bl T P x P)→Bl T P l.flatten P
 | [],_=>fun i a=>a
 | x::l,h=>by
   rw[Ydo];exact(h x (by simp)).app (Nh fun y b=>h y (YbX _ b))
theorem Bl.weak{T:List (List Nat)}{P Q R:List Nat}{w:List Nat}(h:Bl T P w Q)(k:∀i∈Q,i∈R):Bl T P w R:=fun i a=>k _ (h i a)
theorem My{l:List (List Nat)}(h:∀x∈l,A9 x):A9 l.flatten:=fun b c=>by
 have⟨x,d,a⟩:=List.mem_flatten.1 c;exact h x d b a
theorem hasS(h:E8 ks ts sel):Gm (.star xS) (bA (xsL ks ts).flatten)=true:=by
 rw[cSS.has (My fun x b=>by obtain⟨u,t,rfl,a⟩:=h.xs b;exact W4 a)];have a:Bl tSS [0,6] (xsL ks ts).flatten [0,6]:=Nh fun x b=>by
  obtain⟨u,t,rfl,a⟩:=h.xs b;exact(runS a rfl rfl rfl rfl rfl rfl).weak (by simp)
 have:=a 0 (by simp);rcases Ybe.1 this with e | e
 ·rw[e];rfl
 ·rw[V_.1 e];rfl
theorem hasV(h:E8 ks ts sel):Gm (.star xV) (bA (ysL ks sel).flatten)=true:=by
 rw[cVV.has (My fun y b=>by obtain⟨u,t,rfl,a⟩:=h.ys b;exact W5 a)];have a:Bl tVV [0,6] (ysL ks sel).flatten [0,6]:=Nh fun y b=>by
  obtain⟨u,t,rfl,a⟩:=h.ys b;exact(runV a rfl rfl rfl rfl rfl).weak (by simp)
 have:=a 0 (by simp);rcases Ybe.1 this with e | e
 ·rw[e];rfl
 ·rw[V_.1 e];rfl
theorem XJ(h:E8 ks ts sel):(okL ks ts sel).flatten.length≤6*(ysL ks sel).flatten.length:=J6 sel _ _ 6 fun j a=>by
 have⟨b,c⟩:=h.at_ (h.sl j a);have:=Yd6.2 b.ne;rw[lenP,Vr];omega
theorem Ab0:(opL ks ts sel).length=sel.length:=by unfold opL;rw[Z_,List.length_zipIdx]
theorem XQ(h:E8 ks ts sel)(hs:sel.length≤ks.length):(opL ks ts sel).flatten.length≤6*(ysL ks sel).flatten.length:=by
 have e:ysL ks sel=sel.zipIdx.map fun p=>IZ (ks.getD p.1 []):=by
  unfold ysL
  conv=>lhs;rw[←List.zipIdx_map_fst 0 sel]
  rw[Ycv];rfl
 rw[e];refine J6 sel.zipIdx _ _ 6 fun p a=>?_;have b:p.1∈sel:=List.fst_mem_of_mem_zipIdx a;have d:=List.snd_lt_of_mem_zipIdx a;obtain⟨c,-⟩:=h.at_ (h.sl _ b);have f:=(h.at_ (show p.2<ks.length by omega)).2;have:=Yd6.2 c.ne;rw[lenP,Vr];omega
theorem E8.le(h:E8 ks ts sel):sel.length≤ks.length:=by
 have:=K0 (M:=AhM ks.length) h.sd fun j a=>Ych.2 (h.sl j a);rwa [Yd1]at this
theorem TA{u v:List Nat}(a:A9 u)(b:A9 v)(h:bA u=bA v):u=v:=by rw[←Ts a,h,Ts b]
theorem UV(h:E8 ks ts sel):Di (sel.map fun j=>bA (ks.getD j [])) (ks.map bA)=sel.map fun(j:Nat)=>(j:Int):=by
 have bk:∀{j},j<ks.length→A9 (ks.getD j []):=fun b=>Cb (by decide) (h.at_ b).1.u;have r:∀{i j},i<ks.length→j<ks.length→ks.getD i []=ks.getD j []→i=j:=fun{i j} c b e=>by
  have q:=Cq c;have t:=Cq b;rw[e]at q;exact JH h.nd q t
 have a:∀{i j},i<ks.length→j<ks.length→(same (bA (ks.getD i [])) (bA (ks.getD j []))=true↔i=j):=fun{i j} c b=>by
  rw[PB];exact⟨fun e=>r c b (TA (bk c) (bk b) e),fun e=>by rw[e]⟩
 unfold Di;apply YaH;intro i;rw[Z_];by_cases c:i<sel.length
 ·have hs:sel[i]?=some sel[i]:=Ya2 c;obtain⟨j,b⟩:∃j,sel[i]=j:=⟨_,rfl⟩;rw[b]at hs;have d:=h.sl j (d_ hs);rw[t_,Ybf c,t_,hs];simp only[YcH]
  congr 1
  unfold Jg;rw[t_,hs];simp only[YcH];have w:AA (ks.map bA) (ks.map bA).length (bA (ks.getD j []))=[j]:=by
   unfold AA;rw[Z_];refine Xe d fun m f=>?_;rw[t_,Cq f];simp only[YcH,Option.any_some];rw[Bool.eq_iff_iff,a f d,Zzj]
  have e2:AU (sel.map fun j=>bA (ks.getD j [])) i (bA (ks.getD j []))=0:=by
   unfold AU;rw[List.length_eq_zero_iff,List.filter_eq_nil_iff,←List.map_take];intro x y g;obtain⟨m,f,rfl⟩:=Ycp.1 y;have k:=YcP f;rw[a (h.sl m k) d]at g;subst g;have⟨l,n⟩:=YaT f;have p:=(X_.1 n).1;rw[YaN]at p;rw[List.getElem?_take,I_ (by omega)]at n;have:=JH h.sd n hs;omega
  rw[w,e2];rfl
 ·rw[YaE (by simp;omega),YaE (by simp;omega)]
end
end
section
variable{B:Nat→Prop}{H:Aa}{vl:v_}{ks ts:List (List Nat)}{sel:List Nat}
theorem Y6(l:List Nat)(f g:Nat→List Nat)(h:∀x∈l,(f x).length≤(g x).length):(l.map f).flatten.length≤(l.map g).flatten.length:=by
 have:=J6 l f g 1 (by simpa using h);omega
theorem Yb(h:E8 ks ts sel)(C:∀j,B j→j<H.size)(D:M' B H Vp vl)(g:(xsL ks ts).flatten.length≤16384)(c:(ysL ks sel).flatten.length≤16384):
  Al prog 8 #[vl,.string (bA (ysL ks sel).flatten),.string (bA (xsL ks ts).flatten)] H fun R H'=>R= .tuple #[.string (bA (okL ks ts sel).flatten),ftA 0 0 nx]∧A_ (D_ H) H H':=by
 have r:=LL h;have w:(ysL ks sel).length=sel.length:=Z_ _;have E:(xsL ks ts).length≤(xsL ks ts).flatten.length:=L4 fun x g=>by obtain⟨u,t,rfl,-⟩:=h.xs g;rw[AaC];omega
 have F:(ysL ks sel).length≤(ysL ks sel).flatten.length:=L4 fun x g=>by obtain⟨u,t,rfl,-⟩:=h.ys g;rw[Vr];omega
 refine Yd C (show M' B H (.mk (.le 0 .keyed none nx .nil mA .nil) (.star xS) (.star xV) .nil lA .nil) vl from D) (by rw[AB];exact c) (hasV h) (by rw[AB];exact g) (hasS h) fun{G rb} I p=>?_;have J:PeH lA (xsL ks ts) (ysL ks sel) .keyed (Di (sel.map fun j=>bA (ks.getD j [])) (ks.map bA)) _:=.keyed (by rw[Z_,w]) (by rw[Z_,r]) (fun i y z c n=>by
  unfold ysL at c;rw[t_,Ydt]at c n;obtain⟨j,m,rfl⟩:=c;obtain⟨K,a,rfl⟩:=n;rw[m]at a;cases a;exact AgV (h.at_ (h.sl j (d_ m))).1) (fun i x z g n=>by
  rw[t_,Ydt]at n;obtain⟨u,A,rfl⟩:=n;have f:=(X_.1 A).1;rw[Kd h f]at g;cases g;have:=Cq f;rw[A]at this;cases this;exact AgU (h.at_ f).1)
 have:=Yc (os:=(okL ks ts sel).map bA) J (by rw[Z_,w];exact Z_ _) (fun i y o c q=>by
  unfold ysL at c;unfold okL at q;rw[t_,Ydt]at c;rw[Ycv,t_,Ydt]at q;obtain⟨j,m,rfl⟩:=c;obtain⟨K,a,rfl⟩:=q;rw[m]at a;cases a;have l:=h.sl j (d_ m);refine⟨j,_,by rw[UV h,t_,m];rfl,Kd h l,Xc (h.at_ l).1 (?_:E7 _ _ _)⟩;have:=(h.at_ l).1;exact⟨this.ne,this.u,this.d,fun b L=>by cases L⟩) (k:=1048576) (by
  have M:AS (sel.map fun j=>bA (ks.getD j []))=bA (sel.map fun j=>ks.getD j []).flatten:=by rw[←Dp,Ycv];rfl
  have O:(sel.map fun j=>ks.getD j []).flatten.length≤(ysL ks sel).flatten.length:=Y6 _ _ _ fun j _=>by rw[Vr];omega
  have P:ks.flatten.length≤(xsL ks ts).flatten.length:=by
   have e:ks=(AhM ks.length).map fun j=>ks.getD j []:=by
    apply YaH;intro i;by_cases f:i<ks.length
    ·rw[t_,Ybf f,Cq f];rfl
    ·rw[YaE (by omega),YaE (by simp;omega)]
   have N:xsL ks ts=(AhM ks.length).map fun j=>I3 (ks.getD j []) (ts.getD j []):=by
    apply YaH;intro i;by_cases f:i<ks.length
    ·rw[t_,Ybf f,Kd h f];rfl
    ·rw[YaE (by rw[r];omega),YaE (by simp;omega)]
   rw[N]
   conv=>lhs;rw[e]
   exact Y6 _ _ _ fun j _=>by rw[AaC];omega
  have Q:=XJ h;rw[M,Dp,Dp,AB,AB,AB];omega) nofun (chkS h) (chkV h) (by omega) (by omega) (by omega) (by omega) I p
 rwa [Dp]at this
theorem VL(h:E8 ks ts sel)(z:∀j,B j→j<H.size)(A:M' B H Uk vl)(a:(xsL ks ts).flatten.length≤16384)(c:(ysL ks sel).flatten.length≤16384):
  Al prog 8 #[vl,.string (bA (ysL ks sel).flatten),.string (bA (xsL ks ts).flatten)] H fun R H'=>R= .tuple #[.string (bA (opL ks ts sel).flatten),ftA 0 0 nx]∧A_ (D_ H) H H':=by
 have C:=LL h;have f:(ysL ks sel).length=sel.length:=Z_ _;have g:=h.le;have D:(xsL ks ts).length≤(xsL ks ts).flatten.length:=L4 fun x a=>by obtain⟨u,t,rfl,-⟩:=h.xs a;rw[AaC];omega
 have E:(ysL ks sel).length≤(ysL ks sel).flatten.length:=L4 fun x a=>by obtain⟨u,t,rfl,-⟩:=h.ys a;rw[Vr];omega
 refine Yd z (show M' B H (.mk (.le 80 .star none nx .nil mA .nil) (.star xS) (.star xV) .nil lA .nil) vl from A) (by rw[AB];exact c) (hasV h) (by rw[AB];exact a) (hasS h) fun{G rb} F l=>?_;have I:PeH lA (xsL ks ts) (ysL ks sel) .star _ 0:=.star;have:=Yc (os:=(opL ks ts sel).map bA) I (by rw[Z_,f,Ab0]) (fun i y o c m=>by
  unfold ysL at c;unfold opL at m;rw[t_,Ydt]at c;rw[Ycv,t_,Ydt]at m;obtain⟨j,n,rfl⟩:=c;obtain⟨p,r,rfl⟩:=m;rw[List.getElem?_zipIdx,n]at r;cases r;have q:=h.sl j (d_ n);have w:=(X_.1 n).1;have e:i<ks.length:=by omega
  refine⟨i,_,?_,Kd h e,?_⟩
  ·unfold Ff;rw[t_,Ybf (by rw[f];exact w)];simp only[YcH];rw[I_ (by rw[f];exact w),G_ (by rw[C];omega)]
  ·have:=(h.at_ q).1;simp only[Function.comp,P_];exact Xc (h.at_ e).1 ⟨this.ne,this.u,this.d,fun b J=>by cases J⟩) (k:=1048576) (by
  have K:=XQ h g;rw[Dp,AB];omega) nofun (chkS h) (chkV h) (by omega) (by omega) (by omega) (by omega) F l
 rwa [Dp]at this
theorem Uz{d t:List Nat}{b:Nat}(a:cix b=5)(hd:∀c∈d,cix c=1)(e:∀c∈t,cix c=4):E7 [b] d t:=⟨nofun,fun c f=>by rw[V_.1 f];exact a,hd,e⟩
theorem Xm(l:∀j,B j→j<H.size)(m:M' B H Vp vl):Al prog 5 #[vl,.string (bA [97,61,49,88,59])] H fun R H'=>R= .tuple #[.string (bA [97,61,49,59]),ftA 0 0 nx]∧A_ (D_ H) H H':=by
 have a:E7 [97] [49] [88]:=Uz rfl (by simp;rfl) (by simp;rfl);have n:=Mr .get a a.bare;refine AeC l (show M' B H (.mk (.le 0 .keyed none nx .nil mA .nil) (.star xS) (.star xV) .nil lA .nil) vl from m) (by rw[AB];decide) (by rw[cSS.has (by intro b e;simp at e;omega)];rfl) fun{G rb} a f=>?_;have g:=AeB (A:=lA) (op:=.keyed) (xs:=[[97,61,49,88,59]]) (os:=[bA [97,61,49,59]]) (.inr rfl) nofun (Z1 cS (d:=1) (by kernel_rfl) fun x c=>by
  rw[V_.1 c];exact⟨by intro b e;simp at e;omega,nofun,fun k=>JP (by rfl) (by decide),rfl⟩) rfl (fun i x o c p=>by
  cases i with
  | zero=>cases c;cases p;exact⟨_,n⟩
  | succ i=>cases c) (by decide) (by decide) a f (by rw[show AS [bA [97,61,49,59]]=bA [97,61,49,59]from Dp [[97,61,49,59]],AB];decide)
 rw[show AS [bA [97,61,49,59]]=bA [97,61,49,59]from Dp [[97,61,49,59]]]at g;exact g.mono fun R H' h=>⟨_,h⟩
theorem WN(l:∀j,B j→j<H.size)(m:M' B H Vp vl):Al prog 6 #[vl,.string (bA [98,61,59])] H fun R H'=>R= .tuple #[.string (bA [98,61,78,69,87,59]),ftA 0 0 nx]∧A_ (D_ H) H H':=by
 have a:E7 [98] [] []:=Uz rfl (by simp) (by simp);have n:=Mr .cre a a;refine AdX l (show M' B H (.mk (.le 0 .keyed none nx .nil mA .nil) (.star xS) (.star xV) .nil lA .nil) vl from m) (by rw[AB];decide) (by rw[cVV.has (by intro b e;simp at e;omega)];rfl) fun{G rb} a f=>?_;have g:=AdW (A:=lA) (op:=.keyed) (xs:=[[98,61,59]]) (os:=[bA [98,61,78,69,87,59]]) (.inr rfl) nofun (Z1 cV (d:=1) (by kernel_rfl) fun x c=>by
  rw[V_.1 c];exact⟨by intro b e;simp at e;omega,nofun,fun k=>JP (by rfl) (by decide),rfl⟩) rfl (fun i x o c p=>by
  cases i with
  | zero=>cases c;cases p;exact⟨_,n⟩
  | succ i=>cases c) (by decide) (by decide) a f (by rw[show AS [bA [98,61,78,69,87,59]]=bA [98,61,78,69,87,59]from Dp [[98,61,78,69,87,59]],AB];decide)
 rw[show AS [bA [98,61,78,69,87,59]]=bA [98,61,78,69,87,59]from Dp [[98,61,78,69,87,59]]]at g;exact g.mono fun R H' h=>⟨_,h⟩
end
theorem RG{a b:ByteArray}(h:a=b):(!(a.toList==b.toList))=false:=by subst h;rw[KG,Gx];rfl
theorem YJ{a b:ByteArray}(h:a=b):(a.toList==b.toList)=true:=by subst h;rw[KG,Gx]
theorem O4{u v:List Nat}(a:A9 u)(c:A9 v){b:ByteArray}(d:b=bA v):(!((bA u).toList==b.toList))=decide (u≠v):=by
 subst d;rw[KG];by_cases h:u=v
 ·subst h;rw[Gx];simp
 ·rw[PC fun e=>h (TA a c e)];simp[h]
theorem Z3{b:Nat}(a:97≤b)(c:b≤122):cix b=5:=by unfold cix;rw[I_ ⟨a,c⟩]
theorem Z2{b:Nat}(a:65≤b)(c:b≤90):cix b=4:=by unfold cix;rw[G_ (by omega),G_ (by omega),I_ ⟨a,c⟩]
theorem JJ{s:ByteArray}{lo hi n:Nat}{b:Nat}(h:b∈IA s lo hi n):lo≤b∧b≤hi:=by
 have:=(YbV.1 (YcP h)).2;unfold GS at this;simpa using this
theorem Rd(s:ByteArray)(lo hi n:Nat):(IA s lo hi n).length≤n:=by unfold IA;rw[YaN];omega
theorem XP(s:ByteArray):∀b∈IA s 97 122 20,cix b=5:=fun b a=>Z3 (JJ a).1 (JJ a).2
theorem V4(s:ByteArray):∀b∈IA s 65 90 20,cix b=4:=fun b a=>Z2 (JJ a).1 (JJ a).2
structure KsO(ks ts:List (List Nat)):Prop where
 o:E8 ks ts []
 z:∀u∈ks,u.length≤20
theorem KsO.nil:KsO [] []:=⟨⟨rfl,fun i u t h=>(by cases h),Yd4,fun j h=>(by cases h),Yd4⟩,fun u h=>(by cases h)⟩
theorem KsO.snoc{ks ts:List (List Nat)}{u t:List Nat}(h:KsO ks ts)(f:u≠[])(k:∀b∈u,cix b=5)(l:∀b∈t,cix b=4)(m:u.length≤20)(lt:t.length≤20)(n:u∉ks):KsO (ks++[u]) (ts++[t]):=by
 refine⟨⟨by simp[h.o.len],fun i v s c hs=>?_,?_,fun j p=>(by cases p),Yd4⟩,fun v c=>?_⟩
 ·rcases Nat.lt_or_ge i ks.length with d | d
  ·rw[YaK d]at c;rw[YaK (by rw[h.o.len];exact d)]at hs;exact h.o.rec_ i v s c hs
  ·rw[YaD d]at c;rw[YaD (by rw[h.o.len];exact d)]at hs;rw[List.getElem?_singleton]at c hs;split at c<;>first | (cases c;done) | skip
   split at hs<;>first | (cases hs;done) | skip
   cases c;cases hs;exact⟨⟨f,k,by intro b g;rw[V_.1 g];rfl,l⟩,lt⟩
 ·rw[YcK];exact⟨h.o.nd,by simp,fun a q b g e=>n (by rw[←V_.1 g,←e];exact q)⟩
 ·rcases q_.1 c with c | c
  ·exact h.z v c
  ·rw[V_.1 c];exact m
theorem Za{ks ts:List (List Nat)}{u t:List Nat}(h:ts.length=ks.length):xsL (ks++[u]) (ts++[t])=xsL ks ts++[I3 u t]:=by
 unfold xsL;rw[List.zipWith_append (by rw[h])];rfl
theorem KsO.le{ks ts:List (List Nat)}(h:KsO ks ts):(xsL ks ts).flatten.length≤43*ks.length:=by
 have c:∀l:List (List Nat),(∀x∈l,x.length≤43)→l.flatten.length≤43*l.length:=fun l=>by
  induction l with
  | nil=>intro _;simp
  | cons x l e=>
    intro b;have f:=b x (by simp);have g:=e fun y j=>b y (YbX _ j);simp only[Ydo,Q_,j_];omega
 rw[←LL h.o];refine c _ fun x b=>?_;have⟨i,d⟩:=YaT b;have a:i<ks.length:=by rw[←LL h.o];exact(X_.1 d).1
 rw[Kd h.o a]at d;cases d;have f:=h.z _ (d_ (Cq a));have g:=(h.o.at_ a).2;rw[AaC];omega
theorem AiG(W u t:List Nat):bA W++(((bA u++⟨#[61,55]⟩)++bA t)++⟨#[59]⟩)=bA (W++I3 u t):=by
 rw[show(⟨#[61,55]⟩:ByteArray)=bA [61,55]from rfl,show(⟨#[59]⟩:ByteArray)=bA [59]from rfl,←DD,←DD,←DD,←DD];unfold I3;simp
theorem AiH(W u:List Nat):bA W++(bA u++⟨#[61,56,59]⟩)=bA (W++IZ u):=by
 rw[show(⟨#[61,56,59]⟩:ByteArray)=bA [61,56,59]from rfl,←DD,←DD];rfl
theorem AcZ(W u t:List Nat):bA W++(((bA u++⟨#[61,56]⟩)++bA t)++⟨#[59]⟩)=bA (W++N5 u t):=by
 rw[show(⟨#[61,56]⟩:ByteArray)=bA [61,56]from rfl,show(⟨#[59]⟩:ByteArray)=bA [59]from rfl,←DD,←DD,←DD,←DD];unfold N5;simp
theorem sz2{a b:ByteArray}{n m:Nat}(c:a.size≤n)(d:b.size≤m)(h:n+m≤1000000):a.size+b.size≤maxLen:=by unfold maxLen;omega
theorem szA{a b:ByteArray}{n m:Nat}(c:a.size≤n)(d:b.size≤m):(a++b).size≤n+m:=by rw[ByteArray.size_append];omega
def Lq(n:Nat)(sel:List Nat):List Bool:=(AhM n).map fun j=>decide (j∈sel)
theorem GA(n:Nat)(sel:List Nat):(Lq n sel).length=n:=by simp[Lq]
theorem YD(n:Nat):Lq n []=AlO n false:=by
 unfold Lq;rw[Yd2];exact⟨by simp,fun b a=>by obtain⟨j,-,rfl⟩:=Ycp.1 a;simp⟩
theorem Nj{n j:Nat}{sel:List Nat}(h:j<n):(Lq n sel)[j]?=some (decide (j∈sel)):=by
 unfold Lq;rw[t_,Ybf h];rfl
theorem YE{n j:Nat}{sel:List Nat}(h:j<n):(Lq n sel).set j true=Lq n (sel++[j]):=by
 apply YaH;intro i;rw[YaP,GA];by_cases b:i<n
 ·rw[Nj b,Nj b];by_cases a:j=i
  ·subst a;simp[h]
  ·rw[G_ a];simp[Ne.symm a]
 ·rw[YaE (l:=Lq n (sel++[j])) (by rw[GA];omega),YaE (l:=Lq n sel) (by rw[GA];omega),G_ (by omega)]
theorem E8.snoc{ks ts:List (List Nat)}{sel:List Nat}{j:Nat}(h:E8 ks ts sel)(c:j<ks.length)(d:j∉sel):E8 ks ts (sel++[j]):=
 ⟨h.len,h.rec_,h.nd,fun i f=>(q_.1 f).elim (h.sl i) fun e=>by rw[V_.1 e];exact c,by
  rw[YcK];exact⟨h.sd,by simp,fun a g b k e=>d (by rw[←V_.1 k,←e];exact g)⟩⟩
section
variable{ks ts:List (List Nat)}{sel:List Nat}{j:Nat}
theorem Zc:(ysL ks (sel++[j])).flatten=(ysL ks sel).flatten++IZ (ks.getD j []):=by unfold ysL;simp
theorem XK:(okL ks ts (sel++[j])).flatten=(okL ks ts sel).flatten++N5 (ks.getD j []) (ts.getD j []):=by unfold okL;simp
theorem XR:(opL ks ts (sel++[j])).flatten=(opL ks ts sel).flatten++N5 (ks.getD j []) (ts.getD sel.length []):=by unfold opL;rw[List.zipIdx_append];simp
theorem Ag2(a:∀u∈ks,u.length≤20)(h:E8 ks ts sel):(ysL ks sel).flatten.length≤23*sel.length:=by
 have:=J6 sel (fun j=>IZ (ks.getD j [])) (fun _=>[0]) 23 fun j b=>by
  have:=a _ (d_ (Cq (h.sl j b)));rw[Vr];show _≤23*1;omega
 have e:(sel.map fun _=>[0]).flatten.length=sel.length:=by
  clear h this
  induction sel with
  | nil=>rfl
  | cons x l c=>simp[c]
 rw[e]at this;exact this
end
theorem ZR{x y:z_}{S:Nat→Prop}{H:Aa}{K:v_→Prop}(k:K (.bool true)):
  A7 prog (do eqGuard .eql 27 x y (.agg (Ad 0 0).toArray) (.agg (Ad 0 0).toArray);binOp .eql 27 (.agg (Ad 0 0).toArray) (.agg (Ad 0 0).toArray)) S H K:=
 veq (m:=3) (r:=true) (la:=GN 0 0) (lb:=GN 0 0) (by kernel_rfl) (by decide) (eqGuardType27) rfl rfl (L5 (by decide) (by decide)) (L5 (by decide) (by decide)) ⟨fun _=>rfl,fun _=>rfl⟩ k
def fB(q:Nat):Pc:=pB 27 q (Y' 0 0 nx)
theorem PQ(d g:List ByteArray)(order:List Int)(na sa oa:Option Addr)(nc sc oc:Nat)(S:Nat→Prop)(H:Aa)(hS:∀j,S j→j<H.size)(hn:S_ Cp S H na nc d)(ho:S_ Cp S H sa sc g)(hr:S_ tI S H oa oc order)(hT:NB H)
  (n1:d.length≤1048576) (n2:g.length≤1048576) (n3:order.length≤1048576) (z1:∀x∈d,x.size≤1048576) (z2:∀x∈g,x.size≤1048576):
  AZ prog 3 #[.slice na d.length nc,.slice sa g.length sc,.slice oa order.length oc] H (.bool true):=by
 refine Al.of_vc func3 rfl (call3 _) (Aj.mk (AcV (t:=Yg) (b:=400) hT Ai0) ?_);rintro _ H1 ⟨a1,vl,rfl,X⟩;obtain⟨pl,rfl⟩:=X.ptr;refine BV (St.nil H1) (AI 0 0) (Y' 0 0 nx) Bn rfl fun q1 H2 s2=>(AD (cs:=Y' 0 0 nx) s2 0 rfl rfl (J_ _) rfl fun H3 Y=>?_);have a3:A_ (D_ H) H H3:=a1.trans (Y.old.mono fun j m=>Ae a1 m);refine Aj.mk (AcV (t:=U8) (b:=400) (hT.agr a3) Af6) ?_;rintro _ H4 ⟨a4,vm,rfl,Z⟩;obtain⟨pm,rfl⟩:=Z.ptr;have b1:K_ H4 q1 27 (Y' 0 0 nx):=(Y.blk 0 rfl).agr a4 (Y.blk 0 rfl).lt;have vk:M' (D_ H4) H4 Vp (.pointer pl):=X.up (fun j m=>Ae a4 (Ae Y.old m)) (Y.old.trans (a4.mono fun j m=>Ae Y.old m));have vs:M' (D_ H4) H4 Uk (.pointer pm):=Z;have r:A_ (D_ H) H H4:=a3.trans (a4.mono fun j m=>Ae a3 m);clear s2 Y X Z a1 a3 a4;have c6:=(hn.frame (r.mono hS)).mono (S':=D_ H4) fun j m=>Ae r (hS j m);have c7:=(ho.frame (r.mono hS)).mono (S':=D_ H4) fun j m=>Ae r (hS j m);have a8:=(hr.frame (r.mono hS)).mono (S':=D_ H4) fun j m=>Ae r (hS j m);refine BV (St.nil H4) (AI 0 0) (Y' 0 0 nx) Bn rfl fun q2 H5 s5=>(AD (cs:=Y' 0 0 nx) s5 0 rfl rfl (J_ _) rfl fun H6 U=>?_);have a9:=b1.agr U.old b1.lt
 repeat ((conv=>whnf);first | refine Af.run ?_ | refine L_ (cs:=Y' 0 0 nx) (EI a9) trivial ?_ | refine L_ (cs:=Y' 0 0 nx) (EI (U.blk 0 rfl)) trivial ?_ | refine Ah underlying27 rfl _ rfl (Ad 0 0) rfl ?_ | refine GP (c:=0) (e:=0) (c':=0) (e':=0) (by decide) (by decide) (by decide) (by decide) ?_)
 refine Aj.mk (Xm (fun j m=>U.up m) (vk.up (fun _ h=>h) U.old)) ?_;rintro _ H7 ⟨rfl,a7⟩;have s7:=U.call a7;clear s5 U;refine BV s7 (AI 0 0) (Y' 0 0 nx) Bn rfl fun q3 H8 s8=>(AD (cs:=Y' 0 0 nx) s8 1 rfl rfl (J_ _) rfl fun H9 s9=>(Aj.mk (WN (fun j m=>s9.up m) (vk.up (fun _ h=>h) s9.old)) ?_));rintro _ H10 ⟨rfl,c8⟩;have ab:=s9.call c8;clear s7 s8 s9;refine BV ab (AI 0 0) (Y' 0 0 nx) Bn rfl fun q4 H11 ad=>(AD (cs:=Y' 0 0 nx) ad 2 rfl rfl (J_ _) rfl fun H12 K=>?_)
 repeat ((conv=>whnf);first | refine Af.run ?_ | refine L_ (cs:=Y' 0 0 nx) (EI (K.blk 1 rfl)) trivial ?_ | refine L_ (cs:=Y' 0 0 nx) (EI (K.blk 2 rfl)) trivial ?_ | refine Ah underlying27 rfl _ rfl (Ad 0 0) rfl ?_ | refine GP (c:=0) (e:=0) (c':=0) (e':=0) (by decide) (by decide) (by decide) (by decide) ?_)
 clear ab ad;(conv=>whnf);rw[RG (a:=bA [97,61,49,59]) (b:=⟨#[97,61,49,59]⟩) rfl];(conv=>whnf);rw[RG (a:=bA [98,61,78,69,87,59]) (b:=⟨#[98,61,78,69,87,59]⟩) rfl]
 repeat (refine Af.run ?_)
 (conv=>whnf);refine A8.mk [15,16,17,18] (fun x:Nat×List (List Nat)×List (List Nat)×Option Addr×Nat×Option Addr×Nat=>match x with | (i,ks,ts,a1,c1,a2,c2)=>[.slice a1 ks.length c1,.slice a2 ks.length c2,.string (bA (xsL ks ts).flatten),C_ i])
  (fun x G=>x.1≤300∧x.1≤d.length∧x.2.1.length≤x.1∧KsO x.2.1 x.2.2.1∧St H4 G [fB q2,fB q3,fB q4,pS Cp 9 x.2.2.2.1 x.2.1.length x.2.2.2.2.1 (x.2.1.map bA),pS Cp 9 x.2.2.2.2.2.1 x.2.1.length x.2.2.2.2.2.2 (x.2.2.1.map bA)]) (fun x _=>300-x.1) ?_ ?_
 ·(conv=>whnf);exact⟨(0,[],[],none,0,none,0),rfl,l_ _,l_ _,l_ _,KsO.nil,(K.nils Cp 9).nils Cp 9⟩
 rintro⟨i,ks,ts,a1,c1,a2,c2⟩ G db ⟨i1,i2,i3,D,st⟩;simp only at i1 i2 i3 D st;clear K;by_cases V:i<d.length∧i<g.length∧i<300
 ·have⟨e1,e2,e3⟩:=V;(conv=>whnf);rw[g_ (show(i:Int)<(d.length:Int) by omega)];(conv=>whnf);rw[g_ (show(i:Int)<(g.length:Int) by omega)];(conv=>whnf);rw[g_ (show(i:Int)<300 by omega)];have⟨x,hx⟩:=Am (l:=d) (k:=i) e1;have⟨y,hy⟩:=Am (l:=g) (k:=i) e2
  repeat (refine Af.run ?_)
  refine Au.heldZ (D_ G) [10,11] (sq [0,1,2,3,5,6,7,8] (.f 4 (.f 9 (.f 10 (.f 11 .e))))) rfl (by kernel_rfl) (u_ DO (c6.frame st.old) hx rfl ?_);rintro b3 o3 c9 L E ⟨rfl,-⟩;refine B_ E.one (Ae st.old L) (u_ DO (c7.frame st.old) hy rfl ?_);rintro b4 o4 cb M F ⟨rfl,-⟩;refine B_ F.one (Ae st.old M) (Ak (XO (lo:=97) (hi:=122) (n:=20) (z1 x (d_ hx)) (by decide) (by decide) (by decide)) fun G1 g1=>⟨g1,?_⟩);refine Ak (XO (lo:=65) (hi:=90) (n:=20) (z2 y (d_ hy)) (by decide) (by decide) (by decide)) fun G2 g2=>⟨g1.trans (g2.mono fun j m=>Ae g1 m),?_⟩;have p:=(st.call g1).call g2;have ae:=XP x;have ah:=Rd x 97 122 20;have ai:=V4 y;have aj:=Rd y 65 90 20;generalize IA x 97 122 20=u at*;generalize IA y 65 90 20=t at*;have bu:=Cb (by decide) ae;have bt:=Cb (by decide) ai;have b0:A9 []:=fun b hb=>(by cases hb);have bk:∀v∈ks,A9 v:=fun v B=>by
   have⟨j,m⟩:=YaT B;have N:=(X_.1 m).1;have:=Cq N;rw[m]at this;cases this;exact Cb (by decide) (D.o.at_ N).1.u
  have cd:=p.view 3 rfl;clear g1 g2 hx hy E F L M
  repeat (refine Af.run ?_)
  (conv=>whnf);rw[O4 bu b0 (b:=⟨#[]⟩) rfl]
  repeat (refine Af.run ?_)
  (conv=>whnf);refine A8.mk [21,22] (fun j:Nat=>[.bool (decide (u≠[])&&(ks.take j).all fun v=>decide (v≠u)),C_ j]) (fun j G'=>j≤ks.length∧G'=G2) (fun j _=>ks.length-j) ?_ ?_
  ·(conv=>whnf);exact⟨0,by simp,l_ _,rfl⟩
  rintro j _ a0 ⟨m,rfl⟩;by_cases N:j<ks.length
  ·have B:=Cq N;obtain⟨v,ce⟩:∃v,ks.getD j []=v:=⟨_,rfl⟩;rw[ce]at B;have ak:((ks.take (j+1)).all fun v=>decide (v≠u))=(((ks.take j).all fun v=>decide (v≠u))&&decide (v≠u)):=by rw[Yd0,B];simp
   obtain⟨z,W⟩:∃z,(decide (u≠[])&&(ks.take j).all fun v=>decide (v≠u))=z:=⟨_,rfl⟩;rw[W];(conv=>whnf);rw[g_ (show(j:Int)<(ks.length:Int) by omega)]
   repeat (refine Af.run ?_)
   cases z
   ·repeat (refine Af.run ?_)
    (conv=>whnf);rw[R_ j (by omega)];exact⟨rfl,j+1,by rw[ak,←Ydz,W];rfl,⟨by omega,rfl⟩,by omega⟩
   ·refine F4 DO cd (by rw[Z_]) (by rw[t_,B];rfl) rfl ?_;rintro b5 o5 cg am O ⟨rfl,-⟩;refine lT O.one ?_;(conv=>whnf);rw[O4 (bk v (d_ B)) bu (b:=bA u) rfl]
    repeat (refine Af.run ?_)
    (conv=>whnf);rw[R_ j (by omega)];exact⟨rfl,j+1,by rw[ak,←Ydz,W,Bool.true_and];rfl,⟨by omega,rfl⟩,by omega⟩
  ·obtain rfl:j=ks.length:=by omega
   rw[YaB];obtain⟨z,W⟩:∃z,(decide (u≠[])&&ks.all fun v=>decide (v≠u))=z:=⟨_,rfl⟩;rw[W];(conv=>whnf);rw[a_ (show¬(ks.length:Int)<(ks.length:Int) by omega)]
   repeat (refine Af.run ?_)
   cases z
   ·repeat (refine Af.run ?_)
    (conv=>whnf);rw[R_ i (by omega)];exact⟨rfl,(i+1,ks,ts,a1,c1,a2,c2),rfl,⟨by simp only;omega,by simp only;omega,by simp only;omega,D,p⟩,by simp only;omega⟩
   ·rw[h_,Zzj,Ycc]at W;have ch:=W.1;have ci:u∉ks:=fun h=>by have:=W.2 u h;simp at this
    have cj:=D.snoc ch ae ai ah aj ci;have cm:=D.le;have lt:ts.length=ks.length:=D.o.len
    repeat (refine Af.run ?_)
    refine Az DO [.string (bA u)] rfl rfl (by decide) (by decide) ?_;intro q5 H5 co dk cp cq;refine GH (x:=bA u) (p.skip co cq) 3 DO rfl cp ⟨rfl,by rw[AB];unfold maxLen;omega⟩ rfl (by rw[Z_];omega) (by decide) fun cr ct H6 cu _=>?_
    repeat (refine Af.run ?_)
    refine Az DO [.string (bA t)] rfl rfl (by decide) (by decide) ?_;intro q7 H7 cw dl cx cy;refine GH (x:=bA t) (cu.skip cw cy) 4 DO rfl cx ⟨rfl,by rw[AB];unfold maxLen;omega⟩ rfl (by rw[Z_];omega) (by decide) fun cz d0 H8 ao _=>?_
    repeat (refine Af.run ?_)
    have p1:(bA u).size≤20:=by rw[AB];exact ah
    have p2:(bA t).size≤20:=by rw[AB];exact aj
    have p3:(bA (xsL ks ts).flatten).size≤12900:=by rw[AB];omega
    have P:(⟨#[61,55]⟩:ByteArray).size≤2:=J_ _;have ap:(⟨#[59]⟩:ByteArray).size≤1:=J_ _;refine He (sz2 p1 P (by decide)) (He (sz2 (szA p1 P) p2 (by decide)) (He (sz2 (szA (szA p1 P) p2) ap (by decide)) (He (sz2 p3 (szA (szA (szA p1 P) p2) ap) (by decide)) ?_)))
    repeat (refine Af.run ?_)
    (conv=>whnf);rw[R_ i (by omega)];have m1:(ks.map bA).length=ks.length:=Z_ _;have m2:(ts.map bA).length=ks.length:=by rw[Z_,lt]
    have m3:ks.map bA++[bA u]=(ks++[u]).map bA:=by simp
    have m4:ts.map bA++[bA t]=(ts++[t]).map bA:=by simp
    have m5:(ks++[u]).length=ks.length+1:=by simp
    have m6:bA (xsL (ks++[u]) (ts++[t])).flatten=bA (xsL ks ts).flatten++(((bA u++⟨#[61,55]⟩)++bA t)++⟨#[59]⟩):=by rw[AiG,Za lt];simp
    rw[m1,m2,m3,m4,←m5]at ao;rw[m1,m2,←m5];refine⟨rfl,(i+1,ks++[u],ts++[t],cr,ct,cz,d0),by simp only[m6];rfl,⟨by simp only;omega,by simp only;omega,by simp only[m5];omega,cj,ao⟩,by simp only;omega⟩
 ·have d1:ks.length≤300:=by omega
  have cm:=D.le;have lt:ts.length=ks.length:=D.o.len;rcases(show¬i<d.length∨(i<d.length∧¬i<g.length)∨(i<d.length∧i<g.length∧¬i<300) by omega)with h | ⟨h,h'⟩ | ⟨h,h',dm⟩;(conv=>whnf);rw[a_ (show¬(i:Int)<(d.length:Int) by omega)]
  rotate_left
  (conv=>whnf);rw[g_ (show(i:Int)<(d.length:Int) by omega)];(conv=>whnf);rw[a_ (show¬(i:Int)<(g.length:Int) by omega)]
  rotate_left
  (conv=>whnf);rw[g_ (show(i:Int)<(d.length:Int) by omega)];(conv=>whnf);rw[g_ (show(i:Int)<(g.length:Int) by omega)];(conv=>whnf);rw[a_ (show¬(i:Int)<300 by omega)]
  rotate_left
  all_goals
   clear V;refine YT (T:=Bd) (v:=false) (S:=none_) Fv rfl (by omega) rfl (by omega) (by omega) ?_;intro qb Hb aq au a5 aw;rw[Yau]at a5 ⊢;have sB:=st.new (T:=Bd) (n:=ks.length) (xs:=Lq ks.length []) aq au a5 aw (by rw[YD];exact DK (T:=Bd) (c:=[.bool false]) rfl _) (GA _ _).symm (by unfold maxLen;omega);clear aq au a5 aw;(conv=>whnf);refine A8.mk [23,24,25,26,28] (fun x:Nat×List Nat=>match x with | (k,sel)=>[.string (bA (ysL ks sel).flatten),.string (bA (okL ks ts sel).flatten),.string (bA (opL ks ts sel).flatten),C_ (sel.length:Int),C_ k])
    (fun x G'=>x.1≤order.length∧E8 ks ts x.2∧St H4 G' [fB q2,fB q3,fB q4,pS Cp 9 a1 ks.length c1 (ks.map bA),pS Cp 9 a2 ks.length c2 (ts.map bA),pS Bd 4 (b_ qb) ks.length ks.length (Lq ks.length x.2)]) (fun x _=>order.length-x.1) ?_ ?_
   ·(conv=>whnf);exact⟨(0,[]),rfl,l_ _,D.o,sB⟩
   rintro⟨k,sel⟩ G2 a0 ⟨d2,hs,p⟩;simp only at d2 hs p;clear sB;have d3:=hs.le;have dp:=Ag2 D.z hs;have dq:=XJ hs;have dr:=XQ hs d3;by_cases d4:k<order.length
   ·have⟨v,B⟩:=Am (l:=order) (k:=k) d4;have I:=a8.frame p.old;have next:∀{n:Nat},n=k+1→IntKind.wrap .i64 ((k:Int)+1)=(n:Int):=fun e=>by subst e;rw[w64 (by omega) (by omega)];rfl
    (conv=>whnf);rw[g_ (show(k:Int)<(order.length:Int) by omega)]
    repeat (refine Af.run ?_)
    refine u_ AO I B rfl ?_;rintro b3 o3 c9 L E ⟨rfl,-⟩;refine lT E.one ?_;by_cases v0:v<0
    ·(conv=>whnf);rw[g_ v0]
     repeat (refine Af.run ?_)
     (conv=>whnf);rw[next rfl];exact⟨rfl,(k+1,sel),rfl,⟨by simp only;omega,hs,p⟩,by simp only;omega⟩
    (conv=>whnf);rw[a_ v0];refine u_ AO I B rfl ?_;rintro b4 o4 cb M F ⟨rfl,-⟩;refine lT F.one ?_;by_cases v1:(ks.length:Int)≤v
    ·(conv=>whnf);rw[g_ v1]
     repeat (refine Af.run ?_)
     (conv=>whnf);rw[next rfl];exact⟨rfl,(k+1,sel),rfl,⟨by simp only;omega,hs,p⟩,by simp only;omega⟩
    (conv=>whnf);rw[a_ v1];obtain⟨w,rfl⟩:∃w:Nat,v=w:=⟨v.toNat,by omega⟩;have hw:w<ks.length:=by omega
    refine u_ AO I B rfl ?_;rintro b5 o5 cg am O ⟨rfl,-⟩;refine B_ O.one trivial (F4 Fv (p.view 5 rfl) (GA _ _).symm (Nj hw) rfl ?_);rintro b6 o6 dt d5 ay rfl;refine lT ay.one ?_;by_cases v2:w∈sel
    ·(conv=>whnf);rw[g_ v2]
     repeat (refine Af.run ?_)
     (conv=>whnf);rw[next rfl];exact⟨rfl,(k+1,sel),rfl,⟨by simp only;omega,hs,p⟩,by simp only;omega⟩
    (conv=>whnf);rw[a_ v2]
    repeat (refine Af.run ?_)
    have az:=hs.snoc hw v2;have bd:=az.le;rw[Q_,k_]at bd;have Q:=Cq hw;have d6:ts[w]?=some (ts.getD w []):=Cq (by rw[lt];exact hw);have d7:ts[sel.length]?=some (ts.getD sel.length []):=Cq (by rw[lt];omega);have J:(bA (ks.getD w [])).size≤20:=by rw[AB];exact D.z _ (d_ Q)
    have l1:(bA (ts.getD w [])).size≤20:=by rw[AB];exact(hs.at_ hw).2
    have l2:(bA (ts.getD sel.length [])).size≤20:=by rw[AB];exact(hs.at_ (show sel.length<ks.length by omega)).2
    have r1:(bA (ysL ks sel).flatten).size≤6900:=by rw[AB];omega
    have r2:(bA (okL ks ts sel).flatten).size≤41400:=by rw[AB];omega
    have r3:(bA (opL ks ts sel).flatten).size≤41400:=by rw[AB];omega
    have be:(⟨#[61,56,59]⟩:ByteArray).size≤3:=J_ _;have A:(⟨#[61,56]⟩:ByteArray).size≤2:=J_ _;have R:(⟨#[59]⟩:ByteArray).size≤1:=J_ _;refine u_ AO I B rfl ?_;rintro b7 o7 du d8 bf ⟨rfl,-⟩;refine B_ bf.one trivial (ix Fv (by omega) (by omega) ?_);refine AfK (j:=w) (x:=true) p 5 rfl rfl (by omega) (by rw[GA];omega) rfl (fun H' _=>rfl) fun G3 q=>?_;rw[YE hw]at q;have C:=a8.frame q.old;clear I E F O ay bf L M am d5 d8
    repeat (refine Af.run ?_)
    refine u_ AO C B rfl ?_;rintro b8 o8 dv dw d9 ⟨rfl,-⟩;refine lT d9.one ?_;refine F4 DO (q.view 3 rfl) (Z_ _).symm (by rw[t_,Q];rfl) rfl ?_;rintro b9 o9 dx dy da ⟨rfl,-⟩;refine B_ da.one trivial (He (sz2 J be (by decide)) (He (sz2 r1 (szA J be) (by decide)) ?_))
    repeat (refine Af.run ?_)
    refine Au.heldZ (D_ G3) [19] (sq [0,1,2,3,4,5,6,7,8,9,10,11,12,13,14,15,16,17,18] (.f 19 .e)) rfl (by kernel_rfl) (u_ AO C B rfl ?_);rintro dz e0 dc bh bj ⟨rfl,-⟩;refine B_ bj.one (Ae q.old bh) ?_;refine F4 DO (q.view 3 rfl) (Z_ _).symm (by rw[t_,Q];rfl) rfl ?_;rintro e4 e5 de bn bo ⟨rfl,-⟩;refine B_ bo.one bn (He (sz2 J A (by decide)) (u_ AO C B rfl ?_));rintro e6 e7 df bp bq ⟨rfl,-⟩;refine B_ bq.one (Ae q.old bp) ?_;refine F4 DO (q.view 4 rfl) (by rw[Z_,lt]) (by rw[t_,d6];rfl) rfl ?_;rintro e8 e9 dg br bv ⟨rfl,-⟩;refine B_ bv.one br (He (sz2 (szA J A) l1 (by decide)) (He (sz2 (szA (szA J A) l1) R (by decide)) (He (sz2 r2 (szA (szA (szA J A) l1) R) (by decide)) ?_)))
    repeat (refine Af.run ?_)
    refine Au.heldZ (D_ G3) [16] (sq [0,1,2,3,4,5,6,7,8,9,10,11,12,13,14,15] (.f 16 .e)) rfl (by kernel_rfl) (u_ AO C B rfl ?_);rintro ea eb dh bw bx ⟨rfl,-⟩;refine B_ bx.one (Ae q.old bw) ?_;refine F4 DO (q.view 3 rfl) (Z_ _).symm (by rw[t_,Q];rfl) rfl ?_;rintro ec ed di bz c3 ⟨rfl,-⟩;refine B_ c3.one bz (He (sz2 J A (by decide)) ?_);refine F4 DO (q.view 4 rfl) (by rw[Z_,lt]) (by rw[t_,d7];rfl) rfl ?_;rintro a9 ee dj c4 c5 ⟨rfl,-⟩;refine B_ c5.one c4 (He (sz2 (szA J A) l2 (by decide)) (He (sz2 (szA (szA J A) l2) R (by decide)) (He (sz2 r3 (szA (szA (szA J A) l2) R) (by decide)) ?_)))
    repeat (refine Af.run ?_)
    (conv=>whnf);rw[n_ (x:=(sel.length:Int)+1) (by omega)]
    repeat (refine Af.run ?_)
    (conv=>whnf);rw[next rfl];have m1:bA (ysL ks (sel++[w])).flatten=bA (ysL ks sel).flatten++(bA (ks.getD w [])++⟨#[61,56,59]⟩):=by rw[AiH,Zc]
    have m2:bA (okL ks ts (sel++[w])).flatten=bA (okL ks ts sel).flatten++(((bA (ks.getD w [])++⟨#[61,56]⟩)++bA (ts.getD w []))++⟨#[59]⟩):=by rw[AcZ,XK]
    have m3:bA (opL ks ts (sel++[w])).flatten=bA (opL ks ts sel).flatten++(((bA (ks.getD w [])++⟨#[61,56]⟩)++bA (ts.getD sel.length []))++⟨#[59]⟩):=by rw[AcZ,XR]
    have m4:(((sel++[w]).length:Nat):Int)=(sel.length:Int)+1:=by simp
    exact⟨rfl,(k+1,sel++[w]),by simp only[m1,m2,m3,m4],⟨by simp only;omega,az,q⟩,by simp only;omega⟩
   ·obtain rfl:k=order.length:=by omega
    have e1:(bA (xsL ks ts).flatten).size=(xsL ks ts).flatten.length:=AB _;have e2:(bA (ysL ks sel).flatten).size=(ysL ks sel).flatten.length:=AB _;have old:A_ (D_ H) H G2:=r.trans (p.old.mono fun j m=>Ae r m);(conv=>whnf);rw[a_ (show¬(order.length:Int)<(order.length:Int) by omega)]
    repeat (refine Af.run ?_)
    (conv=>whnf);by_cases g1:(16384:Int)<((bA (xsL ks ts).flatten).size:Int)
    ·rw[g_ g1]
     repeat (refine Af.run ?_)
     (conv=>whnf);exact⟨rfl,old⟩
    rw[a_ g1];(conv=>whnf);by_cases g2:(16384:Int)<((bA (ysL ks sel).flatten).size:Int)
    ·rw[g_ g2]
     repeat (refine Af.run ?_)
     (conv=>whnf);exact⟨rfl,old⟩
    rw[a_ g2]
    repeat (refine Af.run ?_)
    refine Aj.mk (Yb hs (fun j m=>p.up m) (vk.up (fun _ h=>h) p.old) (by omega) (by omega)) ?_;rintro _ G3 ⟨rfl,a3⟩;have q:=p.call a3;refine BV q (AI 0 0) (Y' 0 0 nx) Bn rfl fun q5 G4 s4=>(AD (cs:=Y' 0 0 nx) s4 6 rfl rfl (J_ _) rfl fun G5 s5=>(Aj.mk (VL hs (fun j m=>s5.up m) (vs.up (fun _ h=>h) s5.old) (by omega) (by omega)) ?_));rintro _ G6 ⟨rfl,a6⟩;have U:=s5.call a6;refine BV U (AI 0 0) (Y' 0 0 nx) Bn rfl fun q6 G7 s7=>(AD (cs:=Y' 0 0 nx) s7 7 rfl rfl (J_ _) rfl fun G8 s8=>?_)
    repeat ((conv=>whnf);first | refine Af.run ?_ | refine L_ (cs:=Y' 0 0 nx) (EI (s8.blk 6 rfl)) trivial ?_ | refine L_ (cs:=Y' 0 0 nx) (EI (s8.blk 7 rfl)) trivial ?_ | refine Ah underlying27 rfl _ rfl (Ad 0 0) rfl ?_ | refine ZR ?_)
    (conv=>whnf);rw[YJ (a:=bA (okL ks ts sel).flatten) rfl];(conv=>whnf);rw[YJ (a:=bA (opL ks ts sel).flatten) rfl];(conv=>whnf);exact⟨rfl,r.trans (s8.old.mono fun j m=>Ae r m)⟩
theorem AhY:prog.globalNamed Rj=some 3:=by kernel_rfl
theorem Af0:(prog.globals[3]?).map (·.type)=some 393:=by kernel_rfl
theorem AhX:prog.cellsOf 393=20:=by kernel_rfl
theorem AeZ:prog.cellsOf 225=1:=by kernel_rfl
theorem XX:(Rows.laid_internal_strconv_uint64pow10:DataW Unit)=tabData .u64 pow10Tab:=by kernel_rfl
def AiD:List Int:=[0,1,28,2,29,14,24,3,30,22,20,15,25,17,4,8,31,27,13,23,21,19,16,7,26,12,18,6,11,5,10,9]
def AfN:Array v_:=(AiD.map (Value.int .u8)).toArray
def AiE:List Int:=[0,1,56,2,57,49,28,3,61,58,42,50,38,29,17,4,62,47,59,36,45,43,51,22,53,39,33,30,24,18,12,5,63,55,48,27,60,41,37,16,46,35,44,21,52,32,23,11,54,26,40,15,34,20,31,10,25,14,19,9,13,8,7,6]
def AfO:Array v_:=(AiE.map (Value.int .u8)).toArray
def AfP:List Int:=[1,10,100,1000,10000,100000,1000000,10000000,100000000,1000000000,10000000000,100000000000,1000000000000,10000000000000,100000000000000,1000000000000000,10000000000000000,100000000000000000,1000000000000000000,10000000000000000000]
def AbL:Array v_:=(AfP.map (Value.int .u64)).toArray
def MI(vs:Array v_):Obj→Obj
 | .cells _ t frozen=>.cells vs t frozen
 | o=>o
noncomputable def AcI(os:Os):y_:=
 {World.holding prog os ⟨#[], #[],[]⟩with heap:=(((World.holding prog os ⟨#[], #[],[]⟩).heap.modify 4 (MI AfN)).modify 5 (MI AfO)).modify 3 (MI AbL)}
section
open Go.ChangeShapes Go.WideShapes Go.ChangeAt Go.RowKit
theorem AcB:prog.globalNamed "loupe/class.escapes" =some 2:=by kernel_rfl
theorem Ae8:(prog.globals[2]?).map (·.type)=some 361:=by kernel_rfl
theorem AgR:prog.cellsOf 361=6:=by kernel_rfl
theorem WZ:prog.cellsOf 360=2:=by kernel_rfl
theorem AgS:prog.underlying 361=some (.array 3 360):=by kernel_rfl
theorem Pw{enc:x_×v_→Unit}{w:y_}{base:Nat}{sp:Nat→Bool}{held:Bool}{c:Nat}{cs:List v_}{a b:Int}{p:List MemPlace}
  (h:DataW.trod enc prog w base sp held c 360 cs=some (.agg [.lit (.int .u8 a),.lit (.int .u8 b)],p)):cs=[.int .u8 a,.int .u8 b]:=by
 have⟨t,u,m,e,g,j,k⟩:=trod_struct2 underlying360 h;obtain⟨l,d,n,-⟩:=DataW.trod_int underlying5 j;obtain⟨q,f,r,-⟩:=DataW.trod_int underlying5 k;subst n;subst r;injection e with e2 e3
 injection e2 with e2
 simp only[AiC.injEq,DataW.lit.injEq,Lit.int.injEq,true_and,and_true]at e2;rw[WZ]at g
 match cs,g with
 | [x,y],_=>
   have d:[x]=[Value.int .u8 l]:=d;have f:[y]=[Value.int .u8 q]:=f;injection d with d
   injection f with f
   rw[d,f,←e2.1,←e2.2]
theorem Vi{enc:x_×v_→Unit}{w:y_}{base:Nat}{sp:Nat→Bool}{held:Bool}{j:Nat}{cs:List v_}{p:List MemPlace}
  (h:DataW.trod enc prog w base sp held j 361 cs=some (Rows.laid_loupe_class_escapes,p)):cs=WY:=by
 obtain⟨xs,m,-,e,r,y,q⟩:=DataW.trod_array AgS h;rw[AgR]at r;injection e with g e2
 have g:(Rows.laid_loupe_class_escapes:DataW Unit)= .agg (xs.map (·.1)):=g;unfold Rows.laid_loupe_class_escapes at g;injection g with g
 match xs,y with
 | [x0,x1,x2],_=>
   simp only[YaQ,List.map_nil,AiC.injEq,and_true]at g;have⟨z,A,B⟩:=g;have t:=q 0 (by decide);have u:=q 1 (by decide);have x:=q 2 (by decide);rw[WZ]at t u x;have k:=Pw (p:=x0.2) (t.trans (by rw[z];rfl));have l:=Pw (p:=x1.2) (u.trans (by rw[A];rfl));have n:=Pw (p:=x2.2) (x.trans (by rw[B];rfl))
   match cs,r with
   | [a,b,c,d,e,f],_=>
     have k:[a,b]=_:=k;have l:[c,d]=_:=l;have n:[e,f]=_:=n;simp only[AiC.injEq,and_true]at k l n;obtain⟨rfl,rfl⟩:=k;obtain⟨rfl,rfl⟩:=l;obtain⟨rfl,rfl⟩:=n;rfl
theorem rk_g:prog.globalNamed "loupe/syntax.ranks" =some 0:=by kernel_rfl
theorem Ai3:(prog.globals[0]?).map (·.type)=some 213:=by kernel_rfl
theorem rk_c:prog.cellsOf 213=5:=by kernel_rfl
theorem Ai1:prog.cellsOf 9=1:=by kernel_rfl
theorem rk_u:prog.underlying 213=some (.array 5 9):=by kernel_rfl
theorem HZ{enc:x_×v_→Unit}{w:y_}{base:Nat}{sp:Nat→Bool}{held:Bool}{a:Nat}{cs:List v_}{l:List UInt8}{p:List MemPlace}
  (h:DataW.trod enc prog w base sp held a 9 cs=some (.lit (.string l),p)):cs=[.string ⟨l.toArray⟩]:=by
 obtain⟨s,e,x,-⟩:=DataW.trod_string underlying9 h;simp only[Prod.mk.injEq,DataW.lit.injEq,Lit.string.injEq]at x;obtain⟨rfl,-⟩:=x;rw[e]
theorem Yl{enc:x_×v_→Unit}{w:y_}{base:Nat}{sp:Nat→Bool}{held:Bool}{g:Nat}{cs:List v_}{p:List MemPlace}
  (h:DataW.trod enc prog w base sp held g 213 cs=some (Rows.laid_loupe_syntax_ranks,p)):cs=Ol:=by
 obtain⟨xs,m,-,e,t,B,j⟩:=DataW.trod_array rk_u h;rw[rk_c]at t;injection e with f e2
 have f:(Rows.laid_loupe_syntax_ranks:DataW Unit)= .agg (xs.map (·.1)):=f;unfold Rows.laid_loupe_syntax_ranks at f;injection f with f
 match xs,B with
 | [x0,x1,x2,x3,x4],_=>
   simp only[YaQ,List.map_nil,AiC.injEq,and_true]at f;have⟨C,D,E,F,G⟩:=f;have u:=j 0 (by decide);have x:=j 1 (by decide);have y:=j 2 (by decide);have z:=j 3 (by decide);have A:=j 4 (by decide);rw[Ai1]at u x y z A;have k:=HZ (p:=x0.2) (u.trans (by rw[C];rfl));have l:=HZ (p:=x1.2) (x.trans (by rw[D];rfl));have n:=HZ (p:=x2.2) (y.trans (by rw[E];rfl));have q:=HZ (p:=x3.2) (z.trans (by rw[F];rfl));have r:=HZ (p:=x4.2) (A.trans (by rw[G];rfl))
   match cs,t with
   | [a,b,c,d,e],_=>
     have k:[a]=_:=k;have l:[b]=_:=l;have n:[c]=_:=n;have q:[d]=_:=q;have r:[e]=_:=r;rw[(AiC.inj k).1,(AiC.inj l).1,(AiC.inj n).1,(AiC.inj q).1,(AiC.inj r).1];rfl
theorem YC{W:y_}{n:String}{g:Nat}{cs:Array v_}{l:List v_}(b:prog.globalNamed n=some g)(a:W.var? prog n=some cs)(c:cs.toList=l):AL W.heap g 0 l∧g<W.heap.size:=by
 refine⟨fun j v d=>?_,?_⟩
 ·have:=World.var?_cell b a j;rw[P_];have e:cs[j]?=some v:=by
   rw[←Yag,c];exact d
  rw[e]at this;exact this
 ·unfold World.var? at a;rw[b]at a;apply Classical.byContradiction;intro f;simp only[Option.bind_some]at a;rw[Array.getElem?_eq_none (by omega)]at a;simp at a
theorem PP{W:y_}(h:laidMetH prog Rows.topRecordsUptoRow.laid W):NB W.heap:=by
 obtain⟨ps,⟨L,M,t,N,O,P,u,x,y,z,⟨g1,Q,A,R,p1,S,B,C,D,E,⟨g2,T,F,U,p2,V,c,d,e,b,⟨X,Y,G,Z,p3,q3,f,j,l,m,⟨g4,t4,H,f4,p4,q4,n,p,q,r,-,-⟩,-⟩,-⟩,-⟩,-⟩,-⟩:=h;have a:GG prog W.heap:=by
  have I:TabIs prog W Rj .u64 pow10Tab:=by
   obtain rfl:=Al6.inj (AhY.symm.trans c);obtain rfl:=Al6.inj (Af0.symm.trans d);rw[XX]at b;unfold TabIs;rw[e,←cells_of_tab underlying393 underlying225 AeZ AhX b]
  intro w J;exact UM I fun k _=>by rw[J]
 obtain rfl:=Al6.inj (AcB.symm.trans f);obtain rfl:=Al6.inj (Ae8.symm.trans j);obtain rfl:=Al6.inj (rk_g.symm.trans n);obtain rfl:=Al6.inj (Ai3.symm.trans p);exact⟨YC rk_g q (Yl r),YC AcB l (Vi m),a,fun g K=>Af1 a K W⟩
noncomputable def S5(os:Os):y_:=
 {AcI os with heap:=((AcI os).heap.modify 2 (MI WY.toArray)).modify 0 (MI Ol.toArray)}
end
section
open Go.Proofs.YtdopnglgekglgaaGreatDoor.Rows (uptoBulk uptoBulkAll)
def InW(W:y_)(k:Nat):Prop:=k<W.heap.size
def T6{H:Type}(enc:x_×v_→H)(P:w_)(W:y_){α:Type}(T:Ty α)(sz:α→Nat)(t:x_):Prop:=
 ∀fuel cs d ps,DataW.trod enc P W 0 (fun _=>true) true fuel t cs=some (d,ps)→∃x,T.rep (InW W) W.heap cs x∧sz x≤uptoBulk d
def szL{α:Type}(sz:α→Nat):List α→Nat
 | []=>1
 | x::xs=>sz x+szL sz xs
theorem R9{α:Type}(sz:α→Nat)(x:α):∀xs:List α,szL sz (xs++[x])=szL sz xs+sz x
 | []=>by simp[szL];omega
 | y::ys=>by simp only[YaO,szL,R9 sz x ys];omega
theorem PN{α:Type}{sz:α→Nat}(h:∀x,1≤sz x):∀xs:List α,xs.length+1≤szL sz xs
 | []=>J_ _
 | y::ys=>by have:=PN h ys;have:=h y;simp only[j_,szL];omega
theorem UH{α:Type}{sz:α→Nat}{x:α}:∀{xs:List α},x∈xs→sz x≤szL sz xs
 | [],h=>by cases h
 | y::ys,h=>by
   rcases Ybe.1 h with rfl | h
   ·simp only[szL];omega
   ·have:=UH (sz:=sz) h;simp only[szL];omega
theorem Jt{H:Type}(d:DataW H):∀ds:List (DataW H),uptoBulkAll (ds++[d])=uptoBulkAll ds+uptoBulk d
 | []=>by simp[uptoBulkAll]
 | y::ys=>by simp only[YaO,uptoBulkAll,Jt d ys];omega
section
variable{H:Type}{enc:x_×v_→H}{P:w_}{W:y_}{t e:x_}
theorem V9{k:IntKind}(c:P.underlying t=some (.int k)):T6 enc P W (DB k) (fun _=>1) t:=by
 intro a e d ps h;obtain⟨n,rfl,hd,b⟩:=DataW.trod_int c h;cases hd;simp only[Lit.wf,h_,Zzj]at b;exact⟨n,⟨rfl,b⟩,by simp[uptoBulk]⟩
theorem VA(b:P.underlying t=some .string):T6 enc P W Cp (fun s=>s.size+1) t:=by
 intro a c d ps h;obtain⟨s,rfl,hd,hs⟩:=DataW.trod_string b h;cases hd;exact⟨s,⟨rfl,hs⟩,by simp[uptoBulk,Array.length_toList]⟩
theorem Nb{base:Nat}{v x:v_}(b:P.underlying t=some (.slice e))(a:Value.okWide P W .any base t v)(h:v.cells.toList=[x]):v=x:=by
 simp only[Value.okWide,b]at a;cases v with
 | agg c=>simp[Cell.okWide,Cell.ok,b]at a
 | _=>simpa [Value.cells]using h
theorem NF{a:Addr}{n:Nat}{cs:List v_}(h:W.cells? 0 a n=some cs)(m:0<n):cs.length=n∧a.spot=none∧a.block<W.heap.size∧AL W.heap a.block a.off cs:=by
 unfold World.cells? at h;rw[I_ (l_ _)]at h;have f:=mapM_some_length h;rw[Yd1]at f;have g:∀j,j<n→W.cell? (a.add j)=cs[j]? :=fun j k=>mapM_some_get h j j (by simp[k]);obtain⟨q,e⟩:∃v,cs[0]?=some v:=⟨cs[0]'(by omega),Ya2 (by omega)⟩;have c:=g 0 m;rw[e]at c;have d:a.spot=none:=by
  cases hs:a.spot with
  | none=>rfl
  | some x=>
    unfold World.cell? at c;split at c
    ·simp[Addr.add,hs]at c
    ·cases c
 refine⟨f,d,?_,fun j v l=>?_⟩
 ·unfold World.cell? at c;split at c
  ·rename_i p;exact(Array.getElem?_eq_some_iff.1 p).1
  ·cases c
 ·have k:=(X_.1 l).1;have:=g j (by omega);rw[l]at this;rw[←DF];have⟨b,o,r⟩:=a;simp only at d;subst d;rw[Addr.add_mid]at this;exact this
theorem KX{α:Type}{T:Ty α}{sz:α→Nat}(Q:P.underlying t=some (.slice e))(R:P.cellsOf e=T.size)(M:0<T.size)(S:T6 enc P W T sz e):T6 enc P W (tSl T) (szL sz) t:=by
 intro N cs d ps h;rcases DataW.trod_slice Q h with⟨rfl,hd⟩ | ⟨a,len,cap,f,rest,n,rfl,rfl,hd,-,hl,O,r,g,D,-⟩
 ·cases hd;exact⟨[],⟨none,0,rfl,rfl,rfl⟩,by simp[szL,uptoBulk]⟩
 ·cases hd;have⟨U,k⟩:=D rfl;rw[R]at g k;by_cases u:cap=0
  ·obtain rfl:len=0:=by omega
   exact⟨[],⟨some a,cap,rfl,by simp,O,.inl u⟩,by simp[szL,uptoBulk]⟩
  ·have E:a.spot=none∧a.block<W.heap.size:=by
    have w:∀y,(W.cells? 0 (a.add (0*T.size)) T.size).bind (DataW.trod enc P W 0 (fun _=>true) true n e)=some y→a.spot=none∧a.block<W.heap.size:=by
     intro y A;have⟨c,F,z⟩:=Yd9.1 A;have⟨g1,g2,G,H⟩:=NF F M;rw[Nat.zero_mul]at g2 G;unfold Addr.add at g2 G;split at g2<;>simp_all
    by_cases I:0<len
    ·exact w _ ((g 0 I).trans (Ya2 (by omega)))
    ·have:=k 0 (by omega);rw[show len+0=0 by omega]at this;exact w _ (this.trans (Ya2 (by omega)))
   have⟨b,o,sp⟩:=a;obtain⟨rfl,V⟩:=E;have l:∀m,m≤len→∃p xs,xs.length=m∧AL W.heap b o p∧T.reps (InW W) W.heap p xs∧szL sz xs≤uptoBulkAll ((f.take m).map (·.1))+1:=by
    intro m
    induction m with
    | zero=>exact fun _=>⟨[],[],rfl,(fun j v q=>by simp at q),rfl,by simp[szL]⟩
    | succ m X=>
      intro Y;have⟨p,xs,B,J,C,K⟩:=X (by omega);have A:f[m]?=some (f[m]'(by omega)):=Ya2 (by omega);have⟨c,Z,z⟩:=Yd9.1 ((g m (by omega)).trans A);have⟨x,h5,L⟩:=S n c _ _ z;have⟨g1,g2,G,H⟩:=NF Z M;rw[Addr.add_mid]at H;have r:=Ty.reps_len C;refine⟨p++c,xs++[x],by simp[B],fun j v q=>?_,Ty.reps_snoc C h5,?_⟩
      ·by_cases hj:j<p.length
       ·rw[YaK hj]at q;exact J j v q
       ·rw[YaD (by omega)]at q;have:=H _ v q;simp only at this;rw[show o+m*T.size+(j-p.length)=o+j by rw[r,B]at*;omega]at this;exact this
      ·rw[R9,Yd0,A,Option.toList_some,Ybk,List.map_singleton,Jt];refine YbC (Nat.add_le_add K L) ?_;rw[Nat.add_right_comm];exact J_ _
   have⟨p,xs,B,J,C,K⟩:=l len (J_ _);rw[Ycy (by omega)]at K;refine⟨xs,⟨_,cap,by rw[B],S_.intro V (by omega) O J C⟩,?_⟩;simp only[uptoBulk];omega
end
end
section
open Go.ChangeShapes Go.WideShapes Go.ChangeAt Go.RowKit
theorem QH{W W':y_}{a:MemPlace→Prop}(b:Y_ W W')(h:A_ (D_ W.heap) W.heap W'.heap):W.keptBut W' a:=by
 refine⟨b.os,b.output,fun i c=>?_⟩;rw[h i c];split<;>simp_all
theorem N2{W W':y_}(h:A_ (D_ W.heap) W.heap W'.heap)(a:Addr)(b:a.block<W.heap.size):W'.frozen? a=W.frozen? a:=by
 unfold World.frozen?;rw[h a.block b]
theorem N6{W W':y_}(h:A_ (D_ W.heap) W.heap W'.heap):∀p:MemPlace,p.block<W.heap.size→W.sameAt W' p
 | .cell b o,hb=>by
   show W'.cell? ⟨b,o,none⟩=W.cell? ⟨b,o,none⟩;rw[DF,DF];exact Lx (h b hb)
 | .map b,hb=>h b hb
section
variable{H:Type}{enc:x_×v_→H}{P:w_}
theorem Ql{W W':y_}{sp:Nat→Bool}(c:laidOutB P=true)(e:A_ (D_ W.heap) W.heap W'.heap):∀{ts:List x_} {vs:List v_} {ds:List (DataW H)} {ps:List MemPlace},(∀t∈ts,P.readableRec t=true∧t<P.types.size)→
  DataW.TrodAll enc P W 0 (fun _=>true) true ts vs ds ps→(∀p∈ps,p.block<W.heap.size)→(∀p∈ps,sp p.block=true)→DataW.TrodAll enc P W' 0 sp true ts vs ds ps
 | [],vs,ds,ps,_,h,_,_=>by
   obtain⟨rfl,rfl,rfl⟩:=trodAll_nil h;exact trodAll_mk0
 | t::ts,vs,ds,ps,ht,h,hlt,hsp=>by
   obtain⟨v,f,d,g,p,q,rfl,rfl,rfl,j,k⟩:=trodAll_cons h;have b:=ht t List.mem_cons_self;exact trodAll_cons_mk (WideElems.Trod_stays c b.1 b.2 j (fun x a=>N6 e x (hlt x (YaU _ a))) fun x a=>hsp x (YaU _ a))
    (Ql c e (fun x a=>ht x (YbX _ a)) k (fun x a=>hlt x (Ybc _ a)) fun x a=>hsp x (Ybc _ a))
theorem AfS{w:y_}{base:Nat}{sp:Nat→Bool}{hd:Bool}{t:x_}{b:Bool}(h:P.underlying t=some .bool):DataW.Trod enc P w base sp hd t (.bool b) (.lit (.bool b)) []:=⟨1,by simp[DataW.trod,Value.cells,h]⟩
theorem VF{f:Func}{s:ChangeSpec}{apart h c k:Bool}{W W':y_}{d:Array v_}{ds gs:List (DataW H)}{a:List MemPlace}{bt:x_}
  (z:DataW.Whole enc P f.params.toList s.vars apart W d.toList ds gs a) (I:s.vars=[]) (A:(s.fn H (ds++gs)).results=[.lit (.bool true)]∧(s.fn H (ds++gs)).args=ds∧(s.fn H (ds++gs)).vars=[])
  (M:laidOutB P=true) (e:f.params.toList.all (fun t=>P.readableRec t&&decide (t<P.types.size))=true) (J:f.resultTypes= #[bt]) (K:P.underlying bt=some .bool)
  (N:Y_ W W') (B:A_ (D_ W.heap) W.heap W'.heap):s.post enc P f apart h c k W d (.bool true) W':=by
 have l:=z.lt;have C:=z;have⟨pa,U,O,L,q,Q,R⟩:=z;rw[I]at L;obtain⟨rfl,rfl⟩:=trodVars_none L;rw[Yba]at q;subst q;have⟨u,m,n⟩:=A;have S:W.keptBut W' (fun _=>False):=QH N B;have D:∀t∈f.params.toList,P.readableRec t=true∧t<P.types.size:=fun t T=>by
  have:=Ycc.1 e t T;simpa using this
 have w:∀g:Nat→Bool,(∀p∈a,g p.block=true)→DataW.TrodAll enc P W' 0 g true f.params.toList d.toList (s.fn H (ds++[])).args a:=fun g E=>by
  rw[m];exact Ql M B D O l E
 have x:∀(b:Nat) (g:Nat→Bool) (hd:Bool),DataW.TrodAll enc P W' b g hd f.resultTypes.toList ((Value.bool true).resultList f.resultTypes.size) (s.fn H (ds++[])).results []:=fun b g hd=>by
  rw[u,J];exact trodAll_mk1 (AfS K)
 have y:∀g:Nat→Bool,DataW.TrodVars enc P W' g s.vars (s.fn H (ds++[])).vars []:=fun g=>by
  rw[n,I];rfl
 have F:∀(j:Nat) (t:x_) (r:v_),f.resultTypes[j]?=some t→((Value.bool true).resultList f.resultTypes.size)[j]?=some r→Value.okWide P W' .any 0 t r:=ok_one J rfl (okWide_bool_mk K true);refine⟨ds,[],a,[],a,[],C,x _ _ _,w _ (fun p e=>g_ (l p e)),y _,World.keptBut_mono (fun p e=>e.elim) S,fun _=>?_⟩;refine⟨F,_,_,([]++a)++[],⟨[]++a,[],trodAll_append (w _ (fun _ _=>rfl)) (x _ _ _),y _,rfl,?_,?_⟩,?_⟩
 ·intro b off e;simp only[Ybj,Yba]at e;rw[N2 B _ (l _ e)];exact Q b off e
 ·intro G;have:=R G;simpa using this
 ·intro p e _;simpa using e
end
end
section
open Go.ChangeShapes Go.WideShapes Go.ChangeAt Go.RowKit
theorem own_:ownKnob prog.godebug=none:=by kernel_rfl
theorem Ah4:laidOutB prog=true:=by kernel_rfl
theorem Y2{H:Type}{ds:List (DataW H)}(h:Rows.uptoSmall H ds=true):Rows.uptoBulkAll ds≤1048576:=by simpa [Rows.uptoSmall]using h
theorem MG{H:Type}{enc:x_×v_→H}{W:y_}{base:Nat}{v:v_}{d:DataW H}{ps:List MemPlace}(b:Value.okWide prog W .any base 22 v)(h:DataW.Trod enc prog W 0 (fun _=>true) true 22 v d ps)(j:Rows.uptoBulk d≤1048576):
  ∃a cap xs,v= .slice a xs.length cap∧S_ Cp (InW W) W.heap a cap xs∧xs.length≤1048576∧∀x∈xs,x.size≤1048576:=by
 have⟨c,h⟩:=h;have e:prog.cellsOf 9=Cp.size:=by kernel_rfl
 obtain⟨xs,⟨a,cap,f,hd⟩,z⟩:=KX underlying22 e (by decide) (VA underlying9) _ _ _ _ h;have k:=PN (sz:=fun s:ByteArray=>s.size+1) (fun s=>by omega) xs;exact⟨a,cap,xs,Nb underlying22 b f,hd,by omega,fun x g=>by have:=UH (sz:=fun s:ByteArray=>s.size+1) g;omega⟩
theorem V8{H:Type}{enc:x_×v_→H}{W:y_}{base:Nat}{v:v_}{d:DataW H}{ps:List MemPlace}(b:Value.okWide prog W .any base 23 v)(h:DataW.Trod enc prog W 0 (fun _=>true) true 23 v d ps)(g:Rows.uptoBulk d≤1048576):
  ∃a cap xs,v= .slice a xs.length cap∧S_ tI (InW W) W.heap a cap xs∧xs.length≤1048576:=by
 have⟨c,h⟩:=h;have e:prog.cellsOf 3=tI.size:=by kernel_rfl
 obtain⟨xs,⟨a,cap,f,hd⟩,z⟩:=KX underlying23 e (by decide) (V9 underlying3) _ _ _ _ h;have j:=PN (sz:=fun _:Int=>1) (fun s=>J_ _) xs;exact⟨a,cap,xs,Nb underlying23 b f,hd,by omega⟩
end
end Go.Proofs.YtdopnglgekglgaaGreatDoor
