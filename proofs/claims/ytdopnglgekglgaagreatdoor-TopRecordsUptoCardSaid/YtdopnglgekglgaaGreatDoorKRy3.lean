import Derived.Test.YtdopnglgekglgaaGreatDoorKRy2
import Derived.Shelf.Small.Strs
import Derived.Shelf.LaysM
set_option linter.unusedVariables false
set_option linter.unusedSimpArgs false
set_option linter.defProp false
set_option maxHeartbeats 100000000
open BitVec renaming allOnes → AlW
open List renaming range → AhO, length → AlO
open Option renaming some → Ah8
set_option maxRecDepth 100000
open Go.Proofs.Tryz
open Go renaming TypeId → x_, Program → w_, Value → v_, World → y_
namespace Go.Proofs.YtdopnglgekglgaaGreatDoor
section
variable{α:Type}{T:Ty α}{e:x_}{a:Option Addr}{n cap:Nat}{xs ys:List α}{B S:Nat→Prop}{H0 H:Aa}{ps:List Pc}
theorem Ad9{P:w_}{t ty by_:Nat}{z:v_}{a2:Option Addr}{c2:Nat}{K:v_→Aa→Prop}(w:T.Free)(f:T.Ones)(m:E_ B H0 H ps)(i:Nat)(x:SlT P t e T.size by_ z)(p:ps[i]?=some (pS T e a n cap xs))(g:∀k,S k→B k)(y:S_ T S H a2 c2 ys)
  (q:xs.length+ys.length≤8796093022208) (hby:by_≤16)
  (k:∀a' d H',E_ B H0 H' (ps.set i (pS T e a' (xs.length+ys.length) d (xs++ys)))→K (.slice a' (xs.length+ys.length) d) H'):
  Ba P (Builtin.append_ #[t,t] ty [.slice a n cap,.slice a2 ys.length c2].toArray) H K:=by
 refine Nq (T:=T) (S:=S) (lo:=0) x f ((m.at_ i p).1.free w) (l_ _) (fun k c=>⟨m.up (g k c),fun r=>(m.in_ i p (.inl r)).1 (g k c)⟩) y (by unfold maxLen;omega) (by have:=YbF q hby;omega) ?_;intro A H' b j u l;have b:M_ T none_ H' 0 e A (xs++ys):=b.free w;obtain⟨a',d,rfl⟩:=b.hull;rw[Q_]at b l ⊢;refine k a' d H' (m.upd i p (j.mono fun k c=>⟨c.1,fun r=>c.2 (.inl r)⟩) _ ⟨b,fun k c=>c.elim⟩ (fun k c=>?_) (fun k c=>?_) u)
 ·rcases c with c | c
  ·rcases l k c with h | h
   ·exact .inl (.inl h)
   ·exact .inr h
  ·exact c.elim
 ·rcases c with c | c
  ·exact(b.lt c).2
  ·exact c.elim
theorem E_.capI(d:E_ B H0 H ps)(i:Nat)(f:ps[i]?=some (pS T e a n cap xs)):xs.length≤cap:=by
 obtain⟨j,⟨-,h⟩,-⟩:=(d.at_ i f).1;rcases h with⟨-,h⟩ | ⟨b,c,l,g,-,-,k,-⟩
 ·omega
 ·injection g with e1 e2 e3
  omega
theorem E_.popI{x:α}(f:E_ B H0 H ps)(i:Nat)(g:ps[i]?=some (pS T e a n cap (xs++[x]))):E_ B H0 H (ps.set i (pS T e a xs.length cap xs)):=by
 have d:=(f.at_ i g).1;refine f.say i g _ ⟨d.pop,fun k b=>b.elim⟩ fun k b=>?_;rcases b with⟨o,m,c,b⟩ | b
 ·injection b with e1 e2 e3
  subst e1;exact .inl ⟨o,n,cap,rfl⟩
 ·exact b.elim
end
theorem Ah9{α:Type}{Ok:α→Prop}{enc:α→v_}{P:w_}{t kt et vt:x_}{z:v_}{S:Nat→Prop}{H:Aa}{b N:Nat}{m:α→Option v_}(E:Ej P t kt et z)(h:FQ Ok enc H b m)(F:S b)(G:∀l:List α,l.Nodup→(∀a∈l,(m a).isSome=true)→l.length≤N){K:v_→Prop}
  (k:∀c:Nat,c≤N→K (.int .i64 (c:Int))):A7 P (Builtin.len_ #[t] vt [.map (some b)].toArray) S H K:=by
 obtain⟨⟨f,q,I,J,L,Z⟩,M⟩:=h;have r:∀k,k≤f.size→∃l:List α,l.length=k∧∀(j:Nat) (a:α),l[j]?=some a→∃x,f[j]?=some x∧x.key=enc a∧m a=some x.val:=by
  intro k
  induction k with
  | zero=>exact fun _=>⟨[],rfl,fun j a h=>by simp at h⟩
  | succ k O=>
    intro hk;have⟨l,u,g⟩:=O (by omega);have p:f[k]?=some f[k]:=Yad (by omega);have⟨a,Q,e2⟩:=L k _ p;refine⟨l++[a],by simp[u],fun j a' d=>?_⟩;by_cases R:j<k
    ·rw[YaK (by omega)]at d;exact g j a' d
    ·have A:=(X_.1 d).1;simp only[Q_,j_,J']at A;obtain rfl:j=k:=by omega
     rw[YaD (by omega),u,YbD]at d;simp only[Ycb,Ah8.injEq]at d;subst d;exact⟨_,p,Q,e2⟩
 have⟨l,u,g⟩:=r f.size (J_ _);have B:l.Nodup:=by
  unfold List.Nodup;rw[Ya6];intro i j T d U e;obtain⟨x,p,n,-⟩:=g i _ (Ya2 T);obtain⟨y,V,C,-⟩:=g j _ (Ya2 d);rw[e]at n;have:=Cy J p V (n.trans C.symm);omega
 have W:=G l B fun a X=>by
  have⟨j,d⟩:=YaT X;obtain⟨x,-,-,e⟩:=g j a d;rw[e];rfl
 refine A7.mk _ (fun w Y=>?_) (k f.size (by omega));have D:=(Y b F).trans I;simp[Builtin.len_,run_underlying E.under,Go.MapKept.run_getObj_map D,goInt]
theorem AeQ(X:PS):mss X≤65536:=by unfold mss;exact JE _
theorem Yw{a:O_}{q:Int}(h:a.has q=true):∃row,(AfF a)[q.toNat]?=some row∧row.length≤a.edges.length∧∀p,p∈row↔∃e∈a.edges,e.sil=true∧e.fr=q∧a.has e.to=true∧p=e.to:=by
 have k:0≤q∧q<(Ez a:Int):=by
  have:=QE a q;rw[h]at this;simpa using this.symm
 refine⟨_,GQ _ _ (by omega),Ycx _ _,fun p=>?_⟩;rw[YcR];constructor
 ·rintro⟨e,d,b⟩;unfold keyS okE at b;split at b
  ·rename_i c;simp only[h_]at c;rw[YbG]at b;have f:=(O_.has_iff.1 c.1.1);split at b
   ·rename_i g;injection b with b
    exact⟨e,d,c.2,by simp only at g;omega,c.1.2,b.symm⟩
   ·cases b
  ·simp at b
 ·rintro⟨e,d,b,rfl,j,rfl⟩;refine⟨e,d,?_⟩;unfold keyS okE;rw[h,j,b];simp
structure O9(a:O_)(X:List Int)(todo:List Int)(mm:Int→Option v_):Prop where
 has:∀q∈todo,a.has q=true
 one:∀p,Dom mm p→mm p=some (.int .i64 1)
 tcl:∀p∈todo,clS a (·∈X) p
 mcl:∀p,Dom mm p→clS a (·∈X) p
 all:∀x∈X,Dom mm x∨x∈todo
 shut:∀p,Dom mm p→∀e∈a.edges,e.sil=true→e.fr=p→a.has e.to=true→Dom mm e.to∨e.to∈todo
 len:todo.length≤X.length+(65536-mss (Dom mm))*33554432
theorem O9.done{a:O_}{X:List Int}{b:Int→Option v_}(h:O9 a X [] b):∀q,Dom b q↔clS a (·∈X) q:=fun q=>
 ⟨h.mcl q,EX (Y:=Dom b) (fun x c=>(h.all x c).elim id fun h=>by cases h) (fun e d hs f g=>(h.shut e.fr g e d hs rfl f).elim id fun h=>by cases h) q⟩
theorem O9.old_{a:O_}{X todo:List Int}{f:Int→Option v_}{q:Int}(h:O9 a X (todo++[q]) f)(g:Dom f q):O9 a X todo f:=by
 refine⟨fun p d=>h.has p (YaU _ d),h.one,fun p d=>h.tcl p (YaU _ d),h.mcl,fun x j=>?_,fun p d e k b l m=>?_,?_⟩
 ·rcases h.all x j with b | b
  ·exact .inl b
  ·rcases q_.1 b with b | b
   ·exact .inr b
   ·rw[V_]at b;subst b;exact .inl g
 ·rcases h.shut p d e k b l m with c | c
  ·exact .inl c
  ·rcases q_.1 c with c | c
   ·exact .inr c
   ·rw[V_]at c;rw[c];exact .inl g
 ·have:=h.len;simp only[Q_,j_,J']at this;omega
theorem O9.new_{a:O_}{X todo row:List Int}{g:Int→Option v_}{q:Int}(h:O9 a X (todo++[q]) g)(y:¬Dom g q)(z:row.length≤33554432)(f:∀p,p∈row↔∃e∈a.edges,e.sil=true∧e.fr=q∧a.has e.to=true∧p=e.to):
  O9 a X (todo++row) (put g q (some (.int .i64 1)))∧mss (Dom (put g q (some (.int .i64 1))))<mss (Dom g):=by
 have r:=h.has q (by simp);have t:=O_.has_iff.1 r;have l:=h.tcl q (by simp);have u:mss (Dom (put g q (some (.int .i64 1))))<mss (Dom g):=AeR (fun p c=>(EO p).2 (.inl c)) t.1 (by omega) y ((EO q).2 (.inr rfl));refine⟨⟨fun p c=>?_,fun p c=>?_,fun p c=>?_,fun p c=>?_,fun x A=>?_,fun p c e w b m n=>?_,?_⟩,u⟩
 ·rcases q_.1 c with c | c
  ·exact h.has p (YaU _ c)
  ·obtain⟨e,-,-,-,k,rfl⟩:=(f p).1 c;exact k
 ·by_cases d:p=q
  ·subst d;unfold put;rw[I_ rfl]
  ·rcases(EO p).1 c with b | b
   ·unfold put;rw[G_ d];exact h.one p b
   ·exact absurd b d
 ·rcases q_.1 c with c | c
  ·exact h.tcl p (YaU _ c)
  ·obtain⟨e,b,m,n,k,rfl⟩:=(f p).1 c;exact Ju a _ e b m k (by rw[n];exact l)
 ·rcases(EO p).1 c with b | b
  ·exact h.mcl p b
  ·rw[b];exact l
 ·rcases h.all x A with b | b
  ·exact .inl ((EO x).2 (.inl b))
  ·rcases q_.1 b with b | b
   ·exact .inr (YaU _ b)
   ·rw[V_]at b;exact .inl ((EO x).2 (.inr b))
 ·by_cases d:p=q
  ·subst d;exact .inr (List.mem_append_right _ ((f e.to).2 ⟨e,w,b,m,n,rfl⟩))
  ·rcases(EO p).1 c with k | k
   ·rcases h.shut p k e w b m n with j | j
    ·exact .inl ((EO _).2 (.inl j))
    ·rcases q_.1 j with j | j
     ·exact .inr (YaU _ j)
     ·rw[V_]at j;exact .inl ((EO _).2 (.inr j))
   ·exact absurd k d
 ·have:=h.len;have B:=AeQ (Dom g);simp only[Q_,j_,J']at this ⊢;have C:(65536-mss (Dom g))+1≤65536-mss (Dom (put g q (some (.int .i64 1)))):=by omega
  have e2:=Ybv 33554432 C;omega
abbrev Y9:x_:=5
theorem TJ{S:Nat→Prop}{H0 H:Aa}{v:v_}{a:O_}{la:Option Addr}{lc:Nat}{X:List Int}(st:St H0 H [pS tIk 3 la X.length lc X])(hS:∀k,S k→k<H0.size)(hv:Lk S H0 v a)(hX:∀q∈X,a.has q=true)(cx:X.length≤2199023255552)(bd:a.edges.length≤33554432)(am:GG prog H0):
  Al prog 214 #[v,.slice la X.length lc] H fun r H'=>r= .string (nmB (EE (clS a (·∈X))))∧A_ (D_ H0) H0 H':=by
 obtain⟨nb,sa,sc,ta,tc,rfl,be,O,ao,-⟩:=hv;have cu:=Pt a;refine Al.of_vc func214 rfl (call214 _) (Kx (Ok:=Ny) (enc:=kI) fun mb H1 bf bh bj bn=>?_);have st1:=st.mapNewW bf bh bj bn;(conv=>whnf);refine A8.mk [1] (fun x:List Int×Option Addr×Nat×(Int→Option v_)=>match x with | (todo,Y,Z,B)=>[.slice Y todo.length Z])
  (fun x H2=>O9 a X x.1 x.2.2.2∧St H0 H2 [pS tIk 3 x.2.1 x.1.length x.2.2.1 x.1,pMW Ny kI mb x.2.2.2]) (fun x _=>mss (Dom x.2.2.2)*33554434+x.1.length) ?_ ?_
 ·(conv=>whnf);refine⟨(X,la,lc,fun _=>none),rfl,⟨hX,(fun p hp=>by cases hp),fun p hp=>Kl hp,(fun p hp=>by cases hp),fun x t=>.inr t,(fun p hp=>by cases hp),YcF _ _⟩,st1⟩
 ·rintro⟨todo,Y,Z,B⟩ H2 bo ⟨hI,u⟩;simp only at hI u;have cw:=hI.len;have bp:todo.length≤4398046511104:=by
   have:(65536-mss (Dom B))*33554432≤65536*33554432:=Ybv _ (by omega);omega
  refine Ag.m2 (fun hz=>?_) (fun hz=>?_)
  ·have P:todo≠[]:=fun e=>by subst e;simp at hz
   obtain⟨td,q,rfl⟩:∃td q,todo=td++[q]:=⟨todo.dropLast,todo.getLast P,(List.dropLast_concat_getLast P).symm⟩;have bq:(td++[q]).length=td.length+1:=by simp
   have ap:=hI.has q (by simp);have aq:(td++[q])[td.length]?=some q:=by simp
   have w1:IntKind.wrap .i64 (((td++[q]).length:Int)-1)=(td.length:Int):=by rw[bq,w64 (by omega) (by omega)];omega
   (conv=>whnf);rw[w1];refine u_ (i:=td.length) AO (u.view 0 rfl) aq rfl ?_;rintro b3 o3 c3 cy br ⟨rfl,au⟩;refine lT br.one ?_;(conv=>whnf);rw[w1];refine YR AO (by omega) (by have:=u.capI 0 rfl;omega) ?_;rw[Yau];have C:=u.popI 0 rfl;refine SH (a:=q) Uo Ui trivial (C.mapW 1 rfl) trivial ?_;cases a0:B q with
   | some w=>
     have E:Dom B q:=by unfold Dom;rw[a0];rfl
     have hw:=hI.one q E;rw[a0]at hw;injection hw with hw
     subst hw;(conv=>whnf);exact⟨rfl,(td,Y,Z,B),rfl,⟨hI.old_ E,C⟩,by simp only[Q_,j_,J'];omega⟩
   | none=>
     have bu:¬Dom B q:=by unfold Dom;rw[a0];decide
     have⟨row,aw,bv,bw⟩:=Yw ap;have⟨bx,a7⟩:=hI.new_ bu (YbC bv bd) bw;refine IV (a:=q) C 1 Uo Ui trivial rfl rfl fun H4 F=>(fa ?_);refine lT (v:=.slice sa (Ez a) sc) ((O.eq (F.old nb (hS nb be))) 0 _ rfl) ?_;refine F4 (i:=q.toNat) DS (ao.frame (F.old.mono hS)) (CK _ _ _).symm aw (by have:=O_.has_iff.1 ap;omega) ?_;rintro b5 o5 cz d0 bz ⟨ra,rc,rfl,c2⟩;refine lT bz.one ?_;refine Ad9 (S:=S) (VY .i64) (VZ .i64) F 0 AO rfl hS c2 (by simp only[Q_,j_,J']at bp;omega) (by decide) fun a6 c6 H6 Q=>?_;(conv=>whnf);refine⟨rfl,(td++row,a6,c6,put B q (some (.int .i64 1))),by simp only[Q_],⟨bx,?_⟩,?_⟩
     ·simp only[Q_];exact Q
     ·have e2:=Ybv 33554434 (Nat.succ_le_of_lt a7);simp only[Q_,j_,J'];omega
  ·obtain rfl:todo=[]:=YaA (by omega);have G:=hI.done;have I:∀q,Dom B q→0≤q∧q<65536:=fun q z=>Ei (Il (X:=(·∈X)) hX) q ((G q).1 z);refine Ah9 (N:=65536) Uo (u.mapW 1 rfl) trivial (fun l hl A=>IW 65536 l hl fun x t=>I x (A x t)) fun c hc=>(D1 AO rfl (by omega) (by omega) (by omega) (by omega) ?_);intro ab H3 c4 c7 ay c8;rw[Yau]at ay;rw[Yau,show(0:Int).toNat=0 from rfl];have C:=u.newCap (T:=tIk) (cap:=c) c4 c7 ay c8 (by simp[DB]) (by unfold maxLen;omega);refine Ur C 1 Uo rfl fun r n3 H4 F=>?_;(conv=>whnf);refine A8.mk [7] (fun x:List Int×Option Addr×Nat×Nat=>match x with | (ks,Y,Z,n)=>[.slice Y ks.length Z])
    (fun x H5=>x.1.Nodup∧(∀q∈x.1,Dom B q)∧∃D last,(∀q,D q↔q∈x.1)∧St H0 H5 [pIW Ny kI mb r B D last x.2.2.2,pS tIk 3 x.2.1 x.1.length x.2.2.1 x.1]) (fun x _=>x.2.2.2) ?_ ?_
   ·(conv=>whnf);exact⟨([],some ⟨ab,0,none⟩,c,n3),rfl,List.Pairwise.nil,(fun q h=>by cases h),_,none,fun q=>⟨fun h=>h.elim,fun h=>by cases h⟩,F.pick [1,2] (by decide)⟩
   ·rintro⟨ks,Y,Z,n5⟩ H5 cb ⟨R,A,D,last,hD,a8⟩;simp only at R A hD a8;have d1:=IW 65536 ks R fun x t=>I x (A x t);refine XA a8 0 Ui.inj rfl (fun az=>?_) fun q v H6 n6 z cd a7 Q=>?_
    ·have b4:ks.mergeSort (fun x y=>decide (x≤y))=EE (clS a (·∈X)):=Oa (fun q z=>Ei (Il (X:=(·∈X)) hX) q z) (Te R) fun q=>by
      rw[List.mem_mergeSort,←G q];exact⟨A q,fun h=>(hD q).1 (az q h)⟩
     have hL:∀q∈EE (clS a (·∈X)),0≤q∧q<65536:=fun q z=>Ei (Il (X:=(·∈X)) hX) q ((Fm (Ei (Il (X:=(·∈X)) hX)) q).1 z);have d2:(EE (clS a (·∈X))).length≤65536:=JE _;have V:(ks.mergeSort fun x y=>decide (x≤y)).length=ks.length:=List.length_mergeSort _;refine Ai7 AfH a8 1 rfl (by omega) fun H7 d=>?_;rw[b4]at d V;rw[←V]at d ⊢;generalize EE (clS a (·∈X))=L at*;replace d:St H0 H7 [pIW Ny kI mb r B D last n5,pS tIk 3 Y L.length Z L]:=d;have ce:=d.view 1 rfl;have ae:=am.agr d.old;have u7:St H7 H7 [pS tU8 Y9 none 0 0 []]:=(St.nil H7).nils tU8 Y9;(conv=>whnf);refine A8.mk [9,59] (fun x:Nat×Option Addr×Nat=>match x with | (i,a9,c9)=>[.slice a9 (AT (L.take i)).length c9,C_ i])
      (fun x H8=>x.1≤L.length∧(x.1=0→x.2.1=none)∧St H7 H8 [pS tU8 Y9 x.2.1 (AT (L.take x.1)).length x.2.2 ((AT (L.take x.1)).map fun(y:Nat)=>(y:Int))]) (fun x _=>L.length-x.1) ?_ ?_
     ·(conv=>whnf);exact⟨(0,none,0),rfl,l_ _,fun _=>rfl,u7⟩
     ·rintro⟨i,a9,c9⟩ H8 cg ⟨hi,ch,f⟩;simp only at hi ch f;refine Ag.m2 (fun ci=>?_) (fun ci=>?_)
      ·have⟨q,z⟩:=Am (l:=L) (k:=i) (by omega);have ah:=hL q (d_ z);have cj:(AT (L.take i)).length≤393216:=by
        have g:=Ir (l:=L.take i) fun x t=>hL x (YcP t);have h2:(L.take i).length≤65536:=by rw[YaN];omega
        omega
       have d3:((AT (L.take i)).map fun(y:Nat)=>(y:Int)).length=(AT (L.take i)).length:=Z_ _;have d4:=TP ah;refine u_ (i:=i) AO (ce.frame f.old) z rfl ?_;rintro b9 o9 d5 d6 cm ⟨rfl,-⟩;refine B_ cm.one trivial (appI Zm f ae (by omega) (by omega) (by omega) fun d7 d8 H10 W=>?_);have e1:((AT (L.take i)).map fun(y:Nat)=>(y:Int))++I1 q=(AT (L.take i)++Dn q).map fun(y:Nat)=>(y:Int):=by rw[Ybk,Ae1]
       rw[e1]at W ⊢;have co:((AT (L.take i)++Dn q).map fun(y:Nat)=>(y:Int)).length=(AT (L.take i)).length+(Dn q).length:=by simp
       refine Az Jd [.int .u8 44] rfl rfl (by decide) (by decide) ?_;intro cp H11 J b6 K M;have b7:=W.skip J M;refine GH (x:=(44:Int)) b7 0 Jd rfl K ⟨rfl,Lo (x:=44) (by decide)⟩ rfl (by omega) (by decide) fun ai aj H12 m _=>?_;have e2:((AT (L.take i)++Dn q).map fun(y:Nat)=>(y:Int))++[44]=(AT (L.take (i+1))).map fun(y:Nat)=>(y:Int):=by
        rw[Ai z,MA,Ybk (l₂:=[44])];rfl
       have e3:((AT (L.take i)++Dn q).map fun(y:Nat)=>(y:Int)).length+1=(AT (L.take (i+1))).length:=by
        rw[co,Ai z,MA];simp only[Q_,j_,J']
       rw[e2,e3]at m;rw[e3];(conv=>whnf);rw[R_ i (by omega)];exact⟨rfl,(i+1,ai,aj),by simp,⟨by simp only;omega,fun h=>by simp only at h;omega,m⟩,by simp only;omega⟩
      ·obtain rfl:i=L.length:=by omega
       rw[YaB]at f;rw[YaB];have hold:A_ (D_ H0) H0 H8:=d.old.trans (f.old.mono fun k hk=>d.up hk);cases a9 with
       | none=>
         have cq:L=[]:=by
          apply Classical.byContradiction;intro P;have cj:=f.capI 0 rfl;obtain⟨cs,⟨-,ak⟩,-⟩:=(f.at_ 0 rfl).1;rcases ak with⟨g,h2⟩ | ⟨b,c',l',g,-⟩
          ·rw[Z_]at h2;cases L with
           | nil=>exact P rfl
           | cons x l=>
             have:AT (x::l)=(Dn x++[44])++AT l:=by unfold AT;rw[YbY]
             rw[this]at h2;simp at h2
          ·injection g with g;cases g
         subst cq;refine Ad0 (e:=Y9) rfl rfl rfl ?_;(conv=>whnf);exact⟨rfl,hold⟩
       | some ad=>
         obtain⟨cs,⟨-,ak⟩,cr⟩:=(f.at_ 0 rfl).1;obtain⟨rfl,-⟩:=LE cr;rcases ak with⟨g,-⟩ | ⟨b,c',l',g,-,hb,-,-,-,ct⟩
         ·injection g with g;cases g
         ·injection g with g h2 h3
          injection g with g
          subst g;refine AfV (AT L) (e:=Y9) rfl rfl rfl (fun j x t=>?_) rfl ?_
          ·have U:((((AT L).map fun(y:Nat)=>(y:Int)).map (Value.int .u8)))[j]?=some (.int .u8 (x:Int)):=by
            rw[t_,t_,t];rfl
           rw[←ct,YaM]at U;split at U
           ·rw[P_,hb.cell];exact U
           ·cases U
          (conv=>whnf);exact⟨rfl,hold⟩
    ·have E:Dom B q:=by unfold Dom;rw[z];rfl
     have au:q∉ks:=fun h=>cd ((hD q).2 h);have ah:=I q E;have b8:(ks++[q]).Nodup:=YcK.2 ⟨R,by simp,fun x t y hy e=>by rw[V_]at hy;subst hy;subst e;exact au t⟩;refine AcR (Q.iterW 0 rfl) Ui.inj z (Az AO [C_ q] rfl rfl (by decide) (by decide) ?_);intro cp H11 J b6 K M;refine GH (x:=q) (Q.skip J M) 1 AO rfl K ⟨rfl,Aa8 ah⟩ rfl (by omega) (by decide) fun ai aj H12 m _=>?_;(conv=>whnf);refine⟨rfl,(ks++[q],ai,aj,n6),by simp only[Q_,j_,J'],⟨b8,fun x t=>?_,_,_,fun x=>?_,by simp only[Q_,j_,J'];exact m⟩,a7⟩
     ·rcases q_.1 t with h | h
      ·exact A x h
      ·rw[V_]at h;subst h;exact E
     ·rw[q_,V_,hD x]
section
variable{α:Type}{T:Ty α}{e:x_}{a:Option Addr}{n cap:Nat}{xs:List α}{B:Nat→Prop}{H0 H:Aa}{ps:List Pc}
theorem AgB{P:w_}{t ty q o m g by_:Nat}{z:v_}{ys:List α}{ds:List v_}{K:v_→Aa→Prop}(r:E_ B H0 H ps)(i:Nat)(x:SlT P t e T.size by_ z)(w:ps[i]?=some (pS T e a n cap xs))
  (hd:AL H q o ds) (y:T.reps none_ H ds ys) (A:m=ys.length) (C:∀u∈ds,u.oneCell'=true) (l:xs.length+ys.length≤8796093022208) (hby:by_≤16)
  (k:∀a' c H',E_ B H0 H' (ps.set i (pS T e a' (xs.length+ys.length) c (xs++ys)))→A_ (fun k=>k<H.size∧¬N_ (.slice a n cap) k) H H'→K (.slice a' (xs.length+ys.length) c) H'):
  Ba P (Builtin.append_ #[t,t] ty [.slice a n cap,.slice (some ⟨q,o,none⟩) m g].toArray) H K:=by
 refine BG (T:=T) (S:=none_) (lo:=0) x (r.at_ i w).1 (l_ _) (fun k b=>b.elim) hd y A C (by unfold maxLen;omega) (by have:=YbF l hby;omega) ?_;intro E H' d f p j;obtain⟨a',c,rfl⟩:=d.hull;rw[Q_]at d j ⊢;refine k a' c H' (r.upd i w (f.mono fun k b=>⟨b.1,fun D=>b.2 (.inl D)⟩) _ ⟨d,fun k b=>b.elim⟩ (fun k b=>?_) (fun k b=>?_) p) f
 ·rcases b with b | b
  ·rcases j k b with h | h
   ·exact .inl (.inl h)
   ·exact .inr h
  ·exact b.elim
 ·rcases b with b | b
  ·exact(d.lt b).2
  ·exact b.elim
end
theorem Vy{l:List Int}(h:∀q∈l,0≤q∧q<65536):∀b∈AT l,b=44∨(48≤b∧b≤57):=by
 intro b a;have⟨q,c,a⟩:=Ycd.1 a;rcases q_.1 a with a | a
 ·exact .inr (Jx (h q c).1 b a)
 ·rw[V_]at a;exact .inl a
def IU(l:List Int)(i:Nat):List Int×Nat:=((AT l).take i).foldl mst ([],0)
theorem Vx{l:List Int}{i b:Nat}(h:(AT l)[i]?=some b):IU l (i+1)=mst (IU l i) b:=by
 unfold IU;rw[Ai h,Yca];rfl
theorem QV{l:List Int}(h:∀q∈l,0≤q∧q<65536):IU l (AT l).length=(l,0):=by
 unfold IU;rw[YaB,L8 l [] fun q a=>(h q a).1];rfl
theorem Od{l:List Int}(h:∀q∈l,0≤q∧q<65536)(S:l.length≤65536)(H:Aa):
  Al prog 216 #[.string (nmB l)] H fun r H'=>A_ (D_ H) H H'∧∃ra rc,r= .slice ra l.length rc∧M_ tIk none_ H' H.size 3 (.slice ra l.length rc) l:=by
 have A:=Rc h;have L:=Ir h;refine Al.of_vc func216 rfl (call216 _) ?_;(conv=>whnf);rw[A];have st1:=(St.nil H).nils tIk 3;(conv=>whnf);refine A8.mk [3,4,8] (fun x:Nat×Option Addr×Nat=>match x with | (i,w,z)=>[.slice w (IU l i).1.length z,C_ ((IU l i).2:Int),C_ i])
  (fun x H2=>x.1≤(AT l).length∧St H H2 [pS tIk 3 x.2.1 (IU l x.1).1.length x.2.2 (IU l x.1).1]) (fun x _=>(AT l).length-x.1) ?_ ?_
 ·(conv=>whnf);exact⟨(0,none,0),rfl,l_ _,st1⟩
 ·rintro⟨i,w,z⟩ H2 B ⟨N,c⟩;simp only at N c;have⟨g,T,O,j⟩:=Ut l [] i h;change (IU l i).2<65536 at g;change (IU l i).1=_ at j;have C:(IU l i).1.length≤65536:=by rw[j];simp only[List.nil_append,YaN];omega
  refine Ag.m2 (fun P=>?_) (fun P=>?_)
  ·have⟨b,D⟩:=Ae9 (s:=nmB l) (k:=i) (by omega);have e:=OH D;rw[OI h]at e;have a:=Vx e;have f:=Vy h _ (d_ e);obtain⟨y,E⟩:∃y,y=b.toNat:=⟨_,rfl⟩;rw[←E]at a f e;obtain⟨M,J⟩:∃M,M=IU l i:=⟨_,rfl⟩;rw[←J]at c g C a;rw[←J];refine Af.run (Ci underlying9 rfl D ?_);rw[←E];rcases f with m | Q
   ·have F:((y:Int)==44)=true:=by rw[m];rfl
    have d:IU l (i+1)=(M.1++[(M.2:Int)],0):=by rw[a];unfold mst;rw[I_ m]
    (conv=>whnf);rw[F];refine Az AO [C_ (M.2:Int)] rfl rfl (by decide) (by decide) ?_;intro R H11 n K p t;refine GH (x:=(M.2:Int)) (c.skip n t) 0 AO rfl p ⟨rfl,Aa8 ⟨by omega,by omega⟩⟩ rfl (by omega) (by decide) fun G I H12 u _=>?_;(conv=>whnf);rw[R_ i (by omega)];refine⟨rfl,(i+1,G,I),?_,⟨by simp only;omega,?_⟩,by simp only;omega⟩
    ·simp only;rw[d];simp
    ·simp only;rw[d];simpa using u
   ·have F:((y:Int)==44)=false:=by rw[beq_eq_false_iff_ne];omega
    have d:IU l (i+1)=(M.1,10*M.2+(y-48)):=by rw[a];unfold mst;rw[G_ (by omega)]
    (conv=>whnf);rw[F];(conv=>whnf);rw[n_ (x:=10*(M.2:Int)) (by omega)];refine Ci underlying9 rfl D ?_;rw[←E];(conv=>whnf);rw[w8 (x:=(y:Int)-48) (by omega) (by omega)];(conv=>whnf);rw[n_ (x:=(y:Int)-48) (by omega)];(conv=>whnf);rw[n_ (x:=10*(M.2:Int)+((y:Int)-48)) (by omega)];(conv=>whnf);rw[R_ i (by omega)];refine⟨rfl,(i+1,w,z),?_,⟨by simp only;omega,?_⟩,by simp only;omega⟩
    ·simp only;rw[d];simp only;rw[show((10*M.2+(y-48):Nat):Int)=10*(M.2:Int)+((y:Int)-48) by omega];simp
    ·simp only;rw[d];exact c
  ·obtain rfl:i=(AT l).length:=by omega
   rw[QV h]at c;(conv=>whnf);rw[QV h];exact⟨c.old,w,z,rfl,St.own c 0 rfl⟩
theorem Xr{S:Nat→Prop}{H:Aa}{a:Option Addr}{c:Nat}{xs:List Int}{q:Int}(u:∀k,S k→k<H.size)(h:S_ tIk S H a c xs):
  Al prog 232 #[.slice a xs.length c,C_ q] H fun r H'=>A_ (D_ H) H H'∧∃n:Int,r= .int .i64 n∧decide (0≤n)=decide (q∈xs):=by
 have f:=h.le;unfold maxLen at f;refine Al.of_vc func232 rfl (call232 _) ?_;(conv=>whnf);refine A8.mk [8] (fun i:Nat=>[C_ i]) (fun i H2=>i≤xs.length∧A_ (D_ H) H H2∧q∉xs.take i) (fun i _=>xs.length-i) ?_ ?_
 ·(conv=>whnf);exact⟨0,rfl,l_ _,A_.refl _ _,by simp⟩
 ·rintro i H2 t ⟨z,d,b⟩;refine Ag.m2 (fun w=>?_) (fun w=>?_)
  ·have⟨x,g⟩:=Am (l:=xs) (k:=i) (by omega);refine u_ (i:=i) AO (h.frame (d.mono u)) g rfl ?_;rintro A B C y j ⟨rfl,-⟩;refine lT j.one ?_;by_cases e:x=q
   ·have m:(q==x)=true:=by rw[e];simp
    (conv=>whnf);rw[m];(conv=>whnf);refine⟨d,i,rfl,?_⟩;rw[g_ (show(0:Int)≤(i:Int) by omega),g_ (e ▸ d_ g)]
   ·have m:(q==x)=false:=beq_eq_false_iff_ne.2 (Ne.symm e);(conv=>whnf);rw[m];(conv=>whnf);rw[R_ i (by omega)];refine⟨rfl,i+1,by simp,⟨by omega,d,?_⟩,by omega⟩;rw[Ai g,q_,V_];rintro(p | p)
    ·exact b p
    ·exact e p.symm
  ·obtain rfl:i=xs.length:=by omega
   rw[YaB]at b;(conv=>whnf);exact⟨d,-1,rfl,by rw[a_ b];rfl⟩
theorem Q0{S:Nat→Prop}{H:Aa}{a:Option Addr}{c:Nat}{xs:List Int}{q:Int}(d:∀k,S k→k<H.size)(h:S_ tIk S H a c xs):
  AZ prog 218 #[.slice a xs.length c,C_ q] H (.bool (decide (q∈xs))):=by
 refine Al.of_vc func218 rfl (call218 _) (Aj.mk (Xr (q:=q) d h) ?_);rintro _ H1 ⟨b,n,rfl,e⟩;(conv=>whnf);rw[e];(conv=>whnf);exact⟨rfl,b⟩
theorem RD{a:O_}{q:Int}(h:a.has q=true):∃row,(Nk a)[q.toNat]?=some row∧row.length≤a.edges.length∧∀e,e∈row↔e∈a.edges∧e.sil=false∧e.fr=q∧a.has e.to=true:=by
 have l:0≤q∧q<(Ez a:Int):=by
  have:=QE a q;rw[h]at this;simpa using this.symm
 refine⟨_,GQ _ _ (by omega),Ycx _ _,fun e=>?_⟩;rw[YcR];constructor
 ·rintro⟨f,d,b⟩;unfold IR okE at b;split at b
  ·rename_i c;simp only[h_,Bool.not_eq_true']at c;rw[YbG]at b;have g:=(O_.has_iff.1 c.1.1);split at b
   ·rename_i j;injection b with b
    subst b;exact⟨d,c.2,by show f.fr=q;simp only at j;omega,c.1.2⟩
   ·cases b
  ·simp at b
 ·rintro⟨d,b,rfl,k⟩;refine⟨e,d,?_⟩;unfold IR okE;rw[h,k,b];simp
noncomputable def Bj(a:O_)(l:List Int)(b:Nat):List Int:=EE (goS a (·∈l) b)
theorem KB{a:O_}{l:List Int}{b:Nat}:∀q∈Bj a l b,a.has q=true:=fun q c=>OZ a _ b q ((Fm (Ei (OZ a (·∈l) b)) q).1 c)
theorem M1{S:Nat→Prop}{H H2 H3:Aa}{ps qs:List Pc}{ra:Option Addr}{rc:Nat}{row:List Z'}(h:S_ tEd S H2 ra rc row)(c:St H H2 ps)(d:St H H3 qs)(a:∀k,S k→k<H.size):S_ tEd S H3 ra rc row:=
 h.frame fun k b=>by rw[d.old k (a k b),c.old k (a k b)]
theorem AbG{S:Nat→Prop}{H:Aa}{v:v_}{a:O_}{l:List Int}{B b:Nat}(K:∀k,S k→k<H.size)(P:S B)(m:AL H B 0 [v])(L:Lk S H v a)(ae:a.edges.length≤33554432)(hl:∀q∈l,a.has q=true)(Q:l.length≤65536)(hb:b<256)(R:GG prog H):
  Al prog 215 #[.string (nmB l),.int .u8 (b:Int),H_ B] H fun r H'=>r= .string (nmB (Bj a l b))∧A_ (D_ H) H H':=by
 have ah:∀q∈l,0≤q∧q<65536:=fun q C=>by have:=O_.has_iff.1 (hl q C);omega
 have ai:=L;obtain⟨nb,sa,sc,ta,tc,aj,ak,t,-,U⟩:=L;subst aj;refine Al.of_vc func215 rfl (call215 _) ?_;have am:=(St.nil H).nils tIk 3;refine Aj.mk (Od ah Q H) ?_;rintro _ H1 ⟨ao,ma,mc,rfl,D⟩;obtain⟨_,_,e1,st1⟩:=am.got ao D;injection e1 with e11 e12 e13
 subst e11;subst e13;(conv=>whnf);refine A8.mk [6,14] (fun x:Nat×List Int×Option Addr×Nat=>match x with | (i,T,M,N)=>[.slice M T.length N,C_ i])
  (fun x H2=>x.1≤l.length∧x.2.1.length≤x.1*33554432∧(∀p,p∈x.2.1↔JA a (·∈l.take x.1) b p)∧St H H2 [pS tIk 3 x.2.2.1 x.2.1.length x.2.2.2 x.2.1,pS tIk 3 ma l.length mc l]) (fun x _=>l.length-x.1) ?_ ?_
 ·(conv=>whnf);refine⟨(0,[],none,0),rfl,l_ _,l_ _,fun p=>⟨fun h=>(by cases h),fun h=>?_⟩,st1⟩;obtain⟨e,-,-,-,h,-⟩:=h;simp at h
 ·rintro⟨i,T,M,N⟩ H2 ap ⟨hi,E,V,d⟩;simp only at hi E V d;refine Ag.m2 (fun hz=>?_) (fun hz=>?_)
  ·have⟨q,C⟩:=Am (l:=l) (k:=i) (by omega);have W:=hl q (d_ C);have⟨row,X,bp,F⟩:=RD W;refine u_ (i:=i) AO (d.view 1 rfl) C rfl ?_;rintro b3 o3 c3 bq aq ⟨rfl,-⟩;refine B_ aq.one trivial (B_ ((m.eq (d.old B (K B P))).one) trivial (fa ?_));refine lT (v:=.slice ta (Ez a) tc) ((t.eq (d.old nb (K nb ak))) 1 _ rfl) ?_;refine F4 (i:=q.toNat) R0 (U.frame (d.old.mono K)) (CK _ _ _).symm X (by have:=O_.has_iff.1 W;omega) ?_;rintro b5 o5 br bu au ⟨ra,rc,rfl,Y⟩;have aw:S_ tEd S H2 ra rc row:=Y;refine lT au.one ?_;(conv=>whnf);refine A8.mk [6,26] (fun x:Nat×List Int×Option Addr×Nat=>match x with | (j,T',M,N)=>[.slice M T'.length N,C_ j])
    (fun x H3=>x.1≤row.length∧x.2.1.length≤i*33554432+x.1∧(∀p,p∈x.2.1↔JA a (·∈l.take i) b p∨∃e∈row.take x.1,e.set.getLsbD b=true∧p=e.to)∧St H H3 [pS tIk 3 x.2.2.1 x.2.1.length x.2.2.2 x.2.1,pS tIk 3 ma l.length mc l]) (fun x _=>row.length-x.1) ?_ ?_
   ·(conv=>whnf);exact⟨(0,T,M,N),rfl,l_ _,YbC E (YcF _ _),fun p=>by rw[V p];simp,d⟩
   ·rintro⟨j,T',a6,c6⟩ H3 ay ⟨hj,Z,n,w⟩;simp only at hj Z n w;have a0:S_ tEd S H3 ra rc row:=M1 aw d w K;refine Ag.m2 (fun az=>?_) (fun az=>?_)
    ·have⟨e,he⟩:=Am (l:=row) (k:=j) (by omega);have⟨bv,bw,bx,b4⟩:=(F e).1 (d_ he);have bz:=O_.has_iff.1 b4;refine Af.run (u_ (i:=j) JT a0 he rfl ?_);rintro b6 o6 c7 c2 b7 ⟨rfl,b8⟩;refine L_ (cs:=edL e) b7 trivial (BV w _ [C_ 0,C_ 0,.bool false,.int .u64 0,.int .u64 0,.int .u64 0,.int .u64 0] Mp rfl fun x H4 b9=>(AD (cs:=edL e) b9 2 rfl rfl (J_ _) rfl fun H5 G=>?_));rw[Bx (show(edL e).length=7 from rfl)]at G;refine fa ?_;refine L_ (cs:=An e.set) ((G.blk 2 rfl).cells fun j v L=>TS e j v L) trivial (Ak (Xn e.set b hb H5) fun H6 bd=>?_);have I:=G.call bd;cases y:e.set.getLsbD b with
     | false=>
       (conv=>whnf);rw[R_ j (by omega)];refine⟨rfl,(j+1,T',a6,c6),by simp,⟨by simp only;omega,by simp only;omega,fun p=>?_,I.pick [0,1] (by decide)⟩,by simp only;omega⟩;simp only;rw[n p,Ai he];constructor
       ·rintro(h | ⟨J,c,f,g⟩)
        ·exact .inl h
        ·exact .inr ⟨J,YaU _ c,f,g⟩
       ·rintro(h | ⟨J,c,f,g⟩)
        ·exact .inl h
        ·rcases q_.1 c with c | c
         ·exact .inr ⟨J,c,f,g⟩
         ·rw[V_]at c;subst c;rw[y]at f;cases f
     | true=>
       refine fa ?_;refine B_ ((I.blk 2 rfl).cellE rfl) trivial (Az AO [C_ e.to] rfl rfl (by decide) (by decide) ?_);intro c4 H11 a7 bo a8 a9;refine AgB (ys:=[e.to]) (I.skip a7 a9) 0 AO rfl (a8.cells (o:=0) (cs:=[C_ e.to]) fun j v L=>by rw[P_];exact L) (Ty.reps_one ⟨rfl,b8.2⟩) rfl (fun u hu=>by cases V_.1 hu;rfl) (by simp only[j_,J'];omega) (by decide) fun be bf H12 z _=>?_;have el:T'.length+[e.to].length=(T'++[e.to]).length:=by simp
       rw[el]at z ⊢;(conv=>whnf);rw[R_ j (by omega)];refine⟨rfl,(j+1,T'++[e.to],be,bf),by simp,⟨by simp only;omega,by simp only[Q_,j_,J'];omega,fun p=>?_,z.pick [0,1] (by decide)⟩,by simp only;omega⟩;simp only;rw[q_,n p,Ai he,V_];constructor
       ·rintro((h | ⟨J,c,f,g⟩) | h)
        ·exact .inl h
        ·exact .inr ⟨J,YaU _ c,f,g⟩
        ·exact .inr ⟨e,by simp,y,h⟩
       ·rintro(h | ⟨J,c,f,g⟩)
        ·exact .inl (.inl h)
        ·rcases q_.1 c with c | c
         ·exact .inl (.inr ⟨J,c,f,g⟩)
         ·rw[V_]at c;subst c;exact .inr g
    ·obtain rfl:j=row.length:=by omega
     rw[YaB]at n;(conv=>whnf);rw[R_ i (by omega)];refine⟨rfl,(i+1,T',a6,c6),by simp,⟨by simp only;omega,by simp only;omega,fun p=>?_,w⟩,by simp only;omega⟩;simp only;rw[n p,Ai C];unfold JA;constructor
     ·rintro(⟨e,c,f,g,A,O,h6⟩ | ⟨e,c,f,g⟩)
      ·exact⟨e,c,f,g,YaU _ A,O,h6⟩
      ·have⟨g1,g2,g3,g4⟩:=(F e).1 c;exact⟨e,g1,g2,f,by rw[g3];simp,g4,g⟩
     ·rintro⟨e,c,f,g,A,O,h6⟩;rcases q_.1 A with A | A
      ·exact .inl ⟨e,c,f,g,A,O,h6⟩
      ·rw[V_]at A;exact .inr ⟨e,(F e).2 ⟨c,f,A,O⟩,g,h6⟩
  ·obtain rfl:i=l.length:=by omega
   rw[YaB]at V;have bh:∀q∈T,a.has q=true:=fun q C=>by
    obtain⟨e,-,-,-,-,O,rfl⟩:=(V q).1 C;exact O
   have ab:(fun q=>q∈T)=JA a (·∈l) b:=funext fun q=>propext (V q);refine lT ((m.eq (d.old B (K B P))).one) ?_;have bj:St H H2 [pS tIk 3 M T.length N T]:=d.pick [0] (by decide);have ad:T.length≤2199023255552:=YbC E (by have:=Ybv 33554432 Q;omega);refine Aj.mk (TJ bj K ai bh ad ae R) ?_;rintro _ H3 ⟨rfl,bn⟩;(conv=>whnf);refine⟨?_,bn⟩;rw[ab];rfl
section
variable{B:Nat→Prop}{H0 H:Aa}{ps qs:List Pc}{p q:Pc}
end
section
variable{B:Nat→Prop}{H0 H:Aa}{rest:List Pc}{nb tb mc lc:Nat}{ma la:Option Addr}{vt:List v_}{a:O_}{X:List Int}
end
section
variable{α:Type}{T:Ty α}{e e2:x_}{a ra:Option Addr}{n cap rn rc:Nat}{xs:List (List α)}{row:List α}{B S:Nat→Prop}{H0 H:Aa}{ps rest:List Pc}
theorem E_.absorb(c:E_ B H0 H (pN (tSl T) S e a n cap xs::pS T e2 ra rn rc row::rest)):E_ B H0 H (pN (tSl T) (fun k=>S k∨N_ (.slice ra rn rc) k) e a n cap xs::rest):=by
 have d:=c.apart2 (i:=0) (j:=1) rfl rfl (by decide);have f:=c.at_ 0 rfl;refine(c.join 0 1 rfl rfl (by decide)).say 0 rfl _ ⟨f.1.mono fun k b=>.inl b,fun k b=>?_⟩ fun k b=>?_
 ·rcases b with b | b
  ·exact f.2 k b
  ·exact fun h=>d k (.inl h) (.inl b)
 ·rcases b with b | b | b
  ·exact .inl (.inl b)
  ·exact .inl (.inr b)
  ·exact .inr (.inl b)
theorem AgC{P:w_}{t ty q by_ m g:Nat}{z:v_}{ds:List v_}{K:v_→Aa→Prop}(j:E_ B H0 H (pN (tSl T) S e a n cap xs::rest))(y:SlT P t e (tSl T).size by_ z)
  (hd:AL H q 0 ds) (A:(tSl T).rep S H ds row) (C:m=1) (D:∀u∈ds,u.oneCell'=true) (p:xs.length+1≤34359738368) (hby:by_≤1024)
  (k:∀a' c H',E_ B H0 H' (pN (tSl T) S e a' (xs.length+1) c (xs++[row])::rest)→K (.slice a' (xs.length+1) c) H'):
  Ba P (Builtin.append_ #[t,t] ty [.slice a n cap,.slice (b_ q) m g].toArray) H K:=by
 subst C;have r:=j.at_ 0 rfl;refine BG (T:=tSl T) (S:=S) (lo:=0) (ys:=[row]) y r.1 (l_ _) (fun k b=>⟨(j.in_ 0 rfl (.inr b)).2,r.2 k b⟩) hd (Ty.reps_one A) rfl D (by unfold maxLen;simp only[k_];omega) (by have:=YbF p hby;simp only[k_];omega) ?_;intro E H' d l w f;obtain⟨a',c,rfl⟩:=d.hull;rw[Q_,k_]at d f ⊢;refine k a' c H' (j.upd 0 rfl (l.mono fun k b=>⟨b.1,fun x=>b.2 (.inl x)⟩) _ ⟨d,fun k b x=>?_⟩ (fun k b=>?_) (fun k b=>?_) w)
 ·rcases f k x with h | h
  ·exact r.2 k b h
  ·have:=(j.in_ 0 rfl (.inr b)).2;omega
 ·rcases b with b | b
  ·rcases f k b with h | h
   ·exact .inl (.inl h)
   ·exact .inr h
  ·exact .inl (.inr b)
 ·rcases b with b | b
  ·exact(d.lt b).2
  ·have:=(j.in_ 0 rfl (.inr b)).2;omega
end
theorem Xf{S:Nat→Prop}{H:Aa}{a:O_}{l:List Int}{nb:Nat}{p:v_}(r:∀k,S k→k<H.size)(g:S nb)(t:AL H nb 0 (nfL a p))(u:∀q∈l,0≤q∧q<65536)(h:l.length≤65536):
  AZ prog 217 #[.string (nmB l),H_ nb] H (.bool (decide (a.fin∈l))):=by
 refine Al.of_vc func217 rfl (call217 _) ?_;have j:=St.nil H;refine Au.heldZ (D_ H) [] (sq [0,2,3] (.f 1 (.f 4 (.f 5 .e)))) rfl (by kernel_rfl) (fa ?_);refine B_ (v:=C_ a.fin) (t 2 _ rfl) (r nb g) (Aj.mk (Od u h H) ?_);rintro _ H1 ⟨b,ma,mc,rfl,c⟩;obtain⟨_,_,w,st1⟩:=j.got b c;injection w with e11 e12 e13
 subst e11;subst e13;refine⟨b,?_⟩;refine Ak (Q0 (q:=a.fin) (fun k m=>m) (st1.view 0 rfl)) fun H2 d=>?_;have n:=st1.call d;have g2:A_ (D_ H) H H2:=b.trans (d.mono fun k m=>Ae b m);refine⟨g2,?_⟩;(conv=>whnf);refine⟨g2,?_⟩;(conv=>whnf);exact⟨rfl,n.old⟩
abbrev tEx:x_:=350
def exL(mb:Nat)(fv:v_)(most:Nat):List v_:=[.map (some mb),fv,C_ most]
def exM(F:List (List Int))(s:ByteArray):Option v_:=(F.findIdx? fun k=>decide (nmB k=s)).map fun(i:Nat)=>.int .i64 (i:Int)
theorem AcP:Ej prog 212 9 3 (.int .i64 0):=⟨rfl,rfl⟩
theorem AcG:GF prog 9 (Ny (α:=ByteArray)) Value.string:=GF.ofE underlying9 Zae
def Zh(F:List (List Int)):Prop:=∀l∈F,(∀q∈l,0≤q∧q<65536)∧l.length≤65536
theorem NO{F:List (List Int)}(a:Zh F){k:List Int}(b:∀q∈k,0≤q∧q<65536):(F.findIdx? fun l=>decide (nmB l=nmB k))=F.findIdx? (·=k):=by
 induction F with
 | nil=>rfl
 | cons l F c=>
   have d:decide (nmB l=nmB k)=decide (l=k):=decide_eq_decide.2 ⟨fun h=>AaU (a l (by simp)).1 b h,fun h=>by rw[h]⟩;rw[YcJ,YcJ,d,c fun m e=>a m (YbX _ e)]
theorem ZN{F:List (List Int)}{k:List Int}(a:(F.findIdx? fun l=>decide (nmB l=nmB k))=none):put (exM F) (nmB k) (some (.int .i64 (F.length:Int)))=exM (F++[k]):=by
 funext s;unfold put exM;rw[List.findIdx?_append];by_cases hs:s=nmB k
 ·subst hs;rw[I_ rfl,a];simp[YcJ]
 ·rw[G_ hs];cases h:F.findIdx? fun l=>decide (nmB l=s)with
  | some i=>simp
  | none=>
    have:nmB k≠s:=fun e=>hs e.symm;simp[YcJ,this]
theorem ZM{F:List (List Int)}(a:Zh F){k:List Int}(b:∀q∈k,0≤q∧q<65536):exM F (nmB k)=(F.findIdx? (·=k)).map fun(i:Nat)=>.int .i64 (i:Int):=by
 unfold exM;rw[NO a b]
theorem AaV{l:List Int}(h:∀q∈l,0≤q∧q<65536)(a:l.length≤65536):(nmB l).size≤maxLen:=by
 rw[Rc h];have:=Ir h;unfold maxLen;omega
section
variable{B:Nat→Prop}{H0 H:Aa}{rest:List Pc}{xb mb fc most:Nat}{fa:Option Addr}{F:List (List Int)}{k:List Int}
def exS(xb mb:Nat)(fa:Option Addr)(fc most:Nat)(F:List (List Int))(rest:List Pc):List Pc:=
 pB tEx xb (exL mb (.slice fa F.length fc) most)::pMW Ny Value.string mb (exM F)::pS Cp 9 fa F.length fc (F.map nmB)::rest
theorem Ac4{K:v_→Aa→Prop}(l:E_ B H0 H (exS xb mb fa fc most F rest))(I:Zh F)(z:∀q∈k,0≤q∧q<65536)(A:k.length≤65536)(Q:most≤4096)(L:F.length≤most)
  (M:∀F' i d g H',atF most F k=some (F',i)→E_ B H0 H' (exS xb mb d g most F' rest)→K (.tuple #[C_ i,.bool true]) H')
  (N:∀H',atF most F k=none→E_ B H0 H' (exS xb mb fa fc most F rest)→K (.tuple #[C_ 0,.bool false]) H'):
  Aj prog 233 #[H_ xb,.string (nmB k)] H K:=by
 refine Aj.mk (R:=fun r H'=>(∃(F':List (List Int)) (i:Nat) (d:Option Addr) (g:Nat),r= .tuple #[C_ i,.bool true]∧atF most F k=some (F',i)∧E_ B H0 H' (exS xb mb d g most F' rest))∨(r= .tuple #[C_ 0,.bool false]∧atF most F k=none∧E_ B H0 H' (exS xb mb fa fc most F rest))) ?_ fun r H' h=>by
  rcases h with⟨F',i,d,g,rfl,C,D⟩ | ⟨rfl,C,D⟩
  ·exact M F' i d g H' C D
  ·exact N H' C D
 unfold exS at l;have b:=l.blk 0 rfl;refine Al.of_vc func233 rfl (call233 _) (F_ ?_);refine B_ (b.cellE rfl) trivial (HL (a:=nmB k) AcP AcG trivial (l.mapW 1 rfl) trivial ?_);rw[ZM I z];cases y:F.findIdx? (·=k)with
 | some i=>
   (conv=>whnf);exact .inl ⟨F,i,fa,fc,rfl,by unfold atF;rw[y],l⟩
 | none=>
   refine Au.lex rfl (by kernel_rfl) (F_ ?_);refine B_ (b.cellE rfl) trivial (F_ ?_);refine lT (b.cellE rfl) ?_;by_cases m:F.length<most
   ·have E:decide ((most:Int)≤(F.length:Int))=false:=m_;(conv=>whnf);rw[E];refine Au.heldZ (D_ H) [10] (sq [0,1,2,3,4,5,6,7,8,9] (.f 10 .e)) rfl (by kernel_rfl) (F_ ?_);refine B_ (b.cellE rfl) b.lt (F_ ?_);refine B_ (b.cellE rfl) b.lt ?_;refine IV (a:=nmB k) l 1 AcP AcG trivial rfl (ZN (by rw[NO I z];exact y)) fun H1 st1=>?_;have G:=st1.blk 0 rfl;refine F_ ?_;refine B_ (G.cellE rfl) trivial (Az DO [.string (nmB k)] rfl rfl (by decide) (by decide) ?_);intro O H11 n J p t;refine GH (x:=nmB k) (st1.skip n t) 2 DO rfl p ⟨rfl,AaV z A⟩ rfl (by rw[Z_];omega) (by decide) fun u w H12 j _=>?_;rw[show(F.map nmB).length+1=(F++[k]).length by simp,show F.map nmB++[nmB k]=(F++[k]).map nmB by simp]at j;rw[show(F.map nmB).length+1=(F++[k]).length by simp];refine F_ ?_;refine Bh j 0 rfl (show 1<3 by decide) rfl fun H13 c=>?_;replace c:E_ B H0 H13 (exS xb mb u w most (F++[k]) rest):=c;refine F_ ?_;refine lT ((c.blk 0 rfl).cellE rfl) ?_;have P:IntKind.wrap .i64 (((F++[k]).length:Int)-1)=(F.length:Int):=by
     rw[show(F++[k]).length=F.length+1 by simp,w64 (by omega) (by omega)];omega
    (conv=>whnf);rw[P];(conv=>whnf);exact .inl ⟨F++[k],F.length,u,w,rfl,by unfold atF;rw[y];simp only;rw[I_ m],c⟩
   ·have E:decide ((most:Int)≤(F.length:Int))=true:=s_;(conv=>whnf);rw[E];(conv=>whnf);exact .inr ⟨rfl,by unfold atF;rw[y];simp only;rw[G_ m],l⟩
end
section
variable{B:Nat→Prop}{H0 H:Aa}{rest:List Pc}{b sc lc:Nat}{sa la:Option Addr}{vs:List v_}{S:Nat→Prop}{F:List (List Int)}{l:List Int}
end
section
variable{B:Nat→Prop}{H0 H:Aa}{rest:List Pc}{b sc lc:Nat}{sa la:Option Addr}{vs:List v_}{S:Nat→Prop}{F:List (List Int)}{l:List Int}
end
def Qf(a:O_)(F:List (List Int)):Prop:=∀l∈F,(∀q∈l,a.has q=true)∧l.length≤65536
theorem Qf.rng{a:O_}{F:List (List Int)}(h:Qf a F):Zh F:=fun l b=>⟨fun q c=>by have:=O_.has_iff.1 ((h l b).1 q c);omega,(h l b).2⟩
theorem O0{a:O_}{l:List Int}{b:Nat}:(Bj a l b).length≤65536:=JE _
theorem Zo{most:Nat}{F F':List (List Int)}{k:List Int}{i:Nat}(h:atF most F k=some (F',i)):∀x∈F',x∈F∨x=k:=by
 intro x a;unfold atF at h;split at h
 ·injection h with h;injection h with h1 h2;subst h1;exact .inl a
 ·split at h
  ·injection h with h;injection h with h1 h2;subst h1
   rcases q_.1 a with a | a
   ·exact .inl a
   ·rw[V_]at a;exact .inr a
  ·cases h
theorem Zn{most:Nat}{F F':List (List Int)}{k:List Int}{i:Nat}(h:atF most F k=some (F',i))(b:F.length≤most):F'.length≤most∧i<most:=by
 unfold atF at h;split at h
 ·rename_i j a;injection h with h;injection h with h1 h2;subst h1;subst h2
  have:=(Ycm.1 a).1;omega
 ·split at h
  ·injection h with h;injection h with h1 h2;subst h1;subst h2
   simp only[Q_,j_,J'];omega
  ·cases h
theorem Qf.at_{a:O_}{most:Nat}{F F':List (List Int)}{x:List Int}{b i:Nat}(h:Qf a F)(c:atF most F (Bj a x b)=some (F',i)):Qf a F':=fun l d=>by
 rcases Zo c l d with e | rfl
 ·exact h l e
 ·exact⟨KB,O0⟩
def CW(r:List Nat):List Int:=r.map fun(x:Nat)=>(x:Int)
def Js(cs:List (BitVec 256)):List Nat:=cs.map fun c=>(AP c 0).1
theorem W2{cs:List (BitVec 256)}{j:Nat}{c:BitVec 256}(h:cs[j]?=some c):(Js cs)[j]?=some (AP c 0).1:=by
 unfold Js;rw[t_,h];rfl
noncomputable def ExpR(a:O_)(most:Nat)(cs:List (BitVec 256))(l0:List Int)(H H':Aa)(r:v_):Prop:=A_ (D_ H) H H'∧
 match Gj most (Bj a) (Js cs) l0 with
 | none=>r= .tuple #[.pointer none,.bool false]
 | some (F,rows)=>∃v,r= .tuple #[v,.bool true]∧Bc (fun k=>H.size≤k∧k<H'.size) H' v (if Bp cs (rows.map CW) F.length then some (BO cs (rows.map CW) (F.map fun l=>decide (a.fin∈l)))else none)
theorem Vk{S:Nat→Prop}{H:Aa}{a:O_}{nv sv:v_}{wb pb:Nat}{ca:Option Addr}{cc most:Nat}{cs:List (BitVec 256)}{l0:List Int}(X:∀k,S k→k<H.size)(aq:S wb)(c7:AL H wb 0 [nv])(c8:Lk S H nv a)(au:S pb)(c9:AL H pb 0 (nfL a sv))(cb:a.edges.length≤33554432)(aw:GG prog H)
  (ay:S_ CP S H ca cc cs) (dc:cs.length≤256) (cd:∀q∈l0,a.has q=true) (Y:l0.length≤65536) (de:1≤most) (hm:most≤4096):
  Al prog 219 #[.string (nmB l0),.slice ca cs.length cc,.func (.func 215) #[] #[H_ wb],.func (.func 217) #[] #[H_ pb],C_ most] H fun r H'=>ExpR a most cs l0 H H' r:=by
 have az:Qf a [l0]:=fun l hl=>by rw[V_]at hl;subst hl;exact⟨cd,Y⟩
 refine Al.of_vc func219 rfl (call219 _) (Kx (Ok:=Ny) (enc:=Value.string) fun mb H1 ce cg b4 ch=>?_);have st1:=(St.nil H).mapNewW ce cg b4 ch;refine Ah underlying350 rfl (.agg #[.map none,.slice none 0 0,C_ 0]) rfl (exL mb (.slice none 0 0) most) rfl (BC (exL mb (.slice none 0 0) most) rfl ?_);intro xb H2 ci cj cm co;have cp:St H H2 (exS xb mb none 0 most [] []):=((st1.box ci cj cm co).nils Cp 9).pick [1,0,2] (by decide);have Z:atF most ([]:List (List Int)) l0=some ([l0],0):=by
  unfold atF;rw[List.findIdx?_nil];simp only;rw[I_ (by simp only[J'];omega)];rfl
 refine Ac4 cp (fun l hl=>by cases hl) (fun q hq=>(az.rng l0 (by simp)).1 q hq) Y hm (l_ _) (fun F' i b5 b6 H3 D cq=>?_) (fun H3 D _=>?_)
 ·rw[Z]at D;injection D with D
  injection D with D h2
  subst D;subst h2;have cr:St H H3 (exS xb mb b5 b6 most [l0] [pN (tSl tIk) none_ 23 none 0 0 [],pS Bd 4 none 0 0 []]):=(cq.nils (tSl tIk) 23).nils Bd 4;(conv=>whnf);refine A8.mk [15,16,17] (fun x:Nat×List (List Int)×List (List Nat)×Option Addr×Nat×Option Addr×Nat=>match x with | (i,F,rows,na,nc,ba,bc)=>[.slice na i nc,.slice ba i bc,C_ i])
   (fun x H4=>match x with | (i,F,rows,na,nc,ba,bc)=>i≤F.length∧F.length≤most∧Qf a F∧rows.length=i∧Br most (Bj a) (Js cs) l0 i=some (F,rows)∧∃Sx fa fc,St H H4 (exS xb mb fa fc most F [pN (tSl tIk) Sx 23 na i nc (rows.map CW),pS Bd 4 ba i bc ((F.take i).map fun l=>decide (a.fin∈l))])) (fun x _=>most-x.1) ?_ ?_
  ·(conv=>whnf);exact⟨(0,[l0],[],none,0,none,0),rfl,l_ _,by simp only[j_,J'];omega,az,rfl,rfl,none_,b5,b6,cr⟩
  ·rintro⟨i,F,rows,na,nc,ba,bc⟩ H4 ct ⟨df,b7,a6,a7,a0,Sx,fa,fc,g⟩;have cu:=g.blk 0 rfl;refine F_ ?_;refine lT (cu.cellE rfl) ?_;refine Ag.m2 (fun hz=>?_) (fun hz=>?_)
   ·have⟨x,hx⟩:=Am (l:=F) (k:=i) (by omega);have⟨cw,b9⟩:=a6 x (d_ hx);have m:Br most (Bj a) (Js cs) l0 (i+1)=((Js cs).foldl (Dq most (Bj a) x) (some (F,[]))).map fun r=>(r.1,rows++[r.2]):=by
     show(Br most (Bj a) (Js cs) l0 i).bind _=_;rw[a0];simp only[YbG,hx]
    refine D1 AO rfl (by omega) (by omega) (by omega) (by omega) ?_;intro rb H6 cx bd be a8;rw[Yau]at be;rw[Yau,show(0:Int).toNat=0 from rfl];have a9:=g.newCap (T:=tIk) (cap:=cs.length) cx bd be a8 (by simp[DB]) (by unfold maxLen;omega);(conv=>whnf);refine A8.mk [18,51] (fun y:Nat×List (List Int)×List Nat×Option Addr×Nat=>match y with | (j,F',row,ra,rc)=>[.slice ra row.length rc,C_ j])
     (fun y H7=>match y with | (j,F',row,ra,rc)=>j≤cs.length∧F'.length≤most∧Qf a F'∧F <+: F'∧row.length=j∧((Js cs).take j).foldl (Dq most (Bj a) x) (some (F,[]))=some (F',row)∧∃fa fc,St H H7 (exS xb mb fa fc most F' [pN (tSl tIk) Sx 23 na i nc (rows.map CW),pS Bd 4 ba i bc ((F.take i).map fun l=>decide (a.fin∈l)),pS tIk 3 ra row.length rc (CW row)])) (fun y _=>cs.length-y.1) ?_ ?_
    ·(conv=>whnf);exact⟨(0,F,[],some ⟨rb,0,none⟩,cs.length),rfl,l_ _,b7,a6,Yc9 _,rfl,rfl,fa,fc,a9⟩
    ·rintro⟨j,F',row,ra,rc⟩ H7 cy ⟨hj,E,G,w,ab,I,U,V,J⟩;refine Ag.m2 (fun cz=>?_) (fun cz=>?_)
     ·have⟨c,hc⟩:=Am (l:=cs) (k:=j) (by omega);have d0:=W2 hc;have bf:=Ew c 0;have z:=FI w hx;refine u_ (i:=j) Dg (ay.frame (J.old.mono X)) hc rfl ?_;rintro b8 o8 dg dh d1 rfl;refine L_ (cs:=An c) d1 trivial (BV J (Bf 0) (An 0) rfl rfl fun sx H8 ad=>(AD (cs:=An c) ad 6 rfl rfl (J_ _) rfl fun H9 ae=>?_));rw[Bx (show(An c).length=(An 0).length from rfl)]at ae;refine L_ (cs:=An c) ((ae.blk 6 rfl).cells fun j v hv=>by rw[P_];exact hv) trivial ?_;refine Ak (SL c 0 (by decide) H9) fun H10 bh=>?_;have e:=ae.call bh;have bj:=e.blk 0 rfl;refine F_ ?_;refine lT (bj.cellE rfl) ?_;have ah:=e.view 2 rfl;have ai:(F'.map nmB)[i]?=some (nmB x):=by rw[t_,z];rfl
      refine F4 (i:=i) DO ah (Z_ _).symm ai rfl ?_;rintro d2 d3 d4 bn K ⟨rfl,-⟩;refine lT K.one ?_;have bo:∀k,S k→k<H10.size:=fun k A=>e.up (X k A);refine Aj.mk (AbG (S:=S) bo aq (c7.eq (e.old wb (X wb aq))) (c8.frame (e.old.mono X)) cb cw b9 bf (aw.agr e.old)) ?_;rintro _ H11 ⟨rfl,bp⟩;have L:=e.call bp;replace L:St H H11 (exS xb mb U V most F' [pN (tSl tIk) Sx 23 na i nc (rows.map CW),pS Bd 4 ba i bc ((F.take i).map fun l=>decide (a.fin∈l)),pS tIk 3 ra row.length rc (CW row)]):=L.pick [0,1,2,3,4,5] (by decide);have p:((Js cs).take (j+1)).foldl (Dq most (Bj a) x) (some (F,[]))=(atF most F' (Bj a x (AP c 0).1)).map fun r=>(r.1,row++[r.2]):=by
       rw[Ai d0,Yca,I];rfl
      refine Ac4 L G.rng (fun q hq=>by have:=O_.has_iff.1 (KB q hq);omega) O0 hm E (fun F2 t bq br H12 f M=>?_) (fun H12 f M=>?_)
      ·have⟨d5,di⟩:=Zn f E;rw[f]at p;refine Az AO [C_ t] rfl rfl (by decide) (by decide) ?_;intro d6 H13 N bu O B;refine GH (x:=(t:Int)) (M.skip N B) 5 AO rfl O ⟨rfl,Aa8 ⟨by omega,by omega⟩⟩ rfl (by unfold CW;rw[Z_];omega) (by decide) fun aj ak H14 d _=>?_;have e1:(CW row).length+1=(row++[t]).length:=by unfold CW;simp
       have e2:CW row++[(t:Int)]=CW (row++[t]):=by unfold CW;simp
       rw[e1,e2]at d;rw[e1];(conv=>whnf);rw[R_ j (by omega)];exact⟨rfl,(j+1,F2,row++[t],aj,ak),by simp,⟨by omega,d5,G.at_ f,w.trans (by
        unfold atF at f;split at f
        ·injection f with h;injection h with D h2;subst D;exact Yc9 _
        ·split at f
         ·injection f with h;injection h with D h2;subst D;exact List.prefix_append _ _
         ·cases f),by simp[ab],p,bq,br,d⟩,by simp only;omega⟩
      ·rw[f]at p;have am:(Js cs).foldl (Dq most (Bj a) x) (some (F,[]))=none:=by
        have h3:=(Ybb (j+1) (Js cs)).symm;rw[h3,Yca,p];exact Gw x _
       have P:Gj most (Bj a) (Js cs) l0=none:=Vg (n:=i) (by rw[m,am];rfl) (by omega);(conv=>whnf);refine⟨M.old,?_⟩;rw[P]
     ·obtain rfl:j=cs.length:=by omega
      have ao:(Js cs).foldl (Dq most (Bj a) x) (some (F,[]))=some (F',row):=by
       rw[←I,Ycy (by unfold Js;rw[Z_];exact J_ _)]
      rw[ao]at m;simp only[YcH]at m;have z:=FI w hx;have d7:(CW row).length=row.length:=by unfold CW;rw[Z_]
      have C:(rows.map CW).length=i:=by rw[Z_];exact a7
      have bv:((F'.take (i+1)).map fun l=>decide (a.fin∈l))=((F.take i).map fun l=>decide (a.fin∈l))++[decide (a.fin∈x)]:=by
       obtain⟨t,rfl⟩:=w;rw[YcL (by omega),Ai hx,Ybk];rfl
      have Q:((F.take i).map fun l=>decide (a.fin∈l)).length=i:=by rw[Z_,YaN];omega
      obtain⟨dj,dk,er,ap,-⟩:=(J.at_ 5 rfl).1.view (S':=N_ (.slice ra row.length rc)) (fun b hb=>hb) (fun b hb=>hb.elim);injection er with er1 er2 er3
      subst er1;subst er3;have ad:St H H7 (pN (tSl tIk) (fun k=>Sx k∨N_ (.slice ra row.length rc) k) 23 na i nc (rows.map CW)::[pB tEx xb (exL mb (.slice U F'.length V) most),pMW Ny Value.string mb (exM F'),pS Cp 9 U F'.length V (F'.map nmB),pS Bd 4 ba i bc ((F.take i).map fun l=>decide (a.fin∈l))]):=E_.absorb (J.pick [3,5,0,1,2,4] (by decide));refine Az DS [.slice ra row.length rc] rfl rfl (by decide) (by decide) ?_;intro d6 H13 N bu O B;have bw:=ad.skip N B;have W:S_ tIk (fun k=>Sx k∨N_ (.slice ra row.length rc) k) H13 ra rc (CW row):=(ap.frame (B.mono fun k A=>by
       have:=(J.in_ 5 rfl (.inl A)).2;omega)).mono fun k A=>.inr A
      refine AgC (row:=CW row) bw DS (O.cells fun j v hv=>by rw[P_];exact hv) ⟨ra,rc,by rw[d7],W⟩ rfl (fun u hu=>by cases V_.1 hu;rfl) (by rw[C];omega) (by decide) fun aj ak H14 d=>?_;rw[C]at d ⊢;have bx:=d.blk 1 rfl;refine F_ ?_;refine lT (bx.cellE rfl) ?_;have ai:(F'.map nmB)[i]?=some (nmB x):=by rw[t_,z];rfl
      refine F4 (i:=i) DO (d.view 3 rfl) (Z_ _).symm ai rfl ?_;rintro d2 d3 d4 bn K ⟨rfl,-⟩;refine lT K.one ?_;have bz:∀k,S k→k<H14.size:=fun k A=>d.up (X k A);refine Ak (Xf (S:=S) bz au (c9.eq (d.old pb (X pb au))) (a6.rng x (d_ hx)).1 b9) fun H15 c2=>?_;have c3:=d.call c2;refine Az Fv [.bool (decide (a.fin∈x))] rfl rfl (by decide) (by decide) ?_;intro dl H16 c4 db c5 c6;refine GH (x:=decide (a.fin∈x)) (c3.skip c4 c6) 4 Fv rfl c5 rfl rfl (by rw[Q];omega) (by decide) fun d8 d9 H17 R _=>?_;rw[Q,←bv]at R;rw[Q];(conv=>whnf);rw[R_ i (by omega)];refine⟨rfl,(i+1,F',rows++[row],aj,ak,d8,d9),by simp,⟨?_,E,G,by simp[a7],m,(fun k=>Sx k∨N_ (.slice ra row.length rc) k),U,V,?_⟩,by simp only;omega⟩
      ·have:=(X_.1 z).1;omega
      ·have e5:rows.map CW++[CW row]=(rows++[row]).map CW:=by simp
       rw[e5]at R;exact R.pick [1,2,3,0,4] (by decide)
   ·obtain rfl:i=F.length:=by omega
    rw[YaB]at g;have C:(rows.map CW).length=F.length:=by rw[Z_];exact a7
    have P:=Ve a0 rfl b7;have a5:=AhJ ca na ba cc nc bc cs (rows.map CW) (F.map fun l=>decide (a.fin∈l)) (D_ H4) H4 (fun k A=>A) ((ay.frame (g.old.mono X)).mono fun k A=>g.up (X k A)) (g.view 3 rfl) (g.view 4 rfl);rw[C,Z_]at a5;refine Aj.mk a5 ?_;rintro v H6 ⟨a8,bd,da⟩;have a9:=g.call a8;(conv=>whnf);refine⟨a9.old,?_⟩;rw[P];exact⟨v,rfl,da.mono fun k A=>⟨YbC (Ap g.old) A.1,A.2⟩⟩
 ·rw[Z]at D;cases D
theorem UF{β:Type}:∀(xs:List (List β)) (q:Nat) (row z:List β),xs[q]?=some row→((xs.set q z).map AlO).sum+row.length=(xs.map AlO).sum+z.length
 | [],q,row,z,h=>by simp at h
 | x::xs,0,row,z,h=>by
   simp only[Ycb,Ah8.injEq]at h;subst h;simp only[List.set_cons_zero,YaQ,YcC];omega
 | x::xs,q+1,row,z,h=>by
   rw[List.getElem?_cons_succ]at h;have:=UF xs q row z h;simp only[List.set_cons_succ,YaQ,YcC];omega
theorem ZT{β:Type}{n q:Nat}{a:Z'→Option (Nat×β)}{l:List Z'}{e:Z'}{y:β}(h:a e=some (q,y))(d:n≤q):grp n a (l++[e])=grp n a l:=by
 unfold grp;refine Ycq fun j c=>?_;rw[List.filterMap_append];have b:q≠j:=by have:=Ych.1 c;omega
 simp[h,b]
theorem ZU{β:Type}(n:Nat)(b:Z'→Option (Nat×β))(l:List Z'):∀k,k≤l.length→((grp n b (l.take k)).map AlO).sum≤k:=by
 intro k
 induction k with
 | zero=>
   intro _;rw[List.take_zero,Pa,List.map_replicate];simp
 | succ k d=>
   intro j;have⟨e,f⟩:=Am (l:=l) (k:=k) (by omega);have:=d (by omega);rw[Ai f];cases c:b e with
   | none=>rw[Fi c];omega
   | some p=>
     have⟨q,y⟩:=p;by_cases g:q<n
     ·have⟨row,a⟩:=Am (l:=grp n b (l.take k)) (k:=q) (by rw[CK];exact g);rw[Mz c a];have h:=UF _ _ _ (row++[y]) a;simp only[Q_,j_,J']at h;omega
     ·rw[ZT c (by omega)];omega
def CM(a:O_):List (BitVec 256):=(Nk a).flatMap fun r=>r.map fun e=>e.set
theorem QD{β γ:Type}(f:β→γ):∀xs:List (List β),(xs.flatMap fun r=>r.map f).length=(xs.map AlO).sum
 | []=>rfl
 | x::xs=>by rw[YbY,Q_,Z_,QD f xs,YaQ,YcC]
def C5(a:O_)(i:Nat):List (BitVec 256):=((Nk a).take i).flatMap fun r=>r.map fun e=>e.set
theorem Tc(a:O_)(i:Nat):(C5 a i).length≤a.edges.length:=by
 unfold C5;rw[QD];have b:=ZU (Ez a) (IR a) a.edges a.edges.length (J_ _);rw[YaB]at b;have c:(((Nk a).take i).map AlO).sum≤((Nk a).map AlO).sum:=by
  conv=>rhs;rw[←Ybb i (Nk a)]
  rw[Ybk,List.sum_append];omega
 unfold Nk at c ⊢;omega
noncomputable def DetR(a:O_)(budget:Nat)(H H':Aa)(r:v_):Prop:=A_ (D_ H) H H'∧
 match Gj budget (Bj a) (De (CM a)) (EE (Mc a))with
 | none=>r= .tuple #[.pointer none,C_ 40]
 | some (F,rows)=>∃v,r= .tuple #[v,C_ 0]∧Bc (fun k=>H.size≤k∧k<H'.size) H' v (if Bp (BA (CM a)) (rows.map CW) F.length then some (BO (BA (CM a)) (rows.map CW) (F.map fun l=>decide (a.fin∈l)))else none)
theorem N0{S:Nat→Prop}{H:Aa}{v:v_}{a:O_}{budget:Nat}(hS:∀k,S k→k<H.size)(h:NfV S H v a)(D:GG prog H)(ak:1≤budget)(am:budget≤4096):
  Al prog 200 #[v,C_ budget] H fun r H'=>DetR a budget H H' r:=by
 have hr:=h.1;have hl:=h.2.1;have d1:decide ((budget:Int)<1)=false:=m_;have d2:decide ((4096:Int)<(budget:Int))=false:=m_;have cb:=Pt a;refine Al.of_vc func200 rfl (call200 _) (SM h fun ea ec ao h1=>?_);subst ao;intro p H1 hp ap Q aq;have st1:=(St.nil H).box hp ap Q aq;(conv=>whnf);rw[d1];(conv=>whnf);rw[d2];refine Uv hr hl (st1.blk 0 rfl) trivial (h1.frame (st1.old.mono hS)) fun v2 au=>(Aj.mk (AbA (fun k c=>st1.up (hS k c)) au) ?_);rintro nv H3 ⟨aw,R⟩;have U:=st1.call aw;have E:=R;have⟨nb,sa,sc,ta,tc,ay,V,f,az,K⟩:=R;subst ay;refine Aw _ [.pointer none] rfl rfl ?_;intro W H4 b4 b5 b7 b9;have u4:St H3 H4 [pB 326 W [.pointer none]]:=(St.nil H3).box b4 b5 b7 b9;refine Bh u4 0 rfl (show 0<1 by decide) rfl fun H5 u5=>?_;replace u5:St H3 H5 [pB 326 W [H_ nb]]:=u5;have u6:St H3 H5 [pB 326 W [H_ nb],pS CP 227 none 0 0 []]:=u5.nils CP 227;have Y:(Nk a).length=Ez a:=CK _ _ _;have hT:∀i,(C5 a i).length≤a.edges.length:=fun i=>Tc a i;refine B_ ((u6.blk 0 rfl).cellE rfl) trivial (F_ ?_);refine lT (v:=.slice ta (Ez a) tc) ((f.eq (u6.old nb V)) 1 _ rfl) ?_;(conv=>whnf);refine A8.mk [7,30] (fun x:Nat×Option Addr×Nat=>match x with | (i,a5,c5)=>[.slice a5 (C5 a i).length c5,C_ i])
  (fun x H6=>x.1≤Ez a∧St H3 H6 [pB 326 W [H_ nb],pS CP 227 x.2.1 (C5 a x.1).length x.2.2 (C5 a x.1)]) (fun x _=>Ez a-x.1) ?_ ?_
 ·(conv=>whnf);exact⟨(0,none,0),rfl,l_ _,u6⟩
 ·rintro⟨i,a5,c5⟩ H6 bd ⟨hi,m⟩;simp only at hi m;refine Ag.m2 (fun hz=>?_) (fun hz=>?_)
  ·have⟨row,G⟩:=Am (l:=Nk a) (k:=i) (by omega);have g:C5 a (i+1)=C5 a i++row.map fun e=>e.set:=by
    unfold C5;rw[Ai G,List.flatMap_append];simp
   have be:=hT (i+1);rw[g,Q_,Z_]at be;refine F4 (i:=i) R0 (K.frame m.old) Y.symm G rfl ?_;rintro b8 o8 c8 ce bf ⟨ra,rc,rfl,Z⟩;have bh:S_ tEd (D_ H3) H6 ra rc row:=Z;refine lT bf.one ?_;(conv=>whnf);refine A8.mk [7,36] (fun x:Nat×Option Addr×Nat=>match x with | (j,a6,c6)=>[.slice a6 (C5 a i++(row.take j).map fun e=>e.set).length c6,C_ j])
    (fun x H7=>x.1≤row.length∧St H3 H7 [pB 326 W [H_ nb],pS CP 227 x.2.1 (C5 a i++(row.take x.1).map fun e=>e.set).length x.2.2 (C5 a i++(row.take x.1).map fun e=>e.set)]) (fun x _=>row.length-x.1) ?_ ?_
   ·(conv=>whnf);refine⟨(0,a5,c5),by simp,l_ _,?_⟩;simpa using m
   ·rintro⟨j,a6,c6⟩ H7 bj ⟨hj,t⟩;simp only at hj t;have a0:S_ tEd (D_ H3) H7 ra rc row:=M1 bh m t (fun k c=>c);refine Ag.m2 (fun bn=>?_) (fun bn=>?_)
    ·have⟨e,he⟩:=Am (l:=row) (k:=j) (by omega);have bo:(C5 a i++(row.take j).map fun e=>e.set).length≤33554432:=by
      rw[Q_,Z_,YaN];omega
     refine u_ (i:=j) JT a0 he rfl ?_;rintro b6 o6 c7 cg bp ⟨rfl,ch⟩;refine L_ (cs:=edL e) bp trivial (Aw _ [C_ 0,C_ 0,.bool false,.int .u64 0,.int .u64 0,.int .u64 0,.int .u64 0] Mp rfl ?_);intro x H8 hx bq br b;have P:=t.box hx bq br b;refine AD (cs:=edL e) P 2 rfl rfl (J_ _) rfl fun H9 L=>?_;rw[Bx (show(edL e).length=7 from rfl)]at L;refine F_ ?_;refine L_ (cs:=An e.set) ((L.blk 2 rfl).cells fun j v A=>TS e j v A) trivial (Az Dg (An e.set) rfl rfl (by decide) (by decide) ?_);intro ci H11 a7 cd a8 a9;refine OC (ys:=[e.set]) (L.skip a7 a9) 1 Dg rfl (a8.cells (o:=0) (cs:=An e.set) fun j v A=>by rw[P_];exact A) (Ty.reps_one rfl) rfl (fun u hu=>Ycc.1 (show(An e.set).all (·.oneCell')=true from rfl) u hu) (by unfold maxLen;simp only[j_,J'];omega) (by simp only[j_,J'];omega) fun bu bv H12 ab _=>?_;have e1:(C5 a i++(row.take j).map fun e=>e.set)++[e.set]=C5 a i++(row.take (j+1)).map fun e=>e.set:=by rw[Ai he];simp
     have e2:(C5 a i++(row.take j).map fun e=>e.set).length+[e.set].length=(C5 a i++(row.take (j+1)).map fun e=>e.set).length:=by rw[←e1];exact Q_.symm
     rw[e1,e2]at ab;rw[e2];(conv=>whnf);rw[R_ j (by omega)];exact⟨rfl,(j+1,bu,bv),by simp,⟨by simp only;omega,ab.pick [0,1] (by decide)⟩,by simp only;omega⟩
    ·obtain rfl:j=row.length:=by omega
     rw[YaB,←g]at t;rw[YaB,←g];(conv=>whnf);rw[R_ i (by omega)];exact⟨rfl,(i+1,a6,c6),by simp,⟨by simp only;omega,t⟩,by simp only;omega⟩
  ·obtain rfl:i=Ez a:=by omega
   have I:C5 a (Ez a)=CM a:=by unfold C5 CM;rw[←Y,YaB]
   have ad:=hT (Ez a);rw[I]at m ad;rw[I];have M:St H H6 [pB 304 p (nfL a (.slice ea a.edges.length ec))]:=U.call m.old;have bw:=M.blk 0 rfl;have bx:=m.blk 0 rfl;have ae:∀q∈EE (Mc a),a.has q=true:=fun q hq=>HA a q ((Fm (Ei (HA a)) q).1 hq);have N:GG prog H3:=D.agr U.old;have ah:Lk (D_ H6) H6 (H_ nb) a:=(E.frame m.old).mono fun k c=>m.up c;(conv=>whnf);refine Af.cut (α:=Unit) [12] (fun _=>[.string (nmB (EE (Mc a)))]) (fun _ H8=>A_ (D_ H6) H6 H8) ?_ ?_
   ·refine B_ (bx.cellE rfl) trivial (F_ ?_);refine B_ (bw.cellE rfl) trivial (Ak (SN (f.eq (m.old nb V))) fun H8 b=>?_);have O:=M.call b;have t:=m.call b;cases B:a.has a.start with
    | false=>
      have e:EE (Mc a)=[]:=by
       rw[Oa (X:=Mc a) (l:=[]) (Ei (HA a)) List.Pairwise.nil fun q=>⟨fun h=>(by cases h),fun h=>by
        obtain⟨r,⟨-,h2⟩,-⟩:=h;rw[B]at h2;cases h2⟩]
      (conv=>whnf);refine⟨rfl,(),?_,b⟩;rw[e];rfl
    | true=>
      have bz:=O_.has_iff.1 B;refine B_ ((t.blk 0 rfl).cellE rfl) trivial (F_ ?_);refine B_ ((O.blk 0 rfl).cellE rfl) trivial (Az AO [C_ a.start] rfl rfl (by decide) (by decide) ?_);intro y H9 hy c2 c3 C;have w9:St H8 H9 [pS tIk 3 (b_ y) 1 1 [a.start]]:=(St.nil H8).new (T:=tIk) (n:=1) (xs:=[a.start]) hy c2 c3 C (Ty.reps_one ⟨rfl,Aa8 ⟨bz.1,by omega⟩⟩) rfl (by unfold maxLen;omega);refine Aj.mk (TJ (X:=[a.start]) w9 (fun k c=>c) ((ah.frame b).mono fun k c=>Ae b c) (fun q hq=>by rw[V_]at hq;subst hq;exact B) (by simp only[j_,J'];omega) hl (N.agr (t.old))) ?_;rintro _ H10 ⟨rfl,w⟩;have e:(fun q=>q∈[a.start])=fun q=>q=a.start∧a.has a.start=true:=funext fun q=>propext (by simp[B]);(conv=>whnf);refine⟨rfl,(),?_,b.trans (w.mono fun k c=>Ae b c)⟩;rw[e];rfl
   ·rintro⟨⟩ H8 c4 b;have O:=M.call b;have t:=m.call b;have ai:S_ CP (D_ H8) H8 a5 c5 (CM a):=t.view 1 rfl;refine Aj.mk (Mi (fun k c=>c) ai (YbC ad hl)) ?_;rintro _ H9 ⟨C,ca,cc,rfl,c9⟩;have z:=O.call C;have P:=t.call C;have aj:Lk (D_ H9) H9 (H_ nb) a:=(E.frame P.old).mono fun k c=>P.up c;refine Aj.mk (Vk (S:=D_ H9) (l0:=EE (Mc a)) (fun k c=>c) (P.in_ 0 rfl rfl).2 ((P.blk 0 rfl).cells fun j v A=>by rw[P_];exact A) aj (z.in_ 0 rfl rfl).2 ((z.blk 0 rfl).cells fun j v A=>by rw[P_];exact A) hl (D.agr z.old) c9 (reps_len _) ae (JE _) ak am) ?_;rintro r H10 ⟨w,d⟩;have J:=z.call w;change match Gj budget (Bj a) (De (CM a)) (EE (Mc a))with | none=>_ | some (F,rows)=>_ at d
    cases hd:Gj budget (Bj a) (De (CM a)) (EE (Mc a))with
    | none=>
      rw[hd]at d;simp only at d;subst d;(conv=>whnf);refine⟨J.old,?_⟩;rw[hd]
    | some q=>
      have⟨F,rows⟩:=q;rw[hd]at d;obtain⟨v,rfl,A⟩:=d;(conv=>whnf);refine⟨J.old,?_⟩;rw[hd];exact⟨v,rfl,A.mono fun k c=>⟨YbC (Ap z.old) c.1,c.2⟩⟩
section
attribute [local irreducible] AN AY
end
section
def Bb(sim:Nat→Nat→Bool):Nat→List Nat×List Nat
 | 0=>([],[])
 | b+1=>match(Bb sim b).1.findIdx? fun g=>sim b g with
   | some k=>((Bb sim b).1,(Bb sim b).2++[k])
   | none=>((Bb sim b).1++[b],(Bb sim b).2++[(Bb sim b).1.length])
structure GrOk(sim:Nat→Nat→Bool)(b:Nat)(f ps:List Nat):Prop where
 plen:ps.length=b
 flen:f.length≤b
 lt:∀p∈ps,p<f.length
 first:∀(k g:Nat),f[k]?=some g→g<b∧ps[g]?=some k
 sig:∀(i p g:Nat),ps[i]?=some p→f[p]?=some g→sim i g=true∧g≤i
theorem L6{sim:Nat→Nat→Bool}(y:∀a,sim a a=true):∀b,GrOk sim b (Bb sim b).1 (Bb sim b).2
 | 0=>⟨rfl,J_ _,(fun p h=>by cases h),(fun k g h=>by cases h),(fun i p g h=>by cases h)⟩
 | b+1=>by
   have c:=L6 y b;unfold Bb;split
   ·rename_i k t;rw[Ycm]at t;obtain⟨j,n,_⟩:=t;refine⟨by simp[c.plen],by have:=c.flen;simp only;omega,fun p q=>?_,fun r g d=>?_,fun i p g e d=>?_⟩
    ·rcases q_.1 q with h | h
     ·exact c.lt p h
     ·rw[V_]at h;subst h;exact j
    ·have⟨u,w⟩:=c.first r g d
     exact⟨by omega,by simp only;rw[YaK (by rw[c.plen];exact u)];exact w⟩
    ·simp only at e d;by_cases l:i<b
     ·rw[YaK (by rw[c.plen];exact l)]at e;exact c.sig i p g e d
     ·rw[YaD (by rw[c.plen];omega),c.plen]at e;have m:i-b=0:=by
       have:=(X_.1 e).1;simp only[k_]at this;omega
      rw[m,Ycb]at e;cases e;rw[Ya2 j]at d;cases d;have f:i=b:=by omega
      subst f;exact⟨n,by have:=(c.first _ _ (Ya2 j)).1;omega⟩
   ·rename_i t;refine⟨by simp[c.plen],by have:=c.flen;simp;omega,fun p q=>?_,fun r g d=>?_,fun i p g e d=>?_⟩
    ·simp only[Q_,k_];rcases q_.1 q with h | h
     ·have:=c.lt p h;omega
     ·rw[V_]at h;subst h;omega
    ·simp only at d ⊢;by_cases x:r<(Bb sim b).1.length
     ·rw[YaK x]at d;have⟨u,w⟩:=c.first r g d
      exact⟨by omega,by rw[YaK (by rw[c.plen];exact u)];exact w⟩
     ·rw[YaD (by omega)]at d;have z:=(X_.1 d).1;simp only[k_]at z;rw[show r-(Bb sim b).1.length=0 by omega,Ycb]at d;cases d;exact⟨by omega,by rw[YaD (by rw[c.plen];omega),c.plen,YbD,Ycb];congr 1;omega⟩
    ·simp only at e d;by_cases l:i<b
     ·rw[YaK (by rw[c.plen];exact l)]at e;have q:=c.lt p (d_ e);rw[YaK q]at d;exact c.sig i p g e d
     ·rw[YaD (by rw[c.plen];omega),c.plen]at e;have m:i-b=0:=by
       have:=(X_.1 e).1;simp only[k_]at this;omega
      rw[m,Ycb]at e;cases e;rw[YaD (J_ _),YbD,Ycb]at d;cases d;have f:i=b:=by omega
      subst f;exact⟨y _,J_ _⟩
theorem NU{sim:Nat→Nat→Bool}{b k:Nat}(h:(Bb sim b).1.findIdx? (fun g=>sim b g)=some k):Bb sim (b+1)=((Bb sim b).1,(Bb sim b).2++[k]):=by
 rw[Bb,h]
theorem NS{sim:Nat→Nat→Bool}{b:Nat}(h:(Bb sim b).1.findIdx? (fun g=>sim b g)=none):Bb sim (b+1)=((Bb sim b).1++[b],(Bb sim b).2++[(Bb sim b).1.length]):=by
 rw[Bb,h]
theorem Ob{next:List (List Int)}{cells:List (BitVec 256)}(m:∀b,b<256→AR cells b<cells.length):∀b,b≤256→∀(k:Nat) (x:BitVec 256),(AN next cells (fun b=>AJ b b) b).sets[k]?=some x→∀i,i<256→x.getLsbD i=F8 (AN next cells (fun b=>AJ b b) b).cell k i
 | 0,_=>fun k x h=>by simp[AN]at h
 | b+1,hb=>fun k x h i n=>by
   have z:=Ob (next:=next) m b (by omega);have e:=FE (next:=next) (sp:=fun b=>AJ b b) m b (by omega);generalize B:AN next cells (fun b=>AJ b b) b=a at*
   rw[AN,B]at h ⊢;unfold M8 at h ⊢;simp only at h ⊢;generalize g:FZ next a.cols a.sets (AR cells b)=r at*
   have l:=Pi (next:=next) (f:=AR cells b) e.len e.le e.cols (m b (by omega));rw[g]at l;have q:r.2.2<r.2.1.length:=by omega
   have hold:∀(k:Nat) (y:BitVec 256),r.2.1[k]?=some y→y.getLsbD i=F8 a.cell k i:=by
    intro k y c;unfold FZ at g;cases A:JF next a.cols (AR cells b)with
    | some j=>
      rw[A]at g;subst g;exact z k y c i n
    | none=>
      rw[A]at g;subst g;simp only at c;by_cases d:k<a.sets.length
      ·rw[YaK d]at c;exact z k y c i n
      ·rw[YaD (by omega)]at c;have C:=(X_.1 c).1;simp only[k_]at C;rw[show k-a.sets.length=0 by omega,Ycb]at c;cases c;have:F8 a.cell k i=false:=by
        unfold F8;cases t:a.cell[i]? with
        | none=>rfl
        | some p=>
          have:=e.places p (d_ t);have:=e.len;simp;omega
       rw[this];simp
   have u:∀k,F8 (a.cell++[r.2.2]) k i=((decide (i=b)&&decide (k=r.2.2))|| F8 a.cell k i):=by
    intro k;unfold F8;have w:=e.cell;rcases YcT i b with h | h | h
    ·rw[YaK (by omega),m_];simp
    ·subst h;rw[YaD (by omega),w,YbD,Ycb,YaE (by omega)];by_cases d:k=r.2.2<;>simp[d];exact fun h=>d h.symm
    ·rw[YaE (by simp;omega),YaE (by omega),m_];simp
   rw[u];by_cases d:k=r.2.2
   ·subst d;rw[List.getElem?_set_self q]at h;cases h;rw[BitVec.getLsbD_or,Ya5,Ya2 q,YbH,hold _ _ (Ya2 q),K9 b b i n];have:(decide (b≤i)&&decide (i≤b))=decide (i=b):=by
     by_cases h:i=b
     ·subst h;simp
     ·rw[a_ h];rcases Nat.lt_or_ge i b with D | D
      ·rw[m_];rfl
      ·rw[a_ (show¬i≤b by omega)];simp
    rw[this];simp[Bool.or_comm]
   ·rw[List.getElem?_set_ne (Ne.symm d)]at h;rw[a_ d,hold k x h];simp
def GZ(next:List (List Int))(cells:List (BitVec 256))(b g:Nat):Bool:=next.all fun row=>row.getD (AR cells b) 0==row.getD (AR cells g) 0
theorem UW{cells:List (BitVec 256)}{next:List (List Int)}{j:Nat}(hs:Bp cells next j=true){b g:Nat}(k:b<256)(l:g<256):DU next (AR cells g) (AR cells b)=GZ next cells b g:=by
 obtain⟨_,_,_,a⟩:=E4 hs;have m:=(Cg hs k).1;have n:=(Cg hs l).1;have d:∀row∈next,(row[AR cells g]?==row[AR cells b]?)=(row.getD (AR cells b) 0==row.getD (AR cells g) 0):=by
  intro row c;have p:=(a row c).1;rw[Ya5,Ya5,Ya2 (by omega),Ya2 (by omega)];simp only[YbH];rw[YcI];simp only[beq_iff_eq,Ah8.injEq];exact eq_comm
 unfold DU GZ;have e:(next.all fun row=>row[AR cells g]?==row[AR cells b]?)=next.all fun row=>row.getD (AR cells b) 0==row.getD (AR cells g) 0:=by
  rw[YcI,Ycc,Ycc];constructor
  ·intro h row c;rw[←d row c];exact h row c
  ·intro h row c;rw[d row c];exact h row c
 rw[e];by_cases f:AR cells g=AR cells b
 ·rw[f];simp
 ·have:(AR cells g==AR cells b)=false:=by simpa using f
  rw[this];rfl
theorem K7(next:List (List Int))(cells:List (BitVec 256))(a:Nat):GZ next cells a a=true:=by simp[GZ]
theorem KS{α β:Type}(f:α→β)(p:β→Bool):∀l:List α,(l.map f).findIdx? p=l.findIdx? fun a=>p (f a)
 | []=>rfl
 | a::l=>by
   rw[YaQ,YcJ,YcJ,KS f p l]
theorem I6{α:Type}{p q:α→Bool}:∀{l:List α},(∀a∈l,p a=q a)→l.findIdx? p=l.findIdx? q
 | [],_=>rfl
 | a::l,h=>by
   rw[YcJ,YcJ,h a YbZ,I6 fun x b=>h x (YbX _ b)]
theorem S8{cells:List (BitVec 256)}{next:List (List Int)}{f:Nat}(hs:Bp cells next f=true){sp:Nat→BitVec 256}:∀b,b≤256→(AN next cells sp b).cols=(Bb (GZ next cells) b).1.map (AR cells)∧(AN next cells sp b).cell=(Bb (GZ next cells) b).2
 | 0,_=>by simp[AN,Bb]
 | b+1,hb=>by
   have⟨c,e⟩:=S8 hs (sp:=sp) b (by omega);have d:=L6 (K7 next cells) b;have h:JF next (AN next cells sp b).cols (AR cells b)=(Bb (GZ next cells) b).1.findIdx? fun g=>GZ next cells b g:=by
    unfold JF;rw[c,KS];exact I6 fun g j=>by
     have⟨k,l⟩:=YaT j;exact UW hs (by omega) (by have:=(d.first k g l).1;omega)
   unfold AN M8 FZ;rw[h];cases a:(Bb (GZ next cells) b).1.findIdx? fun g=>GZ next cells b g with
   | some k=>
     rw[NU a];simp only;exact⟨c,by rw[e]⟩
   | none=>
     rw[NS a];simp only;exact⟨by rw[c,Ybk];rfl,by rw[e,c,Z_]⟩
attribute [local irreducible] AN Bb
theorem VS{cells:List (BitVec 256)}{next:List (List Int)}{final:List Bool}(hs:Bp cells next final.length=true):(BO cells next final).sets.length=(Bb (GZ next cells) 256).1.length∧
  ∀(k:Nat) (x:BitVec 256),(BO cells next final).sets[k]?=some x→∀i,i<256→x.getLsbD i=F8 (Bb (GZ next cells) 256).2 k i:=by
 have a:=fun b c=>(Cg hs (b:=b) c).1;have⟨d,e⟩:=S8 hs (sp:=fun b=>AJ b b) 256 (J_ _);have f:=FE (next:=next) (sp:=fun b=>AJ b b) a 256 (J_ _);refine⟨?_,fun k x g i h=>?_⟩
 ·simp only[BO];rw[←f.len,d,Z_]
 ·rw[←e];exact Ob (next:=next) a 256 (J_ _) k x g i h
end
section
attribute [local irreducible] AN Bb
structure EL(o:Option AM)(ls:List Nat):Prop where
 len:ls.length=(CB o).length
 up:ls.Pairwise (·<·)
 least:∀(k:Nat) (c:BitVec 256),(CB o)[k]?=some c→∃l,ls[k]?=some l∧l<256∧(AP c 0).1=l∧c.getLsbD l=true
 keeps:∀(k:Nat) (c:BitVec 256) (l b:Nat),(CB o)[k]?=some c→ls[k]?=some l→b<256→c.getLsbD b=true→l≤b∧∀q:Int,0≤q→q<e_ o→Ar o q b=Ar o q l
 cols:∀A,o=some A→∀k,k<A.sets.length→∃b,b<256∧A.cell[b]?=some k
 part:∀b,b<256→∃(k:Nat) (c:BitVec 256),(CB o)[k]?=some c∧c.getLsbD b=true∧∀(k':Nat) (c':BitVec 256),(CB o)[k']?=some c'→c'.getLsbD b=true→k'=k
theorem TZ{sim:Nat→Nat→Bool}(d:∀a,sim a a=true):∀b,(Bb sim b).1.Pairwise (·<·)
 | 0=>by rw[Bb];exact List.Pairwise.nil
 | b+1=>by
   have e:=TZ d b;cases f:(Bb sim b).1.findIdx? (fun g=>sim b g)with
   | some k=>rw[NU f];exact e
   | none=>
     rw[NS f];refine Ycj.2 ⟨e,YaY _ _,fun a j c h=>?_⟩;rw[V_]at h;subst h;have⟨k,l⟩:=YaT j;exact((L6 d c).first k a l).1
theorem QZ{c:BitVec 256}{l:Nat}(a:l<256)(d:c.getLsbD l=true)(e:∀b,b<l→c.getLsbD b=false):(AP c 0).1=l:=by
 have f:((AhO 256).find? fun b=>decide (0≤b)&&c.getLsbD b)=some l:=by
  rw[List.find?_range_eq_some];exact⟨by simp[d],by simpa using a,fun j g=>by simp[e j g]⟩
 unfold AP;rw[f]
theorem WE(cells:List (BitVec 256))(next:List (List Int))(final:List Bool):∃H,EL (Mb cells next final) H:=by
 unfold Mb;cases hs:Bp cells next final.length with
 | false=>
   refine⟨[0],rfl,YaY _ _,fun k c d=>?_,fun k c l b d z a m=>?_,fun A a=>?_,fun b a=>?_⟩
   ·have r:k=0:=by have:=(X_.1 d).1;simpa [CB]using this
    subst r;have:c=AlW 256:=by simpa [CB]using d.symm
    subst this;exact⟨0,rfl,by decide,QZ (by decide) (by decide) (fun b a=>by omega),by decide⟩
   ·have r:k=0:=by have:=(X_.1 d).1;simpa [CB]using this
    subst r;have:l=0:=by simpa using z.symm
    subst this;refine⟨l_ _,fun q O t=>?_⟩;simp only[Bool.false_eq_true,if_false]at t ⊢;simp only[e_]at t;obtain rfl:q=0:=by omega
    rfl
   ·cases a
   ·refine⟨0,AlW 256,rfl,?_,fun C F h _=>?_⟩
    ·rw[Yaj];simp[a]
    ·have:=(X_.1 h).1;simpa [CB]using this
 | true=>
   simp only[if_true];have⟨t,B⟩:=VS hs;have u:=L6 (K7 next cells) 256;refine⟨(Bb (GZ next cells) 256).1,t.symm,TZ (K7 next cells) 256,fun k c d=>?_,fun k c l b d z a m=>?_,fun A I k r=>?_,fun b a=>?_⟩
   ·have r:k<(Bb (GZ next cells) 256).1.length:=by rw[←t];exact(X_.1 d).1
    have⟨g,e⟩:=Am r;have⟨g1,g2⟩:=u.first k g e
    have f:=B k c d;refine⟨g,e,g1,QZ g1 (by rw[f g g1];simp[F8,g2]) (fun b a=>?_),by rw[f g g1];simp[F8,g2]⟩;rw[f b (by omega)];unfold F8;rw[beq_eq_false_iff_ne];intro w;have:=(u.sig b k g w e).2;omega
   ·rw[B k c d b a]at m;have w:(Bb (GZ next cells) 256).2[b]?=some k:=by simpa [F8]using m
    have⟨G,J⟩:=u.sig b k l w z;refine⟨J,fun q K L=>?_⟩;obtain⟨n,rfl⟩:=Yav K;have x:=(u.first k l z).1;have M:n<next.length:=by simp only[e_,BO,Z_]at L;omega
    have⟨row,j⟩:=Am M;rw[IT hs j a,IT hs j x];unfold GZ at G;have:=Ycc.1 G row (d_ j);simpa using this
   ·cases I;have⟨g,e⟩:=Am (l:=(Bb (GZ next cells) 256).1) (k:=k) (by rw[←t];exact r);have⟨g1,g2⟩:=u.first k g e
    refine⟨g,g1,?_⟩;have N:=(S8 hs (sp:=fun b=>AJ b b) 256 (J_ _)).2;simp only[BO];rw[N];exact g2
   ·have⟨p,w⟩:=Am (l:=(Bb (GZ next cells) 256).2) (k:=b) (by rw[u.plen];exact a);have D:=u.lt p (d_ w);have⟨c,d⟩:=Am (l:=(BO cells next final).sets) (k:=p) (by rw[t];exact D);refine⟨p,c,d,by rw[B p c d b a];simp[F8,w],fun C F E y=>?_⟩;rw[B C F E b a]at y;have:(Bb (GZ next cells) 256).2[b]?=some C:=by simpa [F8]using y
    rw[w]at this;exact(Ah8.inj this).symm
end
def tV:Ty v_ where
 size:=1
 rep _ _ cs x:=cs=[x]
 len h:=by rw[h];rfl
 frame h _:=h
 mono h _:=h
section
variable{α:Type}{T:Ty α}{e:x_}{a:Option Addr}{n cap:Nat}{xs:List α}{B:Nat→Prop}{H0 H:Aa}{ps:List Pc}
theorem AgE{P:w_}{t ty by_:Nat}{z:v_}{a2:Option Addr}{u d:Nat}{e2:x_}{ys:List α}{K:v_→Aa→Prop}(m:E_ B H0 H ps)(i j:Nat)(y:SlT P t e T.size by_ z)(A:ps[i]?=some (pS T e a n cap xs))(w:ps[j]?=some (pS T e2 a2 u d ys))
  (C:0<ys.length) (D:T.Ones) (p:xs.length+ys.length≤34359738368) (hby:by_≤1024)
  (k:∀a' f H',E_ B H0 H' (ps.set i (pS T e a' (xs.length+ys.length) f (xs++ys)))→A_ (fun k=>k<H.size∧¬N_ (.slice a n cap) k) H H'→K (.slice a' (xs.length+ys.length) f) H'):
  Ba P (Builtin.append_ #[t,t] ty [.slice a n cap,.slice a2 u d].toArray) H K:=by
 obtain⟨E,⟨J,h⟩,x⟩:=(m.at_ j w).1;have r:=m.len j w;rcases h with⟨h,F⟩ | ⟨b,c,l,h,F,G,L,M,N,I⟩
 ·omega
 ·injection h with g1 g2 g3
  subst g1;subst g3;refine Qn m i y A (q:=b) (o:=0) (ds:=E) (G.cells fun j v g=>?_) x r (D.reps x) p hby k;rw[←I]at g;rw[P_];rw[YaM]at g;split at g
  ·exact g
  ·cases g
end
section
attribute [local irreducible] AN Bb AY
theorem Va{o:Option AM}{a:List Nat}(h:EL o a):0<(CB o).length:=by
 obtain⟨k,c,b,-⟩:=h.part 0 (by decide);exact Nat.lt_of_le_of_lt (l_ k) (X_.1 b).1
theorem WD{S:Nat→Prop}{H:Aa}{v:v_}{o:Option AM}(h:Bc S H v o):(CB o).length≤256:=by
 cases o with
 | none=>decide
 | some A=>obtain⟨_,_,_,a,_⟩:=h;exact a.sl
def BM(os:List (v_×Option AM)):List (BitVec 256):=os.flatMap fun x=>CB x.2
theorem Yi{S:Nat→Prop}{H:Aa}{pa:Option Addr}{W:Nat}{os:List (v_×Option AM)}(G:∀k,S k→k<H.size)(hp:S_ tV S H pa W (os.map (·.1)))(a9:os.length≤16)(I:∀x∈os,Bc S H x.1 x.2∧∃X,EL x.2 X):
  Al prog 119 #[.slice pa os.length W] H fun v H'=>A_ (D_ H) H H'∧M_ (DB .u8) none_ H' H.size 5 v ((De (BM os)).map fun(b:Nat)=>(b:Int)):=by
 refine Al.of_vc func119 rfl (call119 _) ?_;(conv=>whnf);refine A8.mk [3,13] (fun x:Nat×List (BitVec 256)×Option Addr×Nat=>match x with | (k,cs,a,c)=>[.slice a cs.length c,C_ k])
  (fun x H1=>x.1≤os.length∧x.2.1=BM (os.take x.1)∧x.2.1.length≤x.1*256∧St H H1 [pS CP 227 x.2.2.1 x.2.1.length x.2.2.2 x.2.1]) (fun x _=>os.length-x.1) ?_ ?_
 ·(conv=>whnf);exact⟨(0,[],none,0),rfl,by simp,rfl,by simp,E_.nils (St.nil H) CP 227⟩
 ·rintro⟨k,cs,a,c⟩ H1 Y ⟨h,m,J,st1⟩;simp only at h m J st1;refine Ag.m2 (fun hz=>?_) (fun hz=>?_)
  ·have⟨x,r⟩:=Am (l:=os) (k:=k) (by omega);have⟨t,X,K⟩:=I x (d_ r);have u:=Va K;have ab:=WD t;have d:BM (os.take (k+1))=cs++CB x.2:=by
    rw[m];exact KF _ r
   refine F4 (i:=k) (x:=x.1) Yz (hp.frame (st1.old.mono G)) (by simp) (by rw[t_,r];rfl) rfl ?_;rintro b2 o2 ad Z e rfl;refine B_ e.one trivial (Aj.mk (Z0 (S:=S) (fun k h=>st1.up (G k h)) (t.frame (st1.old.mono G))) ?_);rintro _ H3 ⟨L,ae,M⟩;obtain⟨a3,c3,rfl,N⟩:=st1.got L M;refine AgE N 0 1 Dg rfl rfl u O2 (by omega) (by decide) fun a' O H4 P _=>?_;(conv=>whnf);rw[R_ k (by omega)];refine⟨rfl,(k+1,cs++CB x.2,a',O),by simp,⟨by simp only;omega,d.symm,by simp only[Q_];omega,?_⟩,by simp only;omega⟩;simp only[Q_];exact P.pick [0] (by decide)
  ·obtain rfl:k=os.length:=by omega
   rw[YaB]at m;have n:=st1.view 0 rfl;have ah:=reps_len cs;have hM:De cs=(BA cs).map fun c=>(AP c 0).1:=rfl;refine Aj.mk (Mi (S:=D_ H1) (fun k h=>h) n (by omega)) ?_;rintro _ H5 ⟨Q,a5,c5,rfl,h5⟩;have p:=st1.call Q;rw[←m];rw[hM];generalize BA cs=at_ at*;(conv=>whnf);refine A8.mk [6,25] (fun x:Nat×List Int×Option Addr×Nat=>match x with | (k,l,a,c)=>[.slice a l.length c,C_ k])
    (fun x H6=>x.1≤at_.length∧x.2.1=((at_.take x.1).map fun c=>(AP c 0).1).map (fun(b:Nat)=>(b:Int))∧x.2.1.length=x.1∧St H5 H6 [pS (DB .u8) 5 x.2.2.1 x.2.1.length x.2.2.2 x.2.1]) (fun x _=>at_.length-x.1) ?_ ?_
   ·(conv=>whnf);exact⟨(0,[],none,0),rfl,by simp,rfl,rfl,E_.nils (St.nil H5) (DB .u8) 5⟩
   ·rintro⟨k,l,a6,c6⟩ H6 R ⟨h,F,w,f⟩;simp only at h F w f;refine Ag.m2 (fun T=>?_) (fun T=>?_)
    ·have⟨x,r⟩:=Am (l:=at_) (k:=k) (by omega);have U:=Ew x 0;have d:((at_.take (k+1)).map fun c=>(AP c 0).1).map (fun(b:Nat)=>(b:Int))=l++[((AP x 0).1:Int)]:=by
      rw[F,Ai r,Ybk,Ybk];rfl
     refine u_ (i:=k) Dg (h5.frame f.old) r rfl ?_;rintro b7 o7 ai a0 g rfl;refine L_ (cs:=An x) g trivial (BV f (Bf 0) (An 0) rfl rfl fun p8 H8 V=>(AD (cs:=An x) V 1 rfl rfl (show 0+4≤4 by decide) rfl fun H9 q=>?_));rw[JU]at q;refine L_ (cs:=An x) ((q.blk 1 rfl).cells fun j v I=>by rw[P_];exact I) trivial ?_;refine Ak (SL x 0 (by decide) H9) fun H10 y=>?_;have z:=q.call y;refine Az Jd [.int .u8 ((AP x 0).1:Int)] rfl rfl (by decide) (by decide) ?_;intro aj H11 A a7 B C;have D:=z.skip A C;refine GH D 0 Jd rfl B ⟨rfl,Lo U⟩ rfl (by omega) (by decide) fun a' O H12 E a8=>?_;(conv=>whnf);rw[R_ k (by omega)];refine⟨rfl,(k+1,l++[((AP x 0).1:Int)],a',O),by simp,⟨by simp only;omega,d.symm,by simp[w],?_⟩,by simp only;omega⟩;simp only[Q_,k_];exact E.pick [0] (by decide)
    ·obtain rfl:k=at_.length:=by omega
     rw[YaB]at F;(conv=>whnf);have:=f.own 0 rfl;rw[←F];exact⟨p.old.trans (f.old.mono fun k h=>p.up h),this.lower p.size⟩
end
structure Nd where
 s:Int
 x:Int
 y:Int
deriving DecidableEq
def Nd.Ok(n:Nd):Prop:=inK .i64 n.s∧inK .i64 n.x∧inK .i64 n.y
def r_(n:Nd):v_:=.agg #[C_ n.s,C_ n.x,C_ n.y]
def c_(n:Nd):List v_:=[C_ n.s,C_ n.x,C_ n.y]
theorem Pp(a b:Nd)(h:r_ a=r_ b):a=b:=by
 have⟨s,x,y⟩:=a;have⟨f,g,j⟩:=b;simp only[r_,Value.agg.injEq,Array.mk.injEq,List.cons.injEq,Value.int.injEq,true_and,and_true]at h;have⟨c,d,e⟩:=h;subst c;subst d;subst e;rfl
theorem S2{x:Int}(h:inK .i64 x):(Lit.int .i64 x).wf=true:=by
 unfold Lit.wf;simp only[h_,Zzj];exact h
theorem V0(m:Nat){n:Nd}(h:n.Ok):prog.keyLits (m+2) 238 (c_ n)=some [.int .i64 n.s,.int .i64 n.x,.int .i64 n.y]:=by
 have a:prog.cellsOf 238=3:=by kernel_rfl
 have b:prog.cellsOf 3=1:=by kernel_rfl
 simp[Program.keyLits,underlying238,underlying3,a,b,c_,S2 h.1,S2 h.2.1,S2 h.2.2]
theorem XG{n:Nd}(h:n.Ok):∃l,keyOf prog 238 (r_ n)=some l:=by
 have a:prog.keyType 238=true:=by kernel_rfl
 have b:prog.cellsOf 238=3:=by kernel_rfl
 have c:(r_ n).formed prog 238=true:=by simp[r_,Value.formed,underlying238,b]
 obtain⟨m,d⟩:∃m,prog.types.size+1=m+2:=⟨prog.types.size-1,by
  have:decide (1≤prog.types.size)=true:=by kernel_rfl
  have:=of_decide_eq_true this;omega⟩
 refine⟨.string (keyBytes [.int .i64 n.s,.int .i64 n.x,.int .i64 n.y]),?_⟩;unfold keyOf;simp only[underlying238,a,c,Bool.and_self,if_true];rw[d,show(r_ n).cells.toList=c_ n from rfl,V0 m h];rfl
theorem Kv:GF prog 238 Nd.Ok r_:=
 GF.ofLaw (deep_law (m:=2) (by decide) (by kernel_rfl) (by kernel_rfl) (by simp[underlying238])) Pp fun a h=>XG h
def tNd:Ty Nd where
 size:=3
 rep _ _ cs n:=cs=c_ n
 len h:=by rw[h];rfl
 frame h _:=h
 mono h _:=h
structure Gr where
 next:Nd→Nat→List Nd
 ends:Nd→Bool
def Dl(g:Gr):List Nat→Nd→Prop
 | [],n=>g.ends n=true
 | b::w,n=>∃t,t∈g.next n b∧Dl g w t
def CR(g:Gr)(P:Nd→Prop)(w:List Nat):Prop:=∃n,P n∧Dl g w n
def Dh(g:Gr)(P:Nd→Prop)(b:Nat):Nd→Prop:=fun t=>∃n,P n∧t∈g.next n b
theorem KW{g:Gr}{P:Nd→Prop}{b:Nat}{w:List Nat}:CR g P (b::w)↔CR g (Dh g P b) w:=
 ⟨fun⟨n,a,t,c,d⟩=>⟨t,⟨n,a,c⟩,d⟩,fun⟨t,⟨n,a,c⟩,d⟩=>⟨n,a,t,c,d⟩⟩
def Vs:List Nat→List Nat→Prop
 | a::s,b::t=>a<b∨(a=b∧Vs s t)
 | _,_=>True
theorem NZ:∀{s t:List Nat},s.length=t.length→Vs s t→Vs t s→s=t
 | [],[],_,_,_=>rfl
 | [],_::_,h,_,_=>by simp at h
 | _::_,[],h,_,_=>by simp at h
 | a::s,b::t,h,c,d=>by
   simp only[j_,YcU]at h;rcases c with c | ⟨c,e⟩<;>rcases d with d | ⟨d,f⟩
   ·omega
   ·omega
   ·omega
   ·rw[c,NZ h e f]
def A9(w:List Nat):Prop:=∀b∈w,b<256
def CG(g:Gr)(P:Nd→Prop)(k:Nat)(w:List Nat):Prop:=w.length=k∧A9 w∧CR g P w∧∀u,u.length=k→A9 u→CR g P u→Vs w u
theorem CG.nil{g:Gr}{P:Nd→Prop}{n:Nd}(a:P n)(c:g.ends n=true):CG g P 0 []:=
 ⟨rfl,(fun b d=>by cases d),⟨n,a,c⟩,fun u e _ _=>by unfold Vs;cases u<;>trivial⟩
theorem CG.cons{g:Gr}{P:Nd→Prop}{k b:Nat}{w:List Nat}(q:b<256)(h:CG g (Dh g P b) k w)(j:∀c,c<b→∀u,u.length=k→A9 u→¬CR g (Dh g P c) u):CG g P (k+1) (b::w):=by
 have⟨r,t,x,y⟩:=h;refine⟨by rw[j_,r],fun c l=>?_,KW.2 x,fun u p m n=>?_⟩
 ·rcases Ybe.1 l with rfl | l
  ·exact q
  ·exact t c l
 ·cases u with
  | nil=>simp at p
  | cons c u=>
    have f:u.length=k:=by simpa using p
    have a:A9 u:=fun d hd=>m d (YbX _ hd);have e:=KW.1 n;unfold Vs;rcases YcT b c with h | h | h
    ·exact .inl h
    ·subst h;exact .inr ⟨rfl,y u f a e⟩
    ·exact absurd e (j c h u f a)
def Dv(g:Gr)(P:Nd→Prop)(w:List Nat):Prop:=CG g P w.length w∧∀u,A9 u→CR g P u→w.length≤u.length
theorem Dv.uniq{g:Gr}{P:Nd→Prop}{w v:List Nat}(h:Dv g P w)(k:Dv g P v):w=v:=by
 obtain⟨⟨n,a,b,f⟩,j⟩:=h;obtain⟨⟨p,c,d,l⟩,m⟩:=k;have e:w.length=v.length:=Nat.le_antisymm (j v c d) (m w a b);exact NZ e (f v e.symm c d) (l w e a b)
theorem M5{g:Gr}{by_:List Nat}(hby:∀c,c<256→∃r∈by_,r≤c∧∀n,g.next n r=g.next n c):∀{w:List Nat} {n:Nd},A9 w→Dl g w n→∃v,v.length=w.length∧(∀b∈v,b∈by_)∧Dl g v n
 | [],n,_,h=>⟨[],rfl,(fun b a=>by cases a),h⟩
 | c::w,n,a,⟨t,ht,hw⟩=>by
   have⟨v,e,f,j⟩:=M5 hby (fun d hd=>a d (YbX _ hd)) hw;obtain⟨r,k,-,hs⟩:=hby c (a c YbZ);exact⟨r::v,by simp[e],fun d hd=>by
    rcases Ybe.1 hd with rfl | hd
    ·exact k
    ·exact f d hd,t,by rw[hs];exact ht,j⟩
inductive BJ(g:Gr)(by_:List Nat)(a:Nd):Nd→Prop
 | refl:BJ g by_ a a
 | step {n t:Nd} {b:Nat} (h:BJ g by_ a n) (hb:b∈by_) (ht:t∈g.next n b):BJ g by_ a t
structure CQ(g:Gr)(by_:List Nat)(a:Nd)(left:Nd→Option Nat):Prop where
 ends:∀n,BJ g by_ a n→g.ends n=true→left n=some 0
 pred:∀n k,left n=some k→∀p b,BJ g by_ a p→b∈by_→n∈g.next p b→∃j,j≤k+1∧left p=some j
 word:∀n k,left n=some k→BJ g by_ a n∧∃w,w.length=k∧(∀b∈w,b∈by_)∧Dl g w n
section
variable{g:Gr}{by_:List Nat}{a:Nd}{left:Nd→Option Nat}
theorem CQ.le(h:CQ g by_ a left):∀{w:List Nat} {n:Nd},BJ g by_ a n→(∀b∈w,b∈by_)→Dl g w n→∃j,j≤w.length∧left n=some j
 | [],n,hr,_,hl=>⟨0,J_ _,h.ends n hr hl⟩
 | b::w,n,hr,hb,⟨t,ht,hl⟩=>by
   have d:=hb b YbZ;have⟨j,l,e⟩:=CQ.le h (hr.step d ht) (fun c k=>hb c (YbX _ k)) hl;have⟨i,m,f⟩:=h.pred t j e n b hr d ht;exact⟨i,by rw[j_];omega,f⟩
variable(hby:∀c,c<256→∃r∈by_,r≤c∧∀n,g.next n r=g.next n c)
include hby
theorem CQ.bytes(h:CQ g by_ a left){w:List Nat}{n:Nd}(b:BJ g by_ a n)(c:A9 w)(d:Dl g w n):∃j,j≤w.length∧left n=some j:=by
 have⟨v,e,f,k⟩:=M5 hby c d;rw[←e];exact h.le b f k
theorem CQ.fwd(h:CQ g by_ a left)(l:∀b∈by_,b<256){P:Nd→Prop}{k b:Nat}(q:∀n,P n→left n=some (k+1))(x:b∈by_):(∃u,u.length=k∧A9 u∧CR g (Dh g P b) u)↔∃t,Dh g P b t∧left t=some k:=by
 have y:∀t,Dh g P b t→BJ g by_ a t:=fun t ⟨n,m,f⟩=>(h.word n _ (q n m)).1.step x f;constructor
 ·rintro⟨u,E,r,t,f,z⟩;have⟨j,F,d⟩:=h.bytes hby (y t f) r z;have⟨n,m,p⟩:=f;have⟨i,G,e⟩:=h.pred t j d n b (h.word n _ (q n m)).1 x p;rw[q n m]at e;injection e with e
  have:j=k:=by omega
  exact⟨t,⟨n,m,p⟩,this ▸ d⟩
 ·rintro⟨t,f,d⟩;obtain⟨-,w,A,B,C⟩:=h.word t k d;exact⟨w,A,fun c D=>l c (B c D),t,f,C⟩
theorem CQ.first(h:CQ g by_ a left){k:Nat}{w:List Nat}(d:left a=some k)(e:CG g (·=a) k w):Dv g (·=a) w:=by
 have⟨f,l,m,p⟩:=e;subst f;refine⟨⟨rfl,l,m,p⟩,fun u q c=>?_⟩;obtain⟨n,rfl,r⟩:=c;have⟨j,t,b⟩:=h.bytes hby .refl q r;rw[d]at b;injection b with b
 omega
theorem CQ.none(h:CQ g by_ a left)(c:left a=none):∀u,A9 u→¬CR g (·=a) u:=by
 rintro u d ⟨n,rfl,e⟩;obtain⟨j,-,b⟩:=h.bytes hby .refl d e;rw[c]at b;cases b
end
def Lt(g:Gr)(by_:List Nat)(a n:Nd)(left:Nd→Option Nat)(k:Nat):Prop:=∀p b,BJ g by_ a p→b∈by_→n∈g.next p b→∃j,j≤k+1∧left p=some j
structure O7(g:Gr)(by_:List Nat)(a:Nd)(left:Nd→Option Nat)(todo:List Nd)(k:Nat):Prop where
 ends:∀n,BJ g by_ a n→g.ends n=true→left n=some 0
 word:∀n j,left n=some j→BJ g by_ a n∧∃w,w.length=j∧(∀b∈w,b∈by_)∧Dl g w n
 q:∀n∈todo,∃j,left n=some j∧k≤j
 up:∀n j,left n=some j→j≤k+1
 sorted:todo.Pairwise fun n p=>∀i j,left n=some i→left p=some j→i≤j
 done:∀n j,left n=some j→n∉todo→Lt g by_ a n left j
structure Nv(g:Gr)(by_:List Nat)(a:Nd)(left:Nd→Option Nat)(todo:List Nd)(n:Nd)(k:Nat)(d:Nd→Prop):Prop where
 ends:∀n,BJ g by_ a n→g.ends n=true→left n=some 0
 word:∀n j,left n=some j→BJ g by_ a n∧∃w,w.length=j∧(∀b∈w,b∈by_)∧Dl g w n
 here:left n=some k
 q:∀n∈todo,∃j,left n=some j∧k≤j
 up:∀n j,left n=some j→j≤k+1
 sorted:todo.Pairwise fun n p=>∀i j,left n=some i→left p=some j→i≤j
 done:∀m j,left m=some j→m∉todo→m≠n→Lt g by_ a m left j
 now:∀p,d p→∃j,j≤k+1∧left p=some j
section
variable{g:Gr}{by_:List Nat}{a n p:Nd}{left:Nd→Option Nat}{todo:List Nd}{k:Nat}{d:Nd→Prop}
theorem O7.end_(h:O7 g by_ a left [] k):CQ g by_ a left:=⟨h.ends,fun n j b=>h.done n j b (by simp),h.word⟩
theorem O7.take(h:O7 g by_ a left (n::todo) k):∃j,left n=some j∧Nv g by_ a left todo n j fun _=>False:=by
 have⟨j,d,l⟩:=h.q n YbZ;have⟨r,t⟩:=Yct.1 h.sorted;refine⟨j,d,h.ends,h.word,d,fun m c=>?_,fun m i b=>by have:=h.up m i b;omega,t,fun m i b c e=>h.done m i b fun f=>?_,fun p u=>u.elim⟩
 ·obtain⟨i,b,-⟩:=h.q m (YbX _ c);exact⟨i,b,r m c j i d b⟩
 ·rcases Ybe.1 f with h | h
  ·exact e h
  ·exact c h
theorem Nv.skip(h:Nv g by_ a left todo n k d)(e:(left p).isSome=true):Nv g by_ a left todo n k fun x=>d x∨x=p:=by
 refine⟨h.ends,h.word,h.here,h.q,h.up,h.sorted,h.done,fun x b=>?_⟩;rcases b with b | rfl
 ·exact h.now x b
 ·have⟨j,c⟩:=Option.isSome_iff_exists.1 e;exact⟨j,h.up _ j c,c⟩
theorem Nv.push{left':Nd→Option Nat}(h:Nv g by_ a left todo n k d)(K:left p=none)(L:BJ g by_ a p){b:Nat}(M:b∈by_)(N:n∈g.next p b)(D:∀m,left' m=if m=p then some (k+1)else left m):Nv g by_ a left' (todo++[p]) n k fun x=>d x∨x=p:=by
 have old:∀m j,left m=some j→left' m=some j:=fun m j f=>by
  rw[D,G_ (fun e=>by rw[e,K]at f;cases f)];exact f
 have y:left' p=some (k+1):=by rw[D,I_ rfl]
 have new:∀m j,left' m=some j→(m=p∧j=k+1)∨left m=some j:=fun m j f=>by
  rw[D]at f;split at f
  ·rename_i e;injection f with f;exact .inl ⟨e,f.symm⟩
  ·exact .inr f
 have O:∀m j,Lt g by_ a m left j→Lt g by_ a m left' j:=fun m j l q c z A E=>by
  have⟨i,B,P⟩:=l q c z A E;exact⟨i,B,old q i P⟩
 refine⟨fun m z A=>old m 0 (h.ends m z A),fun m j f=>?_,old n k h.here,fun m l=>?_,fun m j f=>?_,?_,fun m j f l F=>?_,fun x G=>?_⟩
 ·rcases new m j f with⟨rfl,rfl⟩ | f
  ·obtain⟨-,w,z,A,E⟩:=h.word n k h.here;exact⟨L,b::w,by simp[z],fun c H=>by
    rcases Ybe.1 H with rfl | H
    ·exact M
    ·exact A c H,n,N,E⟩
  ·exact h.word m j f
 ·rcases q_.1 l with l | l
  ·have⟨j,f,Q⟩:=h.q m l;exact⟨j,old m j f,Q⟩
  ·rw[V_]at l;subst l;exact⟨k+1,y,by omega⟩
 ·rcases new m j f with⟨-,rfl⟩ | f
  ·exact J_ _
  ·exact h.up m j f
 ·refine Ycj.2 ⟨?_,YaY _ _,fun m l m' r i j B f=>?_⟩
  ·refine(List.Pairwise.and_mem.1 h.sorted).imp fun{m m'} I i j B f=>?_;have⟨l,r,hs⟩:=I;obtain⟨J,t,-⟩:=h.q m l;obtain⟨R,C,-⟩:=h.q m' r;have u:=old m J t;have e2:=old m' R C;rw[B]at u;rw[f]at e2;injection u with u;injection e2 with e2
   subst u;subst e2;exact hs i j t C
  ·rw[V_]at r;subst r;rw[y]at f;injection f with f
   subst f;obtain⟨J,t,-⟩:=h.q m l;have u:=old m J t;rw[B]at u;injection u with u
   subst u;exact h.up m i t
 ·rcases new m j f with⟨rfl,rfl⟩ | f
  ·exact absurd (q_.2 (.inr (V_.2 rfl))) l
  ·exact O m j (h.done m j f (fun r=>l (q_.2 (.inl r))) F)
 ·rcases G with G | rfl
  ·have⟨j,z,A⟩:=h.now x G;exact⟨j,z,old x j A⟩
  ·exact⟨k+1,J_ _,y⟩
theorem Nv.end_(h:Nv g by_ a left todo n k d)(c:∀p b,BJ g by_ a p→b∈by_→n∈g.next p b→d p):O7 g by_ a left todo k:=by
 refine⟨h.ends,h.word,h.q,h.up,h.sorted,fun m j e l=>?_⟩;by_cases f:m=n
 ·subst f;rw[h.here]at e;injection e with e
  subst e;exact fun p b r t u=>h.now p (c p b r t u)
 ·exact h.done m j e l f
theorem O7.start(f:∀n,left n=if n∈todo then some 0 else none)(k:∀n,n∈todo↔BJ g by_ a n∧g.ends n=true):O7 g by_ a left todo 0:=by
 have e:∀n j,left n=some j→n∈todo∧j=0:=fun n j c=>by
  rw[f]at c;split at c
  ·rename_i h;injection c with c;exact⟨h,c.symm⟩
  ·cases c
 refine⟨fun n l m=>by rw[f,I_ ((k n).2 ⟨l,m⟩)],fun n j c=>?_,fun n d=>⟨0,by rw[f,I_ d],J_ _⟩,fun n j c=>by rw[(e n j c).2];omega,List.pairwise_of_forall fun n p i j q c=>by rw[(e n i q).2];omega,fun n j c d=>absurd (e n j c).1 d⟩;obtain⟨d,rfl⟩:=e n j c;exact⟨((k n).1 d).1,[],rfl,(fun b r=>by cases r),((k n).1 d).2⟩
end
structure LU(g:Gr)(by_:List Nat)(a:Nd)(order:List Nd)(bk:Nd→Nd→Prop)(d:Nd→Nat→Nd→Prop):Prop where
 first:order[0]?=some a
 nodup:order.Nodup
 reach:∀n∈order,BJ g by_ a n
 back:∀t p,bk t p→BJ g by_ a p∧∃b,b∈by_∧t∈g.next p b
 done:∀n b t,d n b t→t∈order∧bk t n
section
variable{g:Gr}{by_:List Nat}{a n t:Nd}{b:Nat}{order:List Nd}{bk bk':Nd→Nd→Prop}{d:Nd→Nat→Nd→Prop}
theorem LU.see(h:LU g by_ a order bk d)(w:n∈order)(z:b∈by_)(A:t∈g.next n b)(l:∀x p,bk' x p↔bk x p∨(x=t∧p=n)):∀f,(t∈order∧f=order)∨(t∉order∧f=order++[t])→LU g by_ a f bk' fun m c x=>d m c x∨(m=n∧c=b∧x=t):=by
 intro f k;have sub:∀x,x∈order→x∈f:=fun x j=>by
  rcases k with⟨-,rfl⟩ | ⟨-,rfl⟩
  ·exact j
  ·exact q_.2 (.inl j)
 have q:t∈f:=by
  rcases k with⟨h,rfl⟩ | ⟨-,rfl⟩
  ·exact h
  ·simp
 refine⟨?_,?_,fun x j=>?_,fun x p r=>?_,fun m c x j=>?_⟩
 ·rcases k with⟨-,rfl⟩ | ⟨-,rfl⟩
  ·exact h.first
  ·rw[YaK (X_.1 h.first).1];exact h.first
 ·rcases k with⟨-,rfl⟩ | ⟨u,rfl⟩
  ·exact h.nodup
  ·refine YcK.2 ⟨h.nodup,by simp,fun x j y B=>?_⟩;rw[V_]at B;subst B;exact fun e=>u (e ▸ j)
 ·rcases k with⟨-,rfl⟩ | ⟨-,rfl⟩
  ·exact h.reach x j
  ·rcases q_.1 j with j | j
   ·exact h.reach x j
   ·rw[V_]at j;subst j;exact(h.reach n w).step z A
 ·rcases(l x p).1 r with r | ⟨rfl,rfl⟩
  ·exact h.back x p r
  ·exact⟨h.reach p w,b,z,A⟩
 ·rcases j with j | ⟨rfl,rfl,rfl⟩
  ·have⟨C,D⟩:=h.done m c x j;exact⟨sub x C,(l x m).2 (.inl D)⟩
  ·exact⟨q,(l x m).2 (.inr ⟨rfl,rfl⟩)⟩
theorem LU.weak{d':Nd→Nat→Nd→Prop}(h:LU g by_ a order bk d)(k:∀n b t,d' n b t→d n b t):LU g by_ a order bk d':=
 ⟨h.first,h.nodup,h.reach,h.back,fun n b t hd=>h.done n b t (k n b t hd)⟩
theorem LU.all(h:LU g by_ a order bk d)(c:∀n b t,n∈order→b∈by_→t∈g.next n b→d n b t):(∀n,n∈order↔BJ g by_ a n)∧∀t p,bk t p↔BJ g by_ a p∧∃b,b∈by_∧t∈g.next p b:=by
 have e:∀n,BJ g by_ a n→n∈order:=fun n k=>by
  induction k with
  | refl=>exact d_ h.first
  | step q f j l=>exact(h.done _ _ _ (c _ _ _ l f j)).1
 exact⟨fun n=>⟨h.reach n,e n⟩,fun t p=>⟨h.back t p,fun⟨m,b,f,j⟩=>(h.done p b t (c p b t (e p m) f j)).2⟩⟩
end
def To(g:Gr):List Nat→Nd→Nd→Prop
 | [],n,t=>n=t
 | b::w,n,t=>∃m,m∈g.next n b∧To g w m t
abbrev NW:=Nd×List Nat
section
variable{g:Gr}{by_:List Nat}{a n t:Nd}{L:Nat}{F F':List NW}{d d':Nd→List Nat→Prop}{w:List Nat}{r:Bool}
variable(hby:∀c,c<256→∃r∈by_,r≤c∧∀n,g.next n r=g.next n c)
include hby
end
def Hu(o:Option AM)(w:List Nat)(q:Int):Int:=w.foldl (fun q b=>Ar o q b) q
theorem C9(o:Option AM)(c:Nat)(w:List Nat)(q:Int):Hu o (c::w) q=Hu o w (Ar o q c):=rfl
def accL(o:Option AM)(w:List Nat):Bool:=AG o (Hu o w 0)
def AH:Nd:=⟨0,0,0⟩
def AcQ(a b:Option AM):Gr:=⟨fun n c=>[⟨0,Ar a n.x c,Ar b n.y c⟩],fun n=>AG a n.x&&AG b n.y⟩
def B8(a b:Option AM)(n:Nd)(c:Nat):List Nd:=
 if n.s=0 then⟨0,Ar a n.x c,0⟩::(if AG a n.x then [⟨1,Ar b 0 c,Ar a n.x c⟩]else [])
 else if n.s=1 then⟨1,Ar b n.x c,Ar a n.y c⟩::(if AG a n.y then [⟨2,Ar b n.x c,Ar b 0 c⟩]else [])
 else [⟨2,Ar b n.x c,Ar b n.y c⟩]
def BH(a b:Option AM)(n:Nd):Bool:=if n.s=1 then AG b n.x&&AG a n.y&&AG b 0 else if n.s=2 then AG b n.x&&AG b n.y else false
def E9(a b:Option AM):Gr:=⟨B8 a b,BH a b⟩
def US(a b:Option AM)(w:List Nat)(x:Int)(i:Nat):Prop:=AG a (Hu a (w.take i) x)=true∧AG b (Hu b (w.drop i) 0)=true
section
variable{a b:Option AM}
theorem Gh{x y:Int}{c:Nat}{t:Nd}:t∈(E9 a b).next ⟨0,x,y⟩ c↔t=⟨0,Ar a x c,0⟩∨(AG a x=true∧t=⟨1,Ar b 0 c,Ar a x c⟩):=by
 show t∈B8 a b ⟨0,x,y⟩ c↔_;unfold B8;rw[I_ rfl,Ybe];cases h:AG a x<;>simp
theorem Gi{x y:Int}{c:Nat}{t:Nd}:t∈(E9 a b).next ⟨1,x,y⟩ c↔t=⟨1,Ar b x c,Ar a y c⟩∨(AG a y=true∧t=⟨2,Ar b x c,Ar b 0 c⟩):=by
 show t∈B8 a b ⟨1,x,y⟩ c↔_;unfold B8;rw[G_ (show¬(1:Int)=0 by decide),I_ rfl,Ybe];cases h:AG a y<;>simp
theorem Ij{x y:Int}{c:Nat}{t:Nd}:t∈(E9 a b).next ⟨2,x,y⟩ c↔t=⟨2,Ar b x c,Ar b y c⟩:=by
 show t∈B8 a b ⟨2,x,y⟩ c↔_;unfold B8;rw[G_ (show¬(2:Int)=0 by decide),G_ (show¬(2:Int)=1 by decide),V_]
theorem IJ:∀(w:List Nat) (x y:Int),Dl (E9 a b) w ⟨2,x,y⟩↔AG b (Hu b w x)=true∧AG b (Hu b w y)=true
 | [],x,y=>by
   show BH a b ⟨2,x,y⟩=true↔_;unfold BH;rw[G_ (show¬(2:Int)=1 by decide),I_ rfl,h_]<;>rfl
 | c::w,x,y=>by
   rw[C9,C9,←IJ w];constructor
   ·rintro⟨t,d,h⟩;obtain rfl:=Ij.1 d;exact h
   ·exact fun h=>⟨_,Ij.2 rfl,h⟩
theorem GJ:∀(w:List Nat) (x y:Int),Dl (E9 a b) w ⟨1,x,y⟩↔AG b (Hu b w x)=true∧∃j,j≤w.length∧US a b w y j
 | [],x,y=>by
   show BH a b ⟨1,x,y⟩=true↔_;unfold BH;rw[I_ rfl,h_,h_];constructor
   ·rintro⟨⟨e,d⟩,g⟩;exact⟨e,0,J_ _,d,g⟩
   ·rintro⟨e,j,f,d⟩;obtain rfl:j=0:=by simpa using f
    exact⟨⟨e,d.1⟩,d.2⟩
 | c::w,x,y=>by
   rw[C9];constructor
   ·rintro⟨t,k,h⟩;rcases Gi.1 k with rfl | ⟨l,rfl⟩
    ·have⟨e,j,f,d⟩:=(GJ w _ _).1 h;exact⟨e,j+1,by simpa using f,d⟩
    ·have⟨e,d⟩:=(IJ w _ _).1 h;exact⟨e,0,l_ _,l,d⟩
   ·rintro⟨e,j,f,d⟩;cases j with
    | zero=>exact⟨_,Gi.2 (.inr ⟨d.1,rfl⟩),(IJ w _ _).2 ⟨e,d.2⟩⟩
    | succ j=>exact⟨_,Gi.2 (.inl rfl),(GJ w _ _).2 ⟨e,j,by simpa using f,d⟩⟩
theorem II:∀(w:List Nat) (x y:Int),Dl (E9 a b) w ⟨0,x,y⟩↔∃i j,i<j∧j≤w.length∧US a b w x i∧US a b w x j
 | [],x,y=>by
   show BH a b ⟨0,x,y⟩=true↔_;unfold BH;rw[G_ (show¬(0:Int)=1 by decide),G_ (show¬(0:Int)=2 by decide)];constructor
   ·exact fun h=>by cases h
   ·rintro⟨i,j,f,d,-⟩;simp at d;omega
 | c::w,x,y=>by
   constructor
   ·rintro⟨t,l,h⟩;rcases Gh.1 l with rfl | ⟨m,rfl⟩
    ·have⟨i,j,f,d,e,g⟩:=(II w _ _).1 h;exact⟨i+1,j+1,by omega,by simpa using d,e,g⟩
    ·have⟨f,j,n,d⟩:=(GJ w _ _).1 h;exact⟨0,j+1,by omega,by simpa using n,⟨m,f⟩,d⟩
   ·rintro⟨i,j,f,d,e,g⟩;obtain⟨j,rfl⟩:∃k,j=k+1:=⟨j-1,by omega⟩;cases i with
    | zero=>exact⟨_,Gh.2 (.inr ⟨e.1,rfl⟩),(GJ w _ _).2 ⟨e.2,j,by simpa using d,g⟩⟩
    | succ i=>exact⟨_,Gh.2 (.inl rfl),(II w _ _).2 ⟨i,j,by omega,by simpa using d,e,g⟩⟩
end
theorem Mg(a b:Option AM)(w:List Nat):Dl (E9 a b) w AH↔∃i j,i<j∧j≤w.length∧US a b w 0 i∧US a b w 0 j:=II w 0 0
def CL(a:Option AM)(q:Int)(c:Nat):List Int:=Ar a q c::(if AG a q then [Ar a 0 c]else [])
def Bv(a:Option AM)(n:Nd)(c:Nat):List Nd:=
 if n.s=0 then⟨0,Ar a n.x c,0⟩::(if AG a n.x then [⟨1,Ar a 0 c,Ar a n.x c⟩]else [])
 else(CL a n.x c).flatMap fun x=>(CL a n.y c).map fun y=>⟨1,x,y⟩
def Et(a:Option AM)(n:Nd):Bool:=n.s==1&&AG a n.x&&AG a n.y
def EH(a:Option AM):Gr:=⟨Bv a,Et a⟩
section
variable{a:Option AM}
theorem Oc{q:Int}{c:Nat}{t:Int}:t∈CL a q c↔t=Ar a q c∨(AG a q=true∧t=Ar a 0 c):=by
 unfold CL;rw[Ybe];cases h:AG a q<;>simp
theorem M2{x y:Int}{c:Nat}{t:Nd}:t∈(EH a).next ⟨0,x,y⟩ c↔t=⟨0,Ar a x c,0⟩∨(AG a x=true∧t=⟨1,Ar a 0 c,Ar a x c⟩):=by
 show t∈Bv a ⟨0,x,y⟩ c↔_;unfold Bv;rw[I_ rfl,Ybe];cases h:AG a x<;>simp
theorem M3{x y:Int}{c:Nat}{t:Nd}:t∈(EH a).next ⟨1,x,y⟩ c↔∃p∈CL a x c,∃q∈CL a y c,t=⟨1,p,q⟩:=by
 show t∈Bv a ⟨1,x,y⟩ c↔_;unfold Bv;rw[G_ (show¬(1:Int)=0 by decide),Ycd];simp only[Ycp];constructor
 ·rintro⟨p,b,q,d,e⟩;exact⟨p,b,q,d,e.symm⟩
 ·rintro⟨p,b,q,d,e⟩;exact⟨p,b,q,d,e.symm⟩
end
section
variable{α β:Type}{Ok:α→Prop}{enc:α→v_}{T:Ty β}{e:x_}{b:Nat}{m:α→Option v_}{B:Nat→Prop}{H0 H H':Aa}{ps:List Pc}
theorem E_.mqNil(f:E_ B H0 H ps)(i:Nat)(g:ps[i]?=some (pMW Ok enc b m))(d:∀a,Cl m a= .slice none 0 0):E_ B H0 H (ps.set i (pMQ Ok enc T e b m fun _=>[])):=by
 refine f.upd i g (A_.refl _ _) _ ⟨f.mapW i g,fun a=>by rw[d];exact M_.nil,fun a a' k _ c=>?_,fun a c=>?_⟩ (fun k c=>?_) (fun k c=>?_) (J_ _)
 ·rw[d]at c;exact absurd c L9
 ·rw[d]at c;exact L9 c
 ·rcases c with c | ⟨a,c⟩
  ·exact .inl c
  ·rw[d]at c;exact absurd c L9
 ·rcases c with c | ⟨a,c⟩
  ·exact(f.in_ i g c).2
  ·rw[d]at c;exact absurd c L9
theorem Ad7{S:Nat→Prop}{H H':Aa}{k:Nat}(h:A_ S H H')(a:S k)(b:k<H.size):k<H'.size:=by
 have e:=h k a;rw[Yad b]at e;exact(Array.getElem?_eq_some_iff.1 e).1
theorem E_.apart{p q:Pc}(b:E_ B H0 H ps){i j:Nat}(a:i<j)(c:ps[i]?=some p)(d:ps[j]?=some q):Dis p q:=by
 have⟨e,f⟩:=X_.1 c;have⟨g,h⟩:=X_.1 d;have:=Ya6.1 b.dis i j e g a;rwa [f,h]at this
theorem ixOa{xs:List β}{x:β}{n cap:Nat}{a:Option Addr}{P:w_}{t by_ j:Nat}{z:v_}{k:IntKind}{d:Int}{S0:Nat→Prop}{H2:Aa}{K:v_→Prop}(m:SlT P t e T.size by_ z)(f:E_ B H0 H ps)(i:Nat)(g:ps[i]?=some (pS T e a n cap xs))
  (l:xs[j]?=some x) (p:d=(j:Int)) (q:∀b o c,N_ (.slice a n cap) b→D_ H b→AL H b o c→T.rep (D_ H) H c x→K (.pointer (some ⟨b,o,none⟩))):A7 P (Instr.indexAt t (.slice a n cap) (.int k d)) S0 H2 K:=by
 have h:=f.view i g;have y:=f.len i g;obtain⟨b,o,c,rfl,r,u,w⟩:=h.get l;subst p;have A:=(X_.1 l).1;exact ix m (by omega) (by omega) (by simpa using q b _ c ⟨_,_,_,rfl⟩ r u w)
end
theorem AaI:Ej prog 266 238 239 (.slice none 0 0):=⟨rfl,rfl⟩
theorem N4:Ej prog 269 238 3 (.int .i64 0):=⟨rfl,rfl⟩
theorem P8:AH.Ok:=⟨Co (x:=0) (by decide),Co (x:=0) (by decide),Co (x:=0) (by decide)⟩
theorem CD:(prog.info? 238).bind (·.zero)=some (r_ AH):=by kernel_rfl
structure Jl(g:Gr)(by_:List Nat)(M C:Nat):Prop where
 byl:∀b∈by_,b<256
 nb:by_.length≤256
 ok:∀n,BJ g by_ AH n→n.Ok
 card:∀l:List Nd,l.Nodup→(∀n∈l,BJ g by_ AH n)→l.length≤M
 occ:∀n b t,BJ g by_ AH n→b∈by_→(g.next n b).count t≤C
 c0:1≤C
 big:C*(256*M)≤5864062014805
structure OA(S:Nat→Prop)(H:Aa)(v:v_)(g:Gr)(by_:List Nat):Prop where
 out:∃(pg:Nat) (ba:Option Addr) (bc:Nat) (f e:FuncId) (fs cs es ds:List v_),v= H_ pg∧S pg∧
  K_ H pg 236 [.slice ba by_.length bc,.func (.func f) fs.toArray cs.toArray,.func (.func e) es.toArray ds.toArray]∧S_ (DB .u8) S H ba bc (by_.map fun(b:Nat)=>(b:Int))∧
  (∀H',A_ S H H'→∀n b,BJ g by_ AH n→b∈by_→Al prog f (fs++[r_ n,.int .u8 (b:Int)]++cs).toArray H' fun v H''=>A_ (D_ H') H' H''∧M_ tNd none_ H'' H'.size 238 v (g.next n b))∧
  (∀H',A_ S H H'→∀n,BJ g by_ AH n→AZ prog e (es++[r_ n]++ds).toArray H' (.bool (g.ends n)))
theorem Ha(n t:Nd):As (c_ n) 0 (c_ t)=c_ t:=rfl
theorem Sj{l:List Nd}{t:Nd}(j:Nat):(l.take j).count t≤l.count t:=by
 conv=>rhs;rw[←Ybb j l,YcM]
 omega
theorem Si{l:List Nd}{t:Nd}{j:Nat}(h:l[j]?=some t):(l.take j).count t+1≤l.count t:=by
 have:=Sj (l:=l) (t:=t) (j+1);rw[Ai h,YcM,YcN]at this;omega
theorem Af9{i k nb M:Nat}(hi:i<M)(c:k<nb)(a:nb≤256):i*nb+k+1≤256*M:=by
 have b:(i+1)*nb≤M*nb:=Ybv _ hi;have d:M*nb≤M*256:=YcW _ a;rw[Nat.succ_mul]at b;omega
theorem Ab9{S:Nat→Prop}{H:Aa}{v:v_}{g:Gr}{by_:List Nat}{M C:Nat}(hS:∀k,S k→k<H.size)(hg:Jl g by_ M C)(O:OA S H v g by_):
  Al prog 154 #[v] H fun v H'=>∃(a:Option Addr) (c:Nat) (order:List Nd) (mb:Nat) (m:Nd→Option v_) (xs:Nd→List Nd),v= .tuple #[.slice a order.length c,.map (some mb)]∧
   St H H' [pS tNd 238 a order.length c order,pMQ Nd.Ok r_ tNd 238 mb m xs]∧order.Nodup∧(∀n,n∈order↔BJ g by_ AH n)∧∀t p,p∈xs t↔BJ g by_ AH p∧∃b,b∈by_∧t∈g.next p b:=by
 obtain⟨pg,ba,bc,f,e,fs,cs,es,ds,rfl,aj,a6,hby,ak,d0⟩:=O;have d1:=hg.nb;have e1:=hg.big;have d2:=hg.c0;have ea:256*M≤C*(256*M):=YcV _ d2;refine Al.of_vc func154 rfl (call154 _) (Ah underlying238 rfl (r_ AH) CD (c_ AH) rfl (BV (St.nil H) (r_ AH) (c_ AH) CD rfl fun p1 H1 st1=>(AD (cs:=c_ AH) st1 0 rfl rfl (show 0+3≤3 by decide) rfl fun H2 be=>?_)));rw[Ha]at be;refine Kx (Ok:=Nd.Ok) (enc:=r_) fun mb H3 d3 d4 d5 d6=>?_;have bf:=be.mapNewW d3 d4 d5 d6;have q3:=bf.blk 0 rfl;refine L_ (cs:=c_ AH) (q3.cells fun j v O=>by rw[P_];exact O) trivial ?_;refine IV (a:=AH) bf 1 AaI Kv P8 rfl rfl fun H4 d7=>?_;have d8:∀a,Cl (put (fun _=>none) AH (some (.slice none 0 0))) a= .slice none 0 0:=fun a=>by
  by_cases h:a=AH
  ·subst h;rw[Fw]
  ·rw[ES h];rfl
 have d9:∀t,(put (fun _=>none) AH (some (.slice none 0 0)) t:Option v_).isSome=true↔t∈[AH]:=fun t=>by
  rw[V_];by_cases h:t=AH
  ·subst h;rw[Bw];simp
  ·rw[C4 h];simp[h]
 generalize put (fun _=>none) AH (some (Value.slice none 0 0))=m0 at*;have bh:=d7.mqNil (T:=tNd) (e:=238) 1 rfl d8;have q5:=bh.blk 0 rfl;refine L_ (cs:=c_ AH) (q5.cells fun j v O=>by rw[P_];exact O) trivial ?_;refine Az Cf (c_ AH) rfl rfl (by decide) (by decide) ?_;intro b6 H6 da db dc de;have df:=(bh.new (T:=tNd) (n:=1) (xs:=[AH]) da db dc de (Ty.reps_one rfl) rfl (by decide)).pick [2,1] (by decide);(conv=>whnf);refine A8.mk [6,7] (fun x:Nat×List Nd×Option Addr×Nat=>match x with | (i,order,a,c)=>[.slice a order.length c,C_ i])
  (fun x H7=>x.1≤x.2.1.length∧∃m xs,LU g by_ AH x.2.1 (fun t p=>p∈xs t) (fun n b t=>n∈x.2.1.take x.1∧b∈by_∧t∈g.next n b)∧(∀t,(m t).isSome=true↔t∈x.2.1)∧(∀t,(xs t).length≤C*(x.1*by_.length))∧
   St H H7 [pS tNd 238 x.2.2.1 x.2.1.length x.2.2.2 x.2.1,pMQ Nd.Ok r_ tNd 238 mb m xs]) (fun x _=>M-x.1) ?_ ?_
 ·(conv=>whnf);refine⟨(0,[AH],some ⟨b6,0,none⟩,1),rfl,by simp,m0,fun _=>[],⟨rfl,by simp,fun n hn=>?_,fun t p hp=>(by cases hp),fun n b t h=>(by simp at h)⟩,d9,by simp,df⟩;rw[V_]at hn;subst hn;exact .refl
 ·rintro⟨i,order,a7,c7⟩ H7 dg ⟨hi,m7,bj,y,bn,bo,a0⟩;simp only at hi y bn bo a0;have dh:=hg.card order y.nodup y.reach;refine Ag.m2 (fun hz=>?_) (fun hz=>?_)
  ·have⟨n,hn⟩:=Am (l:=order) (k:=i) (by omega);have am:=d_ hn;have ao:=y.reach n am;have q7:=a6.agr (a0.old.mono hS) aj;refine fa ?_;refine lT (q7.cellE rfl) ?_;(conv=>whnf);refine A8.mk [6,31] (fun x:Nat×List Nd×Option Addr×Nat=>match x with | (k,order,a,c)=>[.slice a order.length c,C_ k])
    (fun x H8=>x.1≤by_.length∧x.2.1[i]?=some n∧∃m xs,LU g by_ AH x.2.1 (fun t p=>p∈xs t) (fun R b t=>(R∈x.2.1.take i∧b∈by_∧t∈g.next R b)∨(R=n∧b∈by_.take x.1∧t∈g.next n b))∧(∀t,(m t).isSome=true↔t∈x.2.1)∧(∀t,(xs t).length≤C*(i*by_.length+x.1))∧
     St H H8 [pS tNd 238 x.2.2.1 x.2.1.length x.2.2.2 x.2.1,pMQ Nd.Ok r_ tNd 238 mb m xs]) (fun x _=>by_.length-x.1) ?_ ?_
   ·(conv=>whnf);exact⟨(0,order,a7,c7),rfl,by simp,hn,m7,bj,y.weak fun R b t h=>by simpa using h,bn,by simpa using bo,a0⟩
   ·rintro⟨k,E,a8,c8⟩ H8 di ⟨G,U,m8,bp,w,ap,V,I⟩;simp only at G U w ap V I;have cx:=hg.card E w.nodup w.reach;have e3:=(X_.1 U).1;refine Ag.m2 (fun dj=>?_) (fun dj=>?_)
    ·have⟨b,hb⟩:=Am (l:=by_) (k:=k) (by omega);have z:=d_ hb;have eb:=hg.byl b z;have hP:=Af9 (i:=i) (k:=k) (M:=M) (nb:=by_.length) (by omega) (by omega) d1;have dk:C*(i*by_.length+k+1)≤C*(256*M):=YcW _ hP;rw[Nat.mul_succ]at dk;refine F4 (i:=k) (x:=(b:Int)) Jd (hby.frame (I.old.mono hS)) (by simp) (by rw[t_,hb];rfl) rfl ?_;rintro b9 o9 ec ed dl ⟨rfl,-⟩;refine B_ dl.one trivial (Au.held (D_ H8) 99 (sq [0,1,2,3,4,5,6,7,8,11] (.f 9 (sq [10] .e))) rfl (by kernel_rfl) ?_);have q8:=a6.agr (I.old.mono hS) aj;refine fa ?_;refine B_ (q8.cellE rfl) (I.up (hS pg aj)) (ixO (j:=i) Cf I 0 rfl U rfl fun ee ef e4 bq br bu=>?_);obtain rfl:=bu;refine L_ (cs:=c_ n) br bq (Aj.mk (ak H8 (I.old.mono hS) n b ao z) ?_);rintro _ H9 ⟨bv,aq⟩;refine⟨bv,?_⟩;obtain⟨a9,c9,rfl,dm⟩:=I.got bv aq;have ab:=fun t=>hg.occ n b t ao z;have au:∀t,t∈g.next n b→t.Ok:=fun t ht=>hg.ok t (ao.step z ht)
     generalize bw:g.next n b=Z at*
     (conv=>whnf);refine A8.mk [6,46] (fun x:Nat×List Nd×Option Addr×Nat=>match x with | (j,order,a,c)=>[.slice a order.length c,C_ j])
      (fun x H10=>x.1≤Z.length∧x.2.1[i]?=some n∧∃m xs,LU g by_ AH x.2.1 (fun t p=>p∈xs t) (fun R b' t=>((R∈x.2.1.take i∧b'∈by_∧t∈g.next R b')∨(R=n∧b'∈by_.take k∧t∈g.next n b'))∨(R=n∧b'=b∧t∈Z.take x.1))∧(∀t,(m t).isSome=true↔t∈x.2.1)∧(∀t,(xs t).length≤C*(i*by_.length+k)+(Z.take x.1).count t)∧
       St H H10 [pS tNd 238 x.2.2.1 x.2.1.length x.2.2.2 x.2.1,pMQ Nd.Ok r_ tNd 238 mb m xs,pS tNd 238 a9 Z.length c9 Z]) (fun x _=>Z.length-x.1) ?_ ?_
     ·(conv=>whnf);exact⟨(0,E,a8,c8),rfl,by simp,U,m8,bp,w.weak fun R b t h=>by simpa using h,ap,by simpa using V,dm⟩
     ·rintro⟨j,d,bx,bz⟩ H10 cy ⟨hj,D,W,A,r,J,B,K⟩;simp only at hj D r J B K;have c2:=hg.card d r.nodup r.reach;have aw:=(X_.1 D).1;refine Ag.m2 (fun dp=>?_) (fun dp=>?_)
      ·have⟨t,ht⟩:=Am (l:=Z) (k:=j) (by omega);have F:=d_ ht;have c3:=K.max 2 rfl;unfold maxLen at c3;have eg:=Si ht;have eh:=ab t;refine ixO (j:=j) Cf K 2 rfl ht rfl fun ei ej e5 e6 c4 c5=>?_;obtain rfl:=c5;refine L_ (cs:=c_ t) c4 trivial (BV K (r_ AH) (c_ AH) CD rfl fun dq H12 c6=>(AD (cs:=c_ t) c6 3 rfl rfl (show 0+3≤3 by decide) rfl fun H13 L=>?_));rw[Ha]at L;have cb:=L.blk 3 rfl;(conv=>whnf);refine Af.cut [6] (fun x:List Nd×Option Addr×Nat=>match x with | (order,a,c)=>[.slice a order.length c])
        (fun x H14=>((t∈d∧x.1=d)∨(t∉d∧x.1=d++[t]))∧St H H14 [pS tNd 238 x.2.1 x.1.length x.2.2 x.1,pMQ Nd.Ok r_ tNd 238 mb W A,pS tNd 238 a9 Z.length c9 Z,pB 238 dq (c_ t)]) ?_ ?_
       ·refine L_ (cs:=c_ t) (cb.cells fun j v O=>by rw[P_];exact O) trivial ?_;refine HL (S:=fun _=>True) (a:=t) AaI Kv (au t F) (L.mqMap 1 rfl) trivial ?_;by_cases a5:t∈d
        ·rw[(J t).2 a5];(conv=>whnf);exact⟨rfl,(d,bx,bz),rfl,.inl ⟨a5,rfl⟩,L⟩
        ·have dr:(W t).isSome=false:=by
          cases h:(W t).isSome with
          | false=>rfl
          | true=>exact absurd ((J t).1 h) a5
         rw[dr];refine L_ (cs:=c_ t) (cb.cells fun j v O=>by rw[P_];exact O) trivial ?_;refine Az Cf (c_ t) rfl rfl (by decide) (by decide) ?_;intro ay H14 cd e7 ce cg;have u:=L.skip cd cg;refine OC (ys:=[t]) (ds:=c_ t) u 0 Cf rfl (ce.cells fun j v O=>by rw[P_];exact O) (Ty.reps_one rfl) rfl (by simp[c_,Value.oneCell']) (by simp only[k_,maxLen];omega) (by simp only[k_];omega) fun a' c' H15 ad _=>?_;(conv=>whnf);refine⟨rfl,(d++[t],a',c'),by simp,.inr ⟨a5,rfl⟩,?_⟩;simp only[Q_,k_]at ad ⊢;exact ad
       ·rintro⟨q,dt,du⟩ H14 cz ⟨X,u⟩;simp only at X u;have ae:q[i]?=some n:=by
         rcases X with⟨-,rfl⟩ | ⟨-,rfl⟩
         ·exact D
         ·rw[YaK aw];exact D
        have az:q.take i=d.take i:=by
         rcases X with⟨-,rfl⟩ | ⟨-,rfl⟩
         ·rfl
         ·rw[YcL (by omega)]
        have b4:∀x,x∈q↔x∈d∨x=t:=fun x=>by
         rcases X with⟨h,rfl⟩ | ⟨-,rfl⟩
         ·exact⟨.inl,fun hx=>hx.elim id fun e=>e ▸ h⟩
         ·simp
        refine Au.held (fun k=>k<H14.size∧¬(pMQ Nd.Ok r_ tNd 238 mb W A).foot k) 11 (sq [0,1,2,3,4,5] (.f 6 (.f 7 (sq [8,10] (.f 9 (.f 11 .e)))))) rfl (by kernel_rfl) ?_;have ay:=u.blk 3 rfl;have dv:=u.apart (i:=0) (j:=1) (by decide) rfl rfl;have dw:=u.apart (i:=1) (j:=3) (by decide) rfl rfl;have dx:=(u.in_ 1 rfl (.inl rfl)).2;refine L_ (cs:=c_ t) (ay.cells fun j v O=>by rw[P_];exact O) ⟨ay.lt,fun hf=>dw _ hf rfl⟩ ?_;refine ixOa (j:=i) Cf u 0 rfl ae rfl fun ek el e8 b5 ch ci cj=>?_;obtain rfl:=cj;refine L_ (cs:=c_ n) ci ⟨ch,dv _ (.inl b5)⟩ (Az Cf (c_ n) rfl rfl (by decide) (by decide) ?_);intro dy H16 cm e9 co N;have cp:=u.skip cm N;refine⟨N.mono fun k G=>by have:=G.1;omega,?_⟩;refine AaK (a:=t) cp 1 AaI Kv (au t F) rfl fun s eo H17 b7 P cq ah=>?_;refine⟨(N.mono fun k G=>by have:=G.1;omega).trans (P.mono fun k G Y=>G.2 (.inl Y)),?_⟩;have dz:=B t;refine AgD (ys:=[n]) (ds:=c_ n) ah 1 Cf rfl ((co.agr P (by show dy≠mb;omega)).cells fun j v O=>by rw[P_];exact O) (Ty.reps_one rfl) rfl (by simp[c_,Value.oneCell']) (by simp only[k_,maxLen];omega) (by simp only[k_];omega) fun ep H18 cr ai b8=>?_;refine⟨((N.mono fun k G=>by have:=G.1;omega).trans (P.mono fun k G Y=>G.2 (.inl Y))).trans (ai.mono fun k G=>⟨?_,fun hs=>G.2 (.inr ⟨t,hs⟩)⟩),?_⟩
        ·have:=G.1;have eu:=Ap (H:=H14) (H':=H16) (N.mono fun k G=>by unfold D_ at G;omega);exact Ad7 P (fun Y=>G.2 (.inl Y)) (by omega)
        have bd:=b7.agr ai ⟨ah.in_ 1 rfl (.inl rfl) |>.2,b8⟩;refine AaO cr 1 Kv (au t F) rfl bd fun e0 H19 ct cu=>?_;(conv=>whnf);rw[R_ j (by omega)];have cw:=r.see (bk':=fun x p=>p∈upd A t (A t++[n]) x) (d_ D) z (by rw[bw];exact F) (fun x p=>by
         by_cases hx:x=t
         ·subst hx;rw[Ib];simp
         ·rw[No hx];simp[hx]) q X
        refine⟨rfl,(j+1,q,dt,du),by simp,⟨by simp only;omega,ae,e0,upd A t (A t++[n]),cw.weak fun R b' x h=>?_,fun x=>?_,fun x=>?_,cu.pick [0,1,2] (by decide)⟩,by simp only;omega⟩
        ·simp only at h;rw[az,Ai ht,q_,V_]at h;rcases h with h | ⟨Q,h2,h3 | h3⟩
         ·exact .inl (.inl h)
         ·exact .inl (.inr ⟨Q,h2,h3⟩)
         ·exact .inr ⟨Q,h2,h3⟩
        ·rw[ct,cq,J,b4]
        ·simp only;rw[Ai ht,YcM];have:=B x;by_cases hx:x=t
         ·subst hx;rw[Ib,Q_,YcN,k_];omega
         ·rw[No hx];omega
      ·obtain rfl:j=Z.length:=by omega
       rw[YaB]at r B;(conv=>whnf);rw[R_ k (by omega)];refine⟨rfl,(k+1,d,bx,bz),by simp,⟨by simp only;omega,D,W,A,r.weak fun R b' t h=>?_,J,fun t=>?_,K.pick [0,1] (by decide)⟩,by simp only;omega⟩
       ·rcases h with h | ⟨rfl,Q,h2⟩
        ·exact .inl (.inl h)
        ·rw[Ai hb,q_,V_]at Q;rcases Q with Q | rfl
         ·exact .inl (.inr ⟨rfl,Q,h2⟩)
         ·exact .inr ⟨rfl,rfl,bw ▸ h2⟩
       ·have:=B t;have:=ab t;rw[←YcX,Nat.mul_succ];omega
    ·obtain rfl:k=by_.length:=by omega
     rw[YaB]at w;(conv=>whnf);rw[R_ i (by omega)];refine⟨rfl,(i+1,E,a8,c8),by simp,⟨by simp only;omega,m8,bp,w.weak fun R b' t h=>?_,ap,fun t=>?_,I⟩,by simp only;omega⟩
     ·have⟨Q,h2,h3⟩:=h;rw[Ai U,q_,V_]at Q;rcases Q with Q | rfl
      ·exact .inl ⟨Q,h2,h3⟩
      ·exact .inr ⟨rfl,h2,h3⟩
     ·rw[Nat.succ_mul];exact V t
  ·obtain rfl:i=order.length:=by omega
   rw[YaB]at y;have⟨r1,r2⟩:=y.all fun n b t Q h2 h3=>⟨Q,h2,h3⟩;(conv=>whnf);exact⟨a7,c7,order,mb,m7,bj,rfl,a0,y.nodup,r1,r2⟩
theorem PW{P:w_}{s d e cap n:Nat}{a:Option Addr}{S B:Nat→Prop}{H0 H:Aa}{ps:List Pc}{K:v_→Aa→Prop}(bs:List Nat)(g:E_ B H0 H ps)(i:Nat)(m:ps[i]?=some (pN (DB .u8) S e a n cap (bs.map fun(x:Nat)=>(x:Int))))
  (hs:P.underlying s=some (.slice e)) (p:P.underlying e=some (.int .u8)) (hd:P.underlying d=some .string) (k:K (.string ⟨(bs.map UInt8.ofNat).toArray⟩) H):Ba P (convert s d (.slice a n cap)) H K:=by
 have h:=g.view i m;have q:=g.len i m;rw[Z_]at q;cases bs with
 | nil=>
   cases a with
   | none=>exact Ad0 hs p hd k
   | some A=>
     have r:=g.at_ i m;obtain⟨C,⟨D,f⟩,E⟩:=r.1;rcases f with⟨f,-⟩ | ⟨b,c,l,f,F,G,I,J,L,M⟩
     ·cases f
     ·injection f with g1 g2 g3
      injection g1 with g1
      subst g1;exact AfV [] hs p hd (fun j x t=>by simp at t) q k
 | cons x xs=>
   obtain⟨b,rfl⟩:=g.adr i m (by simp);refine AfV (x::xs) hs p hd (fun j y u=>?_) q k;obtain⟨b',N,O,e,-,w,z⟩:=h.get (i:=j) (x:=(y:Int)) (by rw[t_,u];rfl);injection e with e
   injection e with e1 e2 e3
   subst e1;subst e2;obtain⟨rfl,-⟩:=z;have:=w.one;rw[show(DB .u8).size=1 from rfl,Nat.mul_one]at this;exact this
structure Pre(g:Gr)(a:Nd)(lf:Nd→Option Nat)(L r:Nat)(w:List Nat)(P:Nd→Prop):Prop where
 len:w.length+r=L
 fst:∀v,CG g P r v→CG g (·=a) L (w++v)
 all:∀n,P n→lf n=some r
 ne:∃n,P n
section
variable{g:Gr}{by_:List Nat}{a:Nd}{lf:Nd→Option Nat}{L k b:Nat}{w:List Nat}{P Q:Nd→Prop}
theorem Pre.start(h:lf a=some L):Pre g a lf L L [] (·=a):=⟨by simp,fun v b=>b,fun n c=>by rw[c,h],a,rfl⟩
theorem Pre.done(h:Pre g a lf L 0 w P)(hd:CQ g by_ a lf):CG g (·=a) L w:=by
 have⟨n,b⟩:=h.ne;obtain⟨-,u,c,-,d⟩:=hd.word n 0 (h.all n b);obtain rfl:=YaA c;have:=h.fst [] (CG.nil b d);rwa [Yba]at this
theorem Pre.some(h:Pre g a lf L (k+1) w P)(hd:CQ g by_ a lf):∃b,b∈by_∧∃t,Dh g P b t∧lf t=some k:=by
 have⟨n,r⟩:=h.ne;have e:=h.all n r;have⟨x,u,y,f,m⟩:=hd.word n _ e;cases u with
 | nil=>simp at y
 | cons b u=>
   have⟨t,p,m⟩:=m;have q:=f b YbZ;have⟨j,A,l⟩:=hd.le (x.step q p) (fun c z=>f c (YbX _ z)) m;have⟨i,B,d⟩:=hd.pred t j l n b x q p;rw[e]at d;injection d with d
   simp only[j_,YcU]at y;have:j=k:=by omega
   exact⟨b,q,t,⟨n,r,p⟩,this ▸ l⟩
variable(hby:∀c,c<256→∃r∈by_,r≤c∧∀n,g.next n r=g.next n c)
include hby
theorem CQ.narrow(h:CQ g by_ a lf)(r:∀n,P n→lf n=Ah8 (k+1))(w:b∈by_)(x:∀t,Q t↔Dh g P b t∧lf t=Ah8 k){v:List Nat}(A:CG g Q k v):CG g (Dh g P b) k v:=by
 obtain⟨B,C,⟨n,D,p⟩,E⟩:=A;refine⟨B,C,⟨n,((x n).1 D).1,p⟩,fun u F d q=>?_⟩;have⟨t,y,p⟩:=q;refine E u F d ⟨t,(x t).2 ⟨y,?_⟩,p⟩;have⟨m,z,e⟩:=y;have f:=(h.word m _ (r m z)).1;have⟨j,G,l⟩:=h.bytes hby (f.step w e) d p;have⟨i,H,c⟩:=h.pred t j l m b f w e;rw[r m z]at c;injection c with c
 have:j=k:=by omega
 exact this ▸ l
theorem Pre.step(h:Pre g a lf L (k+1) w P)(hd:CQ g by_ a lf)(d:∀b∈by_,b<256)(hs:by_.Pairwise (·≤·)){j:Nat}(f:by_[j]?=Ah8 b)(B:∀t,Q t↔Dh g P b t∧lf t=Ah8 k)(p:∃t,Q t)
  (q:∀c∈by_.take j,∀t,¬(Dh g P c t∧lf t=Ah8 k)):Pre g a lf L k (w++[b]) Q:=by
 have x:=d_ f;refine⟨by rw[Q_,k_];have:=h.len;omega,fun v D=>?_,fun n E=>((B n).1 E).2,p⟩;have F:=CG.cons (d b x) (hd.narrow hby h.all x B D) fun c N u G y l=>by
  have⟨r,C,H,z⟩:=hby c (by have:=d b x;omega);have e:Dh g P c=Dh g P r:=by
   funext t;unfold Dh;simp only[z]
  rw[e]at l;have⟨t,I,J⟩:=(hd.fwd hby d h.all C).1 ⟨u,G,y,l⟩;refine q r ?_ t ⟨I,J⟩;have⟨i,A⟩:=YaT C;have⟨p1,p2⟩:=X_.1 A;have⟨K,M⟩:=X_.1 f;by_cases m:i<j
  ·exact d_ (i:=i) (by rw[YaM,I_ m];exact A)
  ·exfalso;rcases Nat.lt_or_eq_of_le (Nat.not_lt.1 m)with h | h
   ·have:=Ya6.1 hs j i K p1 h;rw[p2,M]at this;omega
   ·subst h;rw[A]at f;injection f with f
    omega
 have:=h.fst _ F;rwa [List.append_cons]at this
end
def D9(lf:Nd→Option Nat):Nd→Option v_:=fun n=>(lf n).map fun(k:Nat)=>Value.int .i64 (k:Int)
theorem Q8(lf:Nd→Option Nat)(p:Nd)(k:Nat):put (D9 lf) p (some (.int .i64 (k:Int)))=D9 fun m=>if m=p then some k else lf m:=by
 funext m;by_cases h:m=p
 ·subst h;rw[Bw];simp[D9]
 ·rw[C4 h];simp[D9,h]
theorem Vh(todo:List Nd)(p:Nd):put (D9 fun n=>if n∈todo then some 0 else none) p (some (.int .i64 0))=D9 fun n=>if n∈todo++[p]then some 0 else none:=by
 have:=Q8 (fun n=>if n∈todo then some 0 else none) p 0;refine Eq.trans this ?_
 congr 1
 funext m;by_cases h:m=p
 ·subst h;simp
 ·simp[h]
def I2(q:Nd→Bool):Nd→Option v_:=fun n=>if q n then some (.int .i64 1)else none
theorem Q7(q:Nd→Bool)(p:Nd):put (I2 q) p (some (.int .i64 1))=I2 fun m=>decide (m=p)|| q m:=by
 funext m;by_cases h:m=p
 ·subst h;rw[Bw];unfold I2;simp
 ·rw[C4 h];unfold I2;simp[h]
theorem NK{q:Nd→Bool}{n:Nd}:(I2 q n).isSome=true↔q n=true:=by
 unfold I2;cases h:q n<;>simp
theorem NJ{q:Nd→Bool}{n:Nd}:I2 q n=none↔q n=false:=by
 unfold I2;cases h:q n<;>simp
def LP(g:Gr)(w:List Nat)(ok:Bool):Prop:=(ok=true→Dv g (·=AH) w)∧(ok=false→w=[]∧∀u,A9 u→¬CR g (·=AH) u)
structure UT(g:Gr)(by_:List Nat)(lf:Nd→Option Nat)(seen:List Nd):Prop where
 nd:seen.Nodup
 mem:∀n,(lf n).isSome=true↔n∈seen
 le:∀n j,lf n=some j→j≤seen.length
 rch:∀n∈seen,BJ g by_ AH n
theorem UT.push{g:Gr}{by_:List Nat}{lf:Nd→Option Nat}{a:List Nd}{p n:Nd}{k:Nat}(h:UT g by_ lf a)(l:lf p=none)(q:BJ g by_ AH p)(r:lf n=some k):UT g by_ (fun m=>if m=p then some (k+1)else lf m) (a++[p]):=by
 have d:p∉a:=fun t=>by
  have:=(h.mem p).2 t;rw[l]at this;cases this
 refine⟨YcK.2 ⟨h.nd,by simp,fun x u y f=>?_⟩,fun m=>?_,fun m j c=>?_,fun m b=>?_⟩
 ·rw[V_]at f;subst f;exact fun e=>d (e ▸ u)
 ·by_cases b:m=p
  ·subst b;simp
  ·rw[G_ b,h.mem];simp[b]
 ·rw[Q_,k_];split at c
  ·have:=h.le n k r;injection c with c
   omega
  ·have:=h.le m j c;omega
 ·rcases q_.1 b with b | b
  ·exact h.rch m b
  ·rw[V_]at b;subst b;exact q
theorem TY{S:Nat→Prop}{H:Aa}{v:v_}{g:Gr}{by_:List Nat}{M C:Nat}(hS:∀k,S k→k<H.size)(hg:Jl g by_ M C)(aw:∀c,c<256→∃r∈by_,r≤c∧∀n,g.next n r=g.next n c)(c8:by_.Pairwise (·≤·))(E:OA S H v g by_):
  Al prog 122 #[v] H fun v H'=>A_ (D_ H) H H'∧∃w ok,v= .tuple #[.string (bA w),.bool ok]∧LP g w ok∧w.length≤M:=by
 have g6:=hg.nb;have fm:=hg.big;have g7:256*M≤C*(256*M):=YcV _ hg.c0;have bj:=Ab9 hS hg E;obtain⟨pg,ba,bc,f,e,fs,cs,es,ds,rfl,ay,az,hby,cb,cd⟩:=E;refine Al.of_vc func122 rfl (call122 _) (Aj.mk bj ?_);rintro _ H1 ⟨a1,c1,order,mb,m1,xs,rfl,st1,d0,bn,d3⟩;have e7:=hg.card order d0 fun n hn=>(bn n).1 hn;refine Kx (Ok:=Nd.Ok) (enc:=r_) fun lb H2 e8 e9 ea eb=>?_;have ec:=st1.mapNewW e8 e9 ea eb;have ed:=ec.nils tNd 238;(conv=>whnf);refine A8.mk [7,36] (fun x:Nat×List Nd×Option Addr×Nat=>match x with | (i,todo,a,c)=>[.slice a todo.length c,C_ i])
  (fun x H3=>x.1≤order.length∧x.2.1=(order.take x.1).filter g.ends∧St H H3 [pS tNd 238 a1 order.length c1 order,pMQ Nd.Ok r_ tNd 238 mb m1 xs,pMW Nd.Ok r_ lb (D9 fun n=>if n∈x.2.1 then some 0 else none),pS tNd 238 x.2.2.1 x.2.1.length x.2.2.2 x.2.1]) (fun x _=>order.length-x.1) ?_ ?_
 ·(conv=>whnf);refine⟨(0,[],none,0),rfl,by simp,rfl,?_⟩;have e0:(D9 fun n=>if n∈([]:List Nd)then some 0 else none)=fun _=>none:=by funext n;simp[D9]
  simp only[e0];exact ed
 ·rintro⟨i,todo,a4,c4⟩ H4 ee ⟨hi,y,bo⟩;simp only at hi y bo;refine Ag.m2 (fun hz=>?_) (fun hz=>?_)
  ·have⟨n,hn⟩:=Am (l:=order) (k:=i) (by omega);have ce:=d_ hn;have a7:=(bn n).1 ce;have N:(order.take (i+1)).filter g.ends=todo++[n].filter g.ends:=by
    rw[y,Ai hn,Yce]
   have ef:todo.length≤i:=by
    rw[y];refine YbC (List.length_filter_le _ _) ?_;rw[YaN];omega
   refine Af.run (ixO (j:=i) Cf bo 0 rfl hn rfl fun b5 o5 g8 g9 eg eh=>?_);obtain rfl:=eh;refine L_ (cs:=c_ n) eg trivial (BV bo (r_ AH) (c_ AH) CD rfl fun p5 H5 cg=>(AD (cs:=c_ n) cg 4 rfl rfl (show 0+3≤3 by decide) rfl fun H6 G=>?_));rw[Ha]at G;refine Au.held (D_ H6) 99 (sq [0,1,2,3,4] (.f 5 .e)) rfl (by kernel_rfl) ?_;have q6:=az.agr (G.old.mono hS) ay;have r6:=G.blk 4 rfl;refine fa ?_;refine B_ (q6.cellE rfl) (G.up (hS pg ay)) ?_;refine L_ (cs:=c_ n) (r6.cells fun j v E=>by rw[P_];exact E) r6.lt ?_;refine Ak (cd H6 (G.old.mono hS) n a7) fun H7 au=>(⟨au,?_⟩);have a8:=G.call au;have r7:=a8.blk 4 rfl;cases he:g.ends n with
   | false=>
     have hf:[n].filter g.ends=[]:=YbW (by rw[he];decide);rw[hf,Yba]at N;(conv=>whnf);rw[R_ i (by omega)];exact⟨rfl,(i+1,todo,a4,c4),by simp,⟨by simp only;omega,N.symm,a8.pick [0,1,2,3] (by decide)⟩,by simp only;omega⟩
   | true=>
     have hf:[n].filter g.ends=[n]:=YbU he;rw[hf]at N;refine L_ (cs:=c_ n) (r7.cells fun j v E=>by rw[P_];exact E) trivial ?_;refine IV (a:=n) a8 2 N4 Kv (hg.ok n a7) rfl (Vh todo n) fun H8 ab=>?_;have r8:=ab.blk 4 rfl;refine L_ (cs:=c_ n) (r8.cells fun j v E=>by rw[P_];exact E) trivial ?_;refine Az Cf (c_ n) rfl rfl (by decide) (by decide) ?_;intro q9 H9 ei ga ej ek;have U:=ab.skip ei ek;refine OC (ys:=[n]) (ds:=c_ n) U 3 Cf rfl (ej.cells fun j v E=>by rw[P_];exact E) (Ty.reps_one rfl) rfl (by simp[c_,Value.oneCell']) (by simp only[k_,maxLen];omega) (by simp only[k_];omega) fun a' c' H10 u _=>?_;(conv=>whnf);rw[R_ i (by omega)];refine⟨rfl,(i+1,todo++[n],a',c'),by simp,⟨by simp only;omega,N.symm,?_⟩,by simp only;omega⟩;simp only[Q_,k_];exact u.pick [0,1,2,3] (by decide)
  ·obtain rfl:i=order.length:=by omega
   rw[YaB]at y;have hB:=O7.start (g:=g) (by_:=by_) (a:=AH) (todo:=todo) (left:=fun n=>if n∈todo then some 0 else none) (fun n=>rfl) (fun n=>by rw[y,YbV,bn]);have B:UT g by_ (fun n=>if n∈todo then some 0 else none) todo:=by
    refine⟨by rw[y];exact d0.filter _,fun n=>by by_cases h:n∈todo<;>simp[h],fun n j hj=>?_,fun n hn=>?_⟩
    ·split at hj
     ·injection hj with hj;omega
     ·cases hj
    ·rw[y,YbV]at hn;exact(bn n).1 hn.1
   generalize (fun n=>if n∈todo then some 0 else none:Nd→Option Nat)=el at*;have cg:=bo.toQ 3 rfl;clear y;(conv=>whnf);refine A8.mk [7] (fun x:List Nd×Option Addr×Nat×List Nd=>match x with | (todo,a,c,Z)=>[.slice a todo.length c])
    (fun x H5=>∃lf k,O7 g by_ AH lf x.1 k∧UT g by_ lf x.2.2.2∧x.1.length≤x.2.2.2.length∧St H H5 [pS tNd 238 a1 order.length c1 order,pMQ Nd.Ok r_ tNd 238 mb m1 xs,pMW Nd.Ok r_ lb (D9 lf),pQ tNd 238 x.2.1 x.1.length x.2.2.1 x.1]) (fun x _=>2*(M-x.2.2.2.length)+x.1.length) ?_ ?_
   ·(conv=>whnf);exact⟨(todo,a4,c4,todo),rfl,el,0,hB,B,J_ _,cg⟩
   ·rintro⟨todo,a6,c6,Z⟩ H6 eo ⟨lf,k0,hB,B,ch,G⟩;simp only at hB B ch G;have gb:=hg.card Z B.nd B.rch;refine Ag.m2 (fun ci=>?_) (fun ci=>?_)
    ·cases todo with
     | nil=>simp at ci
     | cons n todo=>
     have⟨k,bp,d4⟩:=hB.take;have a7:=(hB.word n k bp).1;have bx:=hg.ok n a7;obtain⟨-,ep⟩:=G.qview 3 rfl;refine u_ (i:=0) (x:=n) Cf ep rfl rfl ?_;rintro b7 o7 gc gd eu rfl;refine L_ (cs:=c_ n) eu trivial (Aw (r_ AH) (c_ AH) CD rfl ?_);intro p7 H7 ev cj ew au;have a8:=G.box ev cj ew au;refine AD (cs:=c_ n) a8 4 rfl rfl (show 0+3≤3 by decide) rfl fun H8 ab=>?_;rw[Ha]at ab;refine cutQ ab 3 Cf rfl fun a9 c9 U=>?_;have r9:=U.blk 4 rfl;obtain⟨ad,cap,d5,-⟩:=U.mqView 1 rfl n;refine L_ (cs:=c_ n) (r9.cells fun j v E=>by rw[P_];exact E) trivial ?_;refine SH (S:=fun _=>True) (a:=n) AaI Kv bx (U.mqMap 1 rfl) trivial ?_;have d6:(m1 n).getD (.slice none 0 0)= .slice ad (xs n).length cap:=d5;rw[d6];simp only[j_]at ch;(conv=>whnf);refine A8.mk [7,65] (fun x:Nat×List Nd×Option Addr×Nat×List Nd=>match x with | (j,todo,a,c,Z)=>[.slice a todo.length c,C_ j])
      (fun x H10=>x.1≤(xs n).length∧∃lf,Nv g by_ AH lf x.2.1 n k (fun p=>p∈(xs n).take x.1)∧UT g by_ lf x.2.2.2.2∧x.2.1.length+1≤x.2.2.2.2.length∧2*(M-x.2.2.2.2.length)+x.2.1.length≤2*(M-Z.length)+todo.length∧
       St H H10 [pS tNd 238 a1 order.length c1 order,pMQ Nd.Ok r_ tNd 238 mb m1 xs,pMW Nd.Ok r_ lb (D9 lf),pQ tNd 238 x.2.2.1 x.2.1.length x.2.2.2.1 x.2.1,pB 238 p7 (c_ n)]) (fun x _=>(xs n).length-x.1) ?_ ?_
     ·(conv=>whnf);exact⟨(0,todo,a9,c9,Z),rfl,by simp,lf,by simpa using d4,B,ch,J_ _,U⟩
     ·rintro⟨j,V,ae,ah,O⟩ H10 bq ⟨hj,J,z,d,b4,b6,u⟩;simp only at hj z d b4 b6 u;have fo:=hg.card O d.nd d.rch;have⟨gf,fp,bz,d7⟩:=u.mqView 1 rfl n;rw[d5]at bz;injection bz with g1 g2 g3
      subst g1;subst g3;have b8:=((u.at_ 1 rfl).2.1 n).len;unfold maxLen at b8;refine Ag.m2 (fun cm=>?_) (fun cm=>?_)
      ·have⟨p,hp⟩:=Am (l:=xs n) (k:=j) (by omega);have⟨co,b,hb,ey⟩:=(d3 n p).1 (d_ hp);have c2:=hg.ok p co;have b9:∀x,x∈(xs n).take (j+1)↔x∈(xs n).take j∨x=p:=fun x=>by
        rw[Ai hp,q_,V_]
       refine Af.run (u_ (i:=j) Cf d7 hp rfl ?_);rintro gg gh fq ft d8 rfl;refine L_ (cs:=c_ p) d8 trivial (BV u (r_ AH) (c_ AH) CD rfl fun gi H11 P=>(AD (cs:=c_ p) P 5 rfl rfl (show 0+3≤3 by decide) rfl fun H12 A=>?_));rw[Ha]at A;have cp:=A.blk 5 rfl;have d9:=A.blk 4 rfl;refine L_ (cs:=c_ p) (cp.cells fun j v E=>by rw[P_];exact E) trivial ?_;refine HL (S:=fun _=>True) (a:=p) N4 Kv c2 (A.mapW 2 rfl) trivial ?_;cases bd:J p with
       | some l=>
         rw[show D9 J p=some (.int .i64 (l:Int)) by simp[D9,bd]];(conv=>whnf);rw[R_ j (by omega)];have cq:=z.skip (p:=p) (by rw[bd];rfl);refine⟨rfl,(j+1,V,ae,ah,O),by simp,⟨by simp only;omega,J,?_,d,b4,b6,A.pick [0,1,2,3,4] (by decide)⟩,by simp only;omega⟩;simp only[b9];exact cq
       | none=>
         rw[show D9 J p=none by simp[D9,bd]];have ai:=z.here;have fu:=d.le n k ai;refine Au.held (D_ H12) 6 (sq [0,1,2,3,4,5] (.f 6 .e)) rfl (by kernel_rfl) ?_;refine L_ (cs:=c_ p) (cp.cells fun j v E=>by rw[P_];exact E) cp.lt ?_;refine L_ (cs:=c_ n) (d9.cells fun j v E=>by rw[P_];exact E) d9.lt ?_;refine SH (a:=n) N4 Kv bx (A.mapW 2 rfl) (A.in_ 2 rfl rfl).2 ?_;rw[show(D9 J n).getD (.int .i64 0)= .int .i64 (k:Int) by simp[D9,ai]];(conv=>whnf);rw[R_ k (by omega)];refine IV (a:=p) A 2 N4 Kv c2 rfl (Q8 J p (k+1)) fun H13 am=>?_;have Q:=d.push bd co ai;have da:=hg.card _ Q.nd Q.rch;have cr:=z.push (left':=fun m=>if m=p then some (k+1)else J m) bd co hb ey fun m=>rfl;rw[Q_,k_]at da;have ez:=am.blk 5 rfl;refine L_ (cs:=c_ p) (ez.cells fun j v E=>by rw[P_];exact E) trivial ?_;refine Az Cf (c_ p) rfl rfl (by decide) (by decide) ?_;intro gj H14 db fw dc de;have a0:=am.skip db de;refine appQ (ys:=[p]) (ds:=c_ p) a0 3 Cf rfl (dc.cells fun j v E=>by rw[P_];exact E) (Ty.reps_one rfl) rfl (by simp[c_,Value.oneCell']) (by simp only[k_,maxLen];omega) (by simp only[k_];omega) fun a' c' H15 K _=>?_;(conv=>whnf);rw[R_ j (by omega)];refine⟨rfl,(j+1,V++[p],a',c',O++[p]),by simp,⟨by simp only;omega,_,?_,Q,by simp;omega,by simp;omega,?_⟩,by simp only;omega⟩
         ·simp only[b9];exact cr
         ·simp only[Q_,k_];exact K.pick [0,1,2,3,4] (by decide)
      ·obtain rfl:j=(xs n).length:=by omega
       rw[YaB]at z;have df:=z.end_ fun p b X Y h3=>(d3 n p).2 ⟨X,b,Y,h3⟩;(conv=>whnf);exact⟨rfl,(V,ae,ah,O),rfl,⟨J,k,df,d,by simp only;omega,u.pick [0,1,2,3] (by decide)⟩,by simp only[j_];omega⟩
    ·obtain rfl:todo=[]:=by
      cases todo with
      | nil=>rfl
      | cons x l=>simp at ci
     have hD:=hB.end_;refine Ah underlying238 rfl (r_ AH) CD (c_ AH) rfl (HL (S:=fun _=>True) (a:=AH) N4 Kv P8 (G.mapW 2 rfl) trivial ?_);cases I:lf AH with
     | none=>
       rw[show D9 lf AH=none by simp[D9,I]];(conv=>whnf);exact⟨G.old,[],false,rfl,⟨fun h=>(by cases h),fun _=>⟨rfl,hD.none aw I⟩⟩,l_ _⟩
     | some L=>
     rw[show D9 lf AH=some (.int .i64 (L:Int)) by simp[D9,I]];have hL:=B.le AH L I;refine Kx (Ok:=Nd.Ok) (enc:=r_) fun f1 H7 dg cj f2 au=>?_;have a8:=G.mapNewW dg cj f2 au;refine Ah underlying238 rfl (r_ AH) CD (c_ AH) rfl (IV (a:=AH) a8 4 N4 Kv P8 rfl (Q7 (fun _=>false) AH) fun H8 ab=>?_);have U:=(ab.pick [2,4] (by decide)).nils (DB .u8) 5;obtain⟨q0,dh⟩:∃q:Nd→Bool,q=fun m=>decide (m=AH)|| false:=⟨_,rfl⟩
     rw[←dh]at U;have ct:Pre g AH lf L L [] (fun n=>q0 n=true):=by
      have:=Pre.start (g:=g) (a:=AH) (lf:=lf) I;rw[dh];simpa using this
     (conv=>whnf);rw[n_ (x:=(L:Int)-1) (by omega)];(conv=>whnf);refine A8.mk [17,18,19] (fun x:Nat×List Nat×Option Addr×Nat×Nat×(Nd→Bool)=>match x with | (r,w,a,c,nb,q)=>[.map (some nb),.slice a w.length c,C_ ((r:Int)-1)])
      (fun x H9=>Pre g AH lf L x.1 x.2.1 (fun n=>x.2.2.2.2.2 n=true)∧St H H9 [pMW Nd.Ok r_ lb (D9 lf),pMW Nd.Ok r_ x.2.2.2.2.1 (I2 x.2.2.2.2.2),pS (DB .u8) 5 x.2.2.1 x.2.1.length x.2.2.2.1 (x.2.1.map fun(b:Nat)=>(b:Int))]) (fun x _=>x.1) ?_ ?_
     ·(conv=>whnf);exact⟨(L,[],none,0,f1,q0),rfl,ct,U⟩
     ·rintro⟨r,w,ae,ah,ao,a5⟩ H10 bq ⟨R,u⟩;simp only at R u;have gk:=R.len;refine Ag.m2 (fun cm=>?_) (fun cm=>?_)
      ·obtain⟨k,rfl⟩:∃k,r=k+1:=⟨r-1,by omega⟩;rw[show((k+1:Nat):Int)-1=(k:Int) by omega];(conv=>whnf);refine Af.cut [17,18] (fun x:List Nat×Option Addr×Nat×Nat×(Nd→Bool)=>match x with | (w,a,c,nb,q)=>[.map (some nb),.slice a w.length c])
        (fun x H11=>Pre g AH lf L k x.1 (fun n=>x.2.2.2.2 n=true)∧St H H11 [pMW Nd.Ok r_ lb (D9 lf),pMW Nd.Ok r_ x.2.2.2.1 (I2 x.2.2.2.2),pS (DB .u8) 5 x.2.1 x.1.length x.2.2.1 (x.1.map fun(b:Nat)=>(b:Int))]) ?_ ?_
       ·have di:=az.agr (u.old.mono hS) ay;refine fa ?_;refine lT (di.cellE rfl) ?_;(conv=>whnf);refine A8.mk [17,18,110] (fun j:Nat=>[.map (some ao),.slice ae w.length ah,C_ j])
         (fun j H11=>j≤by_.length∧(∀c∈by_.take j,∀t,¬(Dh g (fun n=>a5 n=true) c t∧lf t=some k))∧St H H11 [pMW Nd.Ok r_ lb (D9 lf),pMW Nd.Ok r_ ao (I2 a5),pS (DB .u8) 5 ae w.length ah (w.map fun(b:Nat)=>(b:Int))]) (fun j _=>by_.length-j) ?_ ?_
        ·(conv=>whnf);exact⟨0,rfl,l_ _,by simp,u⟩
        ·rintro j H11 br ⟨hj,bu,P⟩;refine Ag.m2 (fun f3=>?_) (fun f3=>?_)
         ·have⟨b,hb⟩:=Am (l:=by_) (k:=j) (by omega);have aj:=d_ hb;have f4:=hg.byl b aj;refine F4 (i:=j) (x:=(b:Int)) Jd (hby.frame (P.old.mono hS)) (by simp) (by rw[t_,hb];rfl) rfl ?_;rintro gl gm fx fy dj ⟨rfl,-⟩;refine B_ dj.one trivial (Kx (Ok:=Nd.Ok) (enc:=r_) fun tb H12 cu dk dl dm=>?_);have A:=P.mapNewW cu dk dl dm;refine Ur A 1 N4 rfl fun rr n0 H13 am=>?_;(conv=>whnf);refine A8.mk [] (fun x:Nat×(Nd→Prop)×Option Nd×(Nd→Bool)=>[])
           (fun x H14=>(∀t,x.2.2.2 t=true↔∃n,x.2.1 n∧a5 n=true∧t∈g.next n b∧lf t=some k)∧
            St H H14 [pMW Nd.Ok r_ lb (D9 lf),pIW Nd.Ok r_ ao rr (I2 a5) x.2.1 x.2.2.1 x.1,pS (DB .u8) 5 ae w.length ah (w.map fun(b:Nat)=>(b:Int)),pMW Nd.Ok r_ tb (I2 x.2.2.2)]) (fun x _=>x.1) ?_ ?_
          ·(conv=>whnf);exact⟨(n0,fun _=>False,none,fun _=>false),rfl,by simp,am⟩
          ·rintro⟨cnt,D,last,qt⟩ H14 e5 ⟨cw,a0⟩;simp only at cw a0;refine XA a0 1 Pp rfl (fun dp=>?_) fun n f5 H15 be ak gp W K=>?_
           ·have K:=a0.iterEnd 1 rfl;have hQ:∀t,qt t=true↔Dh g (fun n=>a5 n=true) b t∧lf t=some k:=fun t=>by
             rw[cw];constructor
             ·rintro⟨n,-,X,Y,h3⟩;exact⟨⟨n,X,Y⟩,h3⟩
             ·rintro⟨⟨n,X,Y⟩,h3⟩;exact⟨n,dp n (NK.2 X),X,Y,h3⟩
            refine mlen (S:=fun _=>True) N4 (K.mapW 3 rfl) trivial fun c hc=>?_;by_cases bv:∃t,qt t=true
            ·have dq:c≠0:=fun h=>by
              have⟨t,ht⟩:=bv;have:=NJ.1 (hc.1 h t);rw[ht]at this;cases this
             have d1:decide ((0:Int)<(c:Int))=true:=s_;have cx:=R.step aw hD hg.byl c8 hb hQ bv bu;(conv=>whnf);rw[d1];refine Az Jd [.int .u8 (b:Int)] rfl rfl (by decide) (by decide) ?_;intro gq H16 dr fz dt du;have bf:=K.skip dr du;refine OC (ys:=[(b:Int)]) (ds:=[.int .u8 (b:Int)]) bf 2 Jd rfl (dt.cells fun j v E=>by rw[P_];exact E) (Ty.reps_one ⟨rfl,Lo f4⟩) rfl (by simp[Value.oneCell']) (by simp only[k_,Z_,maxLen];omega) (by simp only[k_,Z_];omega) fun a' c' H17 F _=>?_;(conv=>whnf);simp only[Z_,k_]at F;refine⟨rfl,(w++[b],a',c',tb,qt),by simp,cx,?_⟩;simp only[Q_,k_,Ybk,YaQ,List.map_nil];exact F.pick [0,3,2] (by decide)
            ·have dq:c=0:=hc.2 fun t=>by
              refine NJ.2 ?_;cases h:qt t with
              | false=>rfl
              | true=>exact absurd ⟨t,h⟩ bv
             subst dq;(conv=>whnf);rw[R_ j (by omega)];refine⟨rfl,j+1,rfl,⟨by omega,fun c hc t ht=>?_,K.pick [0,1,2] (by decide)⟩,by omega⟩;rw[Ai hb,q_,V_]at hc;rcases hc with hc | rfl
             ·exact bu c hc t ht
             ·exact bv ⟨t,(hQ t).2 ht⟩
           ·have cy:a5 n=true:=NK.1 (by rw[ak];rfl);have f6:=R.all n cy;obtain⟨a7,-⟩:=hD.word n _ f6;have dv:f5= .int .i64 1:=by
             unfold I2 at ak;rw[cy,I_ rfl]at ak;injection ak with ak
             exact ak.symm
            subst dv;refine AcR (K.iterW 1 rfl) Pp ak (BV K (r_ AH) (c_ AH) CD rfl fun gr H16 bf=>(AD (cs:=c_ n) bf 4 rfl rfl (show 0+3≤3 by decide) rfl fun H17 F=>?_));rw[Ha]at F;have dw:=F.blk 4 rfl;refine Au.held (D_ H17) 99 (sq [0,1,2,3,4,5,8] (.f 6 (sq [7] .e))) rfl (by kernel_rfl) ?_;have f7:=az.agr (F.old.mono hS) ay;refine fa ?_;refine B_ (f7.cellE rfl) (F.up (hS pg ay)) ?_;refine L_ (cs:=c_ n) (dw.cells fun j v E=>by rw[P_];exact E) dw.lt ?_;refine Aj.mk (cb H17 (F.old.mono hS) n b a7 aj) ?_;rintro _ H18 ⟨c3,bw⟩;refine⟨c3,?_⟩;obtain⟨f8,f9,rfl,c5⟩:=F.got c3 bw;have b8:=c5.max 5 rfl;unfold maxLen at b8;have fd:∀t,t∈g.next n b→t.Ok:=fun t ht=>hg.ok t (a7.step aj ht)
            have cz:∀t,(∃m,(D m∨m=n)∧a5 m=true∧t∈g.next m b∧lf t=some k)↔qt t=true∨(t∈g.next n b∧lf t=some k):=fun t=>by
             rw[cw];constructor
             ·rintro⟨m,X | rfl,Y,h3,h4⟩
              ·exact .inl ⟨m,X,Y,h3,h4⟩
              ·exact .inr ⟨h3,h4⟩
             ·rintro(⟨m,X,Y,h3,h4⟩ | ⟨h3,h4⟩)
              ·exact⟨m,.inl X,Y,h3,h4⟩
              ·exact⟨n,.inr rfl,cy,h3,h4⟩
            generalize g.next n b=ls at*
            (conv=>whnf);refine A8.mk [129] (fun x:Nat×(Nd→Bool)=>match x with | (j,q)=>[C_ j])
             (fun x H19=>x.1≤ls.length∧(∀t,x.2 t=true↔qt t=true∨(t∈ls.take x.1∧lf t=some k))∧
              St H H19 [pMW Nd.Ok r_ lb (D9 lf),pIW Nd.Ok r_ ao rr (I2 a5) (fun x=>D x∨x=n) (some n) be,pS (DB .u8) 5 ae w.length ah (w.map fun(b:Nat)=>(b:Int)),pMW Nd.Ok r_ tb (I2 x.2),pS tNd 238 f8 ls.length f9 ls]) (fun x _=>ls.length-x.1) ?_ ?_
            ·(conv=>whnf);exact⟨(0,qt),rfl,by simp,by simp,c5.pick [0,1,2,3,5] (by decide)⟩
            ·rintro⟨l,qu⟩ H19 e6 ⟨hl,bh,ap⟩;simp only at hl bh ap;refine Ag.m2 (fun fe=>?_) (fun fe=>?_)
             ·have⟨t,ht⟩:=Am (l:=ls) (k:=l) (by omega);have c7:=fd t (d_ ht);have b9:∀x,x∈ls.take (l+1)↔x∈ls.take l∨x=t:=fun x=>by
               rw[Ai ht,q_,V_]
              refine Af.run (ixO (j:=l) Cf ap 4 rfl ht rfl fun gu gv g4 g5 dx dy=>?_);obtain rfl:=dy;refine L_ (cs:=c_ t) dx trivial (BV ap (r_ AH) (c_ AH) CD rfl fun gw H20 dz=>(AD (cs:=c_ t) dz 5 rfl rfl (show 0+3≤3 by decide) rfl fun H21 T=>?_));rw[Ha]at T;have e1:=T.blk 5 rfl;refine L_ (cs:=c_ t) (e1.cells fun j v E=>by rw[P_];exact E) trivial ?_;refine HL (S:=fun _=>True) (a:=t) N4 Kv c7 (T.mapW 0 rfl) trivial ?_;have skip:lf t≠some k→∀t',qu t'=true↔qt t'=true∨(t'∈ls.take (l+1)∧lf t'=some k):=fun W t'=>by
               rw[bh,b9];constructor
               ·rintro(h | ⟨X,Y⟩)
                ·exact .inl h
                ·exact .inr ⟨.inl X,Y⟩
               ·rintro(h | ⟨X | rfl,Y⟩)
                ·exact .inl h
                ·exact .inr ⟨X,Y⟩
                ·exact absurd Y W
              cases W:lf t with
              | none=>
                rw[show D9 lf t=none by simp[D9,W]];(conv=>whnf);rw[R_ l (by omega)];exact⟨rfl,(l+1,qu),rfl,⟨by simp only;omega,skip (by rw[W];simp),T.pick [0,1,2,3,4] (by decide)⟩,by simp only;omega⟩
              | some l'=>
                rw[show D9 lf t=some (.int .i64 (l':Int)) by simp[D9,W]];by_cases bp:l'=k
                ·subst bp;have d2:((l':Int)==(l':Int))=true:=beq_self_eq_true _;(conv=>whnf);rw[d2];refine L_ (cs:=c_ t) (e1.cells fun j v E=>by rw[P_];exact E) trivial ?_;refine IV (a:=t) T 3 N4 Kv c7 rfl (Q7 qu t) fun H22 e3=>?_;(conv=>whnf);rw[R_ l (by omega)];refine⟨rfl,(l+1,fun m=>decide (m=t)|| qu m),rfl,⟨by simp only;omega,fun t'=>?_,e3.pick [0,1,2,3,4] (by decide)⟩,by simp only;omega⟩;simp only[Bool.or_eq_true,Zzj];rw[bh,b9];constructor
                 ·rintro(rfl | h | ⟨X,Y⟩)
                  ·exact .inr ⟨.inr rfl,W⟩
                  ·exact .inl h
                  ·exact .inr ⟨.inl X,Y⟩
                 ·rintro(h | ⟨X | rfl,Y⟩)
                  ·exact .inr (.inl h)
                  ·exact .inr (.inr ⟨X,Y⟩)
                  ·exact .inl rfl
                ·have d2:((l':Int)==(k:Int))=false:=beq_eq_false_iff_ne.2 (by omega);(conv=>whnf);rw[d2];(conv=>whnf);rw[R_ l (by omega)];exact⟨rfl,(l+1,qu),rfl,⟨by simp only;omega,skip (by rw[W];intro h;injection h with h;exact bp h),T.pick [0,1,2,3,4] (by decide)⟩,by simp only;omega⟩
             ·obtain rfl:l=ls.length:=by omega
              rw[YaB]at bh;(conv=>whnf);refine⟨rfl,(be,fun x=>D x∨x=n,some n,qu),rfl,⟨fun t=>?_,ap.pick [0,1,2,3] (by decide)⟩,W⟩;rw[cz,bh]
         ·obtain rfl:j=by_.length:=by omega
          rw[YaB]at bu;have⟨b,hb,t,ht⟩:=R.some hD;exact absurd ht (bu b hb t)
       ·rintro⟨fg,fh,fj,e4,fk⟩ H11 br ⟨aq,P⟩;simp only at aq P;(conv=>whnf);rw[n_ (x:=(k:Int)-1) (by omega)];exact⟨rfl,(k,fg,fh,fj,e4,fk),rfl,⟨aq,P⟩,by simp only;omega⟩
      ·obtain rfl:r=0:=by omega
       refine PW w u 2 rfl rfl rfl rfl ?_;(conv=>whnf);exact⟨u.old,w,true,rfl,⟨fun _=>hD.first aw I (R.done hD),fun h=>(by cases h)⟩,by omega⟩
section
attribute [local irreducible] AN Bb AY
theorem XH:∀(n:Nat) (l:List Nat),l.Nodup→(∀x∈l,x<n)→l.length≤n
 | 0,l,_,h=>by
   cases l with
   | nil=>exact J_ _
   | cons x l=>exact absurd (h x YbZ) (Nat.not_lt_zero _)
 | n+1,l,hd,h=>by
   have j:=XH n (l.filter fun x=>decide (x<n)) (hd.filter _) (fun x b=>by simpa using(YbV.1 b).2);have k:(l.filter fun x=> !decide (x<n)).length≤1:=by
    have a:(l.filter fun x=> !decide (x<n)).Nodup:=hd.filter _;have c:∀x∈l.filter (fun x=> !decide (x<n)),x=n:=fun x b=>by
     have⟨d,e⟩:=YbV.1 b;have:=h x d;simp at e;omega
    generalize l.filter (fun x=> !decide (x<n))=m at a c
    match m,a,c with
    | [],_,_=>simp
    | [_],_,_=>simp
    | x::y::r,a,c=>
      have f:=c x (by simp);have e2:=c y (by simp);rw[f,e2]at a;simp at a
   have g:∀m:List Nat,(m.filter fun x=>decide (x<n)).length+(m.filter fun x=> !decide (x<n)).length=m.length:=fun m=>by
    induction m with
    | nil=>rfl
    | cons x m p=>by_cases b:x<n<;>simp[List.filter_cons,b]<;>omega
   have:=g l;omega
theorem Ab6{α:Type}{f:α→Nat}{l:List α}(a:l.Nodup)(hi:∀x∈l,∀y∈l,f x=f y→x=y):(l.map f).Nodup:=by
 unfold List.Nodup;rw[List.pairwise_map];exact(List.Pairwise.and_mem.1 a).imp fun{x y} ⟨b,c,d⟩ e=>d (hi x b y c e)
def inA(o:Option AM)(q:Int):Prop:=0≤q∧q<e_ o
structure Dx(o:Option AM):Prop where
 n1:1≤e_ o
 n2:e_ o≤65536
 step:∀q b,inA o q→b<256→inA o (Ar o q b)
theorem Dx.zero{o:Option AM}(h:Dx o):inA o 0:=⟨Int.le_refl _,by have:=h.n1;omega⟩
theorem VW{S:Nat→Prop}{H:Aa}{v:v_}{o:Option AM}(h:Bc S H v o){q b:Nat}(c:q<e_ o)(e:b<256):0≤Ar o (q:Int) b∧Ar o (q:Int) b<e_ o:=by
 cases o with
 | none=>
   have:q=0:=by simp only[e_]at c;omega
   subst this;decide+revert
 | some A=>
   obtain⟨pb,rfl,d,a,_⟩:=h;exact Lf a (by omega) (by simp only[e_]at c;omega) e
theorem Bc.steps{S:Nat→Prop}{H:Aa}{v:v_}{o:Option AM}(h:Bc S H v o):Dx o:=
 ⟨(Ng h).1,(Ng h).2,fun q b a c=>by
   obtain⟨n,rfl⟩:=Yav a.1;exact VW h (by have:=a.2;omega) c⟩
theorem Y5{o:Option AM}{g:List Nat}(h:EL o g){r c:Nat}(j:r<256)(b:c<256)(hs:∀s∈CB o,s.getLsbD r=s.getLsbD c)(q:Int):Ar o q r=Ar o q c:=by
 by_cases d:q<0∨(e_ o:Int)≤q
 ·unfold Ar;rw[I_ d,I_ d]
 ·obtain⟨k,s,a,e,-⟩:=h.part c b;obtain⟨l,f,-⟩:=h.least k s a;have m:=(h.keeps k s l c a f b e).2 q (by omega) (by omega);have e2:=(h.keeps k s l r a f j (by rw[hs s (d_ a)];exact e)).2 q (by omega) (by omega);rw[m,e2]
theorem Ua{g:Gr}{by_:List Nat}{M C:Nat}(R:Nd→Prop)(f:Nd→Nat)(A:R AH)(c:∀n b t,R n→b<256→t∈g.next n b→R t)(k:∀n,R n→n.Ok)(B:∀n,R n→f n<M)(hi:∀n m,R n→R m→f n=f m→n=m)
  (d:∀n b,(g.next n b).length≤C) (c0:1≤C) (p:C*(256*M)≤5864062014805) (z:∀b∈by_,b<256) (q:by_.length≤256):Jl g by_ M C:=by
 have j:∀n,BJ g by_ AH n→R n:=fun n h=>by
  induction h with
  | refl=>exact A
  | step H r D E=>exact c _ _ _ E (z _ r) D
 refine⟨z,q,fun n u=>k n (j n u),fun l F a=>?_,fun n b t _ _=>YbC List.count_le_length (d n b),c0,p⟩;rw[←Z_ (f:=f)];refine XH M _ (Ab6 F fun x w y G e=>hi x y (j x (a x w)) (j y (a y G)) e) fun x w=>?_;obtain⟨n,u,rfl⟩:=Ycp.1 w;exact B n (j n (a n u))
structure InR(K:Nat)(n:Nd):Prop where
 s0:0≤n.s
 s1:n.s≤K
 x0:0≤n.x
 x1:n.x<65536
 y0:0≤n.y
 y1:n.y<65536
 z:n.s=0→n.y=0
def Mk(n:Nd):Nat:=if n.s=0 then n.x.toNat else 65536+(n.s.toNat-1)*4294967296+n.x.toNat*65536+n.y.toNat
theorem InR.ok{K:Nat}{n:Nd}(a:K≤2)(h:InR K n):n.Ok:=by
 have⟨b,c,d,e,f,g,j⟩:=h;refine⟨?_,?_,?_⟩<;>unfold inK<;>simp only[IntKind.min,IntKind.max,IntKind.signed,IntKind.bits]<;>constructor<;>simp<;>omega
theorem TL{K:Nat}{n:Nd}(h:InR K n):Mk n<65536+K*4294967296:=by
 have⟨a,b,c,d,e,f,g⟩:=h;unfold Mk;split
 ·omega
 ·have:(n.s.toNat-1)+1≤K:=by omega
  have:=Ybv 4294967296 this;omega
theorem Qz{K:Nat}{n m:Nd}(h:InR K n)(k:InR K m)(e:Mk n=Mk m):n=m:=by
 obtain⟨l,p,q,r,t,u,b⟩:=h;obtain⟨w,z,A,B,C,D,c⟩:=k;obtain⟨s,x,y⟩:=n;obtain⟨d,f,g⟩:=m;simp only at*;unfold Mk at e;simp only at e;have a:s=d∧x=f∧y=g:=by
  split at e<;>split at e
  ·rename_i j e2;exact⟨by omega,by omega,by rw[b j,c e2]⟩
  ·omega
  ·omega
  ·refine⟨by omega,by omega,by omega⟩
 obtain⟨rfl,rfl,rfl⟩:=a;rfl
section
variable{a b:Option AM}
def Wg(a b:Option AM)(n:Nd):Prop:=(n.s=0∧inA a n.x∧n.y=0)∨(n.s=1∧inA b n.x∧inA a n.y)∨(n.s=2∧inA b n.x∧inA b n.y)
theorem Wg.inR(g:Dx a)(j:Dx b){n:Nd}(h:Wg a b n):InR 2 n:=by
 have:=g.n2;have:=j.n2;rcases h with⟨c,⟨d,e⟩,f⟩ | ⟨c,⟨d,e⟩,f,k⟩ | ⟨c,⟨d,e⟩,f,k⟩<;>constructor<;>omega
theorem WB(k:Dx a)(e:Dx b):∀n c t,Wg a b n→c<256→t∈(E9 a b).next n c→Wg a b t:=by
 rintro⟨s,x,y⟩ c t h d l;rcases h with⟨j,f,g⟩ | ⟨j,f,g⟩ | ⟨j,f,g⟩<;>simp only at j f g<;>subst j
 ·subst g;rcases Gh.1 l with rfl | ⟨-,rfl⟩
  ·exact .inl ⟨rfl,k.step _ _ f d,rfl⟩
  ·exact .inr (.inl ⟨rfl,e.step _ _ e.zero d,k.step _ _ f d⟩)
 ·rcases Gi.1 l with rfl | ⟨-,rfl⟩
  ·exact .inr (.inl ⟨rfl,e.step _ _ f d,k.step _ _ g d⟩)
  ·exact .inr (.inr ⟨rfl,e.step _ _ f d,e.step _ _ e.zero d⟩)
 ·obtain rfl:=Ij.1 l;exact .inr (.inr ⟨rfl,e.step _ _ f d,e.step _ _ g d⟩)
theorem Zy(n:Nd)(c:Nat):((E9 a b).next n c).length≤2:=by
 show(B8 a b n c).length≤2;unfold B8;split
 ·split<;>simp
 ·split
  ·split<;>simp
  ·simp
theorem Zx{n:Nd}{r c:Nat}(d:∀q,Ar a q r=Ar a q c)(e:∀q,Ar b q r=Ar b q c):(E9 a b).next n r=(E9 a b).next n c:=by
 show B8 a b n r=B8 a b n c;unfold B8;simp only[d,e]
theorem AdN(c:Dx a)(d:Dx b){by_:List Nat}(f:∀b∈by_,b<256)(g:by_.length≤256):Jl (E9 a b) by_ (65536+2*4294967296) 2:=
 Ua (Wg a b) Mk (.inl ⟨rfl,c.zero,rfl⟩) (WB c d) (fun n h=>(h.inR c d).ok (by decide)) (fun n h=>TL (h.inR c d)) (fun n m h k e=>Qz (h.inR c d) (k.inR c d) e) Zy (by decide) (by decide) f g
def Qg(a:Option AM)(n:Nd):Prop:=(n.s=0∧inA a n.x∧n.y=0)∨(n.s=1∧inA a n.x∧inA a n.y)
theorem Qg.inR(b:Dx a){n:Nd}(h:Qg a n):InR 1 n:=by
 have:=b.n2;rcases h with⟨c,⟨d,e⟩,f⟩ | ⟨c,⟨d,e⟩,f,g⟩<;>constructor<;>omega
theorem QX(b:Dx a){q t:Int}{c:Nat}(e:inA a q)(d:c<256)(h:t∈CL a q c):inA a t:=by
 rcases Oc.1 h with rfl | ⟨-,rfl⟩
 ·exact b.step _ _ e d
 ·exact b.step _ _ b.zero d
theorem Vo(b:Dx a):∀n c t,Qg a n→c<256→t∈(EH a).next n c→Qg a t:=by
 rintro⟨s,x,y⟩ c t h d j;rcases h with⟨g,e,f⟩ | ⟨g,e,f⟩<;>simp only at g e f<;>subst g
 ·subst f;rcases M2.1 j with rfl | ⟨-,rfl⟩
  ·exact .inl ⟨rfl,b.step _ _ e d,rfl⟩
  ·exact .inr ⟨rfl,b.step _ _ b.zero d,b.step _ _ e d⟩
 ·obtain⟨p,k,q,l,rfl⟩:=M3.1 j;exact .inr ⟨rfl,QX b e d k,QX b f d l⟩
theorem Iq(q:Int)(c:Nat):(CL a q c).length≤2:=by
 unfold CL;split<;>simp
theorem Xu(n:Nd)(c:Nat):((EH a).next n c).length≤4:=by
 show(Bv a n c).length≤4;unfold Bv;split
 ·split<;>simp
 ·have d:=Iq (a:=a) n.y c;have b:=Iq (a:=a) n.x c;rw[List.length_flatMap];simp only[Z_];generalize CL a n.y c=ys at*;generalize CL a n.x c=xs at*
  match xs,b with
  | [],_=>simp
  | [_],_=>simp;omega
  | [_,_],_=>simp;omega
theorem Xt{n:Nd}{r c:Nat}(b:∀q,Ar a q r=Ar a q c):(EH a).next n r=(EH a).next n c:=by
 show Bv a n r=Bv a n c;unfold Bv CL;simp only[b]
theorem Aa7(c:Dx a){by_:List Nat}(d:∀b∈by_,b<256)(f:by_.length≤256):Jl (EH a) by_ (65536+1*4294967296) 4:=
 Ua (Qg a) Mk (.inl ⟨rfl,c.zero,rfl⟩) (Vo c) (fun n h=>(h.inR c).ok (by decide)) (fun n h=>TL (h.inR c)) (fun n m h k e=>Qz (h.inR c) (k.inR c) e) Xu (by decide) (by decide) d f
end
theorem On{os:List (Option AM)}(j:∀o∈os,∃e,EL o e){sets:List (BitVec 256)}(hs:∀o∈os,∀s∈CB o,s∈sets):∀c,c<256→∃r∈De sets,r≤c∧∀o∈os,∀q,Ar o q r=Ar o q c:=fun c a=>by
 have⟨r,f,d,b⟩:=Yj sets a;refine⟨r,f,d,fun o g q=>?_⟩;have⟨e,h⟩:=j o g;exact Y5 h (P6 sets r f) a (fun s h=>b s (hs o g s h)) q
theorem Oq(sets:List (BitVec 256)):(De sets).length≤256:=by
 have:=reps_len sets;unfold De;rw[Z_];exact this
theorem AB(w:List Nat):(bA w).size=w.length:=by unfold bA;simp[ByteArray.size]
theorem F9(w:List Nat):(bA w).data.toList=w.map UInt8.ofNat:=by unfold bA;simp
theorem RX(w:List Nat)(i j:Nat):(bA w).extract i j=bA ((w.take j).drop i):=by
 apply Ds;rw[ByteArray.data_extract,Array.toList_extract,F9,F9,List.extract_eq_take_drop,List.map_drop,List.map_take,List.drop_take]
theorem Zr(w:List Nat)(i:Nat):(bA w).extract 0 i=bA (w.take i):=by rw[RX];rfl
theorem Zq(w:List Nat)(i:Nat):(bA w).extract i (bA w).size=bA (w.drop i):=by rw[RX,AB,YaB]
theorem LW{o:Option AM}{w:List Nat}(h:A9 w):Bs o (bA w)=accL o w:=by
 unfold Bs accL HP Hu;rw[AB,F9,Ycy (by simp),List.foldl_map]
 congr 1
 have:∀(w:List Nat) (q:Int),A9 w→w.foldl (fun q b=>Ar o q (UInt8.ofNat b).toNat) q=w.foldl (fun q b=>Ar o q b) q:=fun w=>by
  induction w with
  | nil=>intro q _;rfl
  | cons c w f=>
    intro q a;have g:=a c YbZ;have e:(UInt8.ofNat c).toNat=c:=by simp;omega
    rw[Ycf,Ycf,e];exact f _ fun d hd=>a d (YbX _ hd)
 exact this w 0 h
theorem Mf{w:List Nat}(h:A9 w)(i:Nat):A9 (w.take i):=fun b a=>h b (YcP a)
theorem Se{w:List Nat}(h:A9 w)(i:Nat):A9 (w.drop i):=fun b a=>h b (List.mem_of_mem_drop a)
def unB(s:ByteArray):List Nat:=s.data.toList.map UInt8.toNat
theorem Ef(s:ByteArray):A9 (unB s):=fun b a=>by
 obtain⟨x,-,rfl⟩:=Ycp.1 a;exact UInt8.toNat_lt x
theorem Wv(s:ByteArray):bA (unB s)=s:=by
 apply Ds;rw[F9];unfold unB;rw[List.map_map]
 conv=>rhs;rw[←List.map_id s.data.toList]
 apply Ycq;intro x _;simp
theorem Ts{w:List Nat}(h:A9 w):unB (bA w)=w:=by
 unfold unB;rw[F9,List.map_map]
 conv=>rhs;rw[←List.map_id w]
 apply Ycq;intro x a;have:=h x a;simp;omega
def Fb(a b:Option AM)(s:ByteArray)(i:Nat):Bool:=Bs a (s.extract 0 i)&&Bs b (s.extract i s.size)
theorem ON{a b:Option AM}{w:List Nat}(h:A9 w)(i:Nat):Fb a b (bA w) i=true↔US a b w 0 i:=by
 unfold Fb;rw[Zr,Zq,LW (Mf h i),LW (Se h i),h_];rfl
def LN(a b:Option AM)(t:ByteArray)(i j:Nat)(ok:Bool):Prop:=
 (ok=true→∃w,t=bA w∧Dv (E9 a b) (·=AH) w∧i<j∧j≤w.length∧Fb a b t i=true∧Fb a b t j=true∧(∀k,k<i→Fb a b t k=false)∧∀k,i<k→k<j→Fb a b t k=false)∧
 (ok=false→t=⟨#[]⟩∧i=0∧j=0∧∀u,A9 u→¬CR (E9 a b) (·=AH) u)
theorem Dv.leads{g:Gr}{w:List Nat}(h:Dv g (·=AH) w):Dl g w AH:=by
 obtain⟨n,rfl,a⟩:=h.1.2.2.1;exact a
theorem Dv.bytes{g:Gr}{w:List Nat}(h:Dv g (·=AH) w):A9 w:=h.1.2.1
theorem M6{f:Nat→Bool}{l i:Nat}(a:l≤i)(h:f i=true):∃r,l≤r∧r≤i∧f r=true∧∀k,l≤k→k<r→f k=false:=by
 have b:∀d l,i-l=d→l≤i→∃r,l≤r∧r≤i∧f r=true∧∀k,l≤k→k<r→f k=false:=fun d=>by
  induction d with
  | zero=>
    intro l hd a;obtain rfl:l=i:=by omega
    exact⟨l,J_ _,J_ _,h,fun k e c=>by omega⟩
  | succ d j=>
    intro l hd a;by_cases g:f l=true
    ·exact⟨l,J_ _,a,g,fun k e c=>by omega⟩
    ·have⟨r,e,c,m,n⟩:=j (l+1) (by omega) (by omega);refine⟨r,by omega,c,m,fun k t p=>?_⟩;by_cases q:k=l
     ·subst q;simpa using g
     ·exact n k (by omega) p
 exact b _ l rfl a
theorem YH{a b:Option AM}{w:List Nat}(g:A9 w)(h:Dl (E9 a b) w AH):∃i j,i<j∧j≤w.length∧Fb a b (bA w) i=true∧Fb a b (bA w) j=true∧(∀k,k<i→Fb a b (bA w) k=false)∧∀k,i<k→k<j→Fb a b (bA w) k=false:=by
 have⟨i,j,n,m,p,q⟩:=(Mg a b w).1 h;obtain⟨r,-,y,t,d⟩:=M6 (f:=Fb a b (bA w)) (l:=0) (l_ i) ((ON g i).2 p);have⟨s,hs,u,e,c⟩:=M6 (f:=Fb a b (bA w)) (l:=r+1) (i:=j) (by omega) ((ON g j).2 q);exact⟨r,s,by omega,by omega,t,e,fun k x=>d k (l_ _) x,fun k n m=>c k (by omega) m⟩
structure Hz(S:Nat→Prop)(H:Aa)(p:Nat)(o:Option AM):Prop where
 out:∃v,S p∧K_ H p 67 [v]∧Bc S H v o
theorem Hz.frame{S:Nat→Prop}{H H':Aa}{p:Nat}{o:Option AM}(h:Hz S H p o)(k:A_ S H H'):Hz S H' p o:=by
 have⟨v,a,b,c⟩:=h;exact⟨v,a,b.agr k a,c.frame k⟩
theorem Hz.ld{S S':Nat→Prop}{H:Aa}{p:Nat}{o:Option AM}{K:v_→Prop}(h:Hz S H p o)(a:∀k,S k→S' k)(k:∀v,Bc S H v o→K v):A7 prog (Instr.loadAt 67 (H_ p)) S' H K:=by
 have⟨v,b,c,d⟩:=h;exact B_ (c.cellE rfl) (a p b) (k v d)
theorem AaQ{H:Aa}{p:Nat}{n:Nd}(h:K_ H p 238 (c_ n)):YtdopnglgekglgaaGreatDoor.cell H p (0+0)=some (.int .i64 n.s):=by rw[h.cell];rfl
theorem Ky{H:Aa}{p:Nat}{n:Nd}(h:K_ H p 238 (c_ n)):YtdopnglgekglgaaGreatDoor.cell H p (0+1)=some (.int .i64 n.x):=by rw[h.cell];rfl
theorem SK{H:Aa}{p:Nat}{n:Nd}(h:K_ H p 238 (c_ n)):YtdopnglgekglgaaGreatDoor.cell H p (0+2)=some (.int .i64 n.y):=by rw[h.cell];rfl
theorem Ps(H:Aa)(t:Nd):tNd.reps none_ H (c_ t) [t]:=Ty.reps_one rfl
theorem Pr{H H1 H':Aa}{q:Nat}{t:Nd}{ps:List Pc}(a:St H H1 ps)(b:q=H1.size)(hs:H'.size=q+1)(c:K_ H' q 238 (c_ t))(d:A_ (fun k=>k<q) H1 H'):St H H' (ps++[pS tNd 238 (b_ q) 1 1 [t]]):=
 a.new (T:=tNd) (n:=1) (xs:=[t]) b hs c d (Ty.reps_one rfl) rfl (by decide)
theorem AdK{S:Nat→Prop}{H:Aa}{pa pb:Nat}{a b:Option AM}(D:∀k,S k→k<H.size)(ha:Hz S H pa a)(hb:Hz S H pb b)(n:Nd){c:Nat}(N:c<256):
  Al prog 123 #[r_ n,.int .u8 (c:Int),H_ pa,H_ pb] H fun v H'=>A_ (D_ H) H H'∧M_ tNd none_ H' H.size 238 v (B8 a b n c):=by
 refine Al.of_vc func123 rfl (call123 _) ?_;have g:∀{H':Aa} {ps:List Pc},St H H' ps→∀k,S k→k<H'.size:=fun st k d=>st.up (D k d);refine BL (St.nil H) (c_ n) rfl fun p1 H1 st1=>?_;have M:=st1.blk 0 rfl;refine fa ?_;refine lT (AaQ M) ?_;by_cases R:n.s=0
 ·have d0:(n.s==0)=true:=by rw[R];rfl
  (conv=>whnf);rw[d0];refine(ha.frame (st1.old.mono D)).ld (fun _ _=>trivial) fun va E=>(fa ?_);refine B_ (Ky M) trivial (Ak (Cx (g st1) E N) fun H2 p=>?_);have w:=st1.call p;refine Ah underlying238 rfl (r_ AH) CD (c_ ⟨0,Ar a n.x c,0⟩) rfl (Az Cf (c_ ⟨0,Ar a n.x c,0⟩) rfl rfl (by decide) (by decide) ?_);intro q3 H3 a8 a9 ab z;have A:=Pr w a8 a9 ab z;have r3:=A.blk 0 rfl;refine Af.run ((ha.frame (A.old.mono D)).ld (fun _ _=>trivial) fun aq a0=>(fa ?_));refine B_ (Ky r3) trivial (Ak (BU a0) fun H4 B=>?_);have l:=A.call B;cases hf:AG a n.x with
  | false=>
    (conv=>whnf);refine⟨l.old,?_⟩;have:=St.own l 1 rfl;unfold B8;rw[I_ R,hf];exact this
  | true=>
    have r4:=l.blk 0 rfl;have t:∀k,S k→k<H4.size∧¬N_ (.slice (b_ q3) 1 1) k:=fun k d=>⟨g l k d,fun h=>(l.in_ 1 rfl (.inl h)).1 (D k d)⟩;have T:=l.apart (i:=0) (j:=1) (by decide) rfl rfl;have ad:p1<H4.size∧¬N_ (.slice (b_ q3) 1 1) p1:=⟨r4.lt,fun h=>T p1 rfl (.inl h)⟩;refine Au.held (fun k=>k<H4.size∧¬N_ (.slice (b_ q3) 1 1) k) 12 (sq [0,1,2,4,5,6,7] (.f 3 (.f 8 (sq [9] (.f 10 (.f 11 (.f 12 .e))))))) rfl (by kernel_rfl) ((hb.frame (l.old.mono D)).ld t fun au a5=>((ha.frame (l.old.mono D)).ld t fun ae F=>(fa ?_)));refine B_ (Ky r4) ad (Ak (Cx (q:=0) (g l) a5 N) fun H5 C=>?_);have m:=l.call C;refine⟨C.mono fun k d=>d.1,?_⟩;refine Ak (Cx (g m) (F.frame (C.mono fun k d=>g l k d)) N) fun H6 u=>?_;have O:=m.call u;have G:A_ (D_ H4) H4 H6:=C.trans (u.mono fun k d=>Ae C d);refine⟨G.mono fun k d=>d.1,?_⟩;refine Ah underlying238 rfl (r_ AH) CD (c_ ⟨1,Ar b 0 c,Ar a n.x c⟩) rfl (Az Cf (c_ ⟨1,Ar b 0 c,Ar a n.x c⟩) rfl rfl (by decide) (by decide) ?_);intro q7 H7 ah aw ai I;have U:=O.skip ah I;have J:A_ (D_ H4) H4 H7:=G.trans (I.mono fun k d=>by have:=Ae G d;omega);refine⟨J.mono fun k d=>d.1,?_⟩;refine OC (ys:=[⟨1,Ar b 0 c,Ar a n.x c⟩]) (ds:=c_ ⟨1,Ar b 0 c,Ar a n.x c⟩) U 1 Cf rfl (ai.cells fun j v hv=>by rw[P_];exact hv) (Ps _ _) rfl (by simp[c_,Value.oneCell']) (by simp only[k_];decide) (by simp only[k_];decide) fun a' c' H8 P Q=>?_;refine⟨(J.mono fun k d=>d.1).trans (Q.mono fun k d=>⟨Ae J d.1,d.2⟩),?_⟩;(conv=>whnf);refine⟨P.old,?_⟩;have:=St.own P 1 rfl;unfold B8;rw[I_ R,hf];exact this
 ·have d0:(n.s==0)=false:=beq_eq_false_iff_ne.2 R;(conv=>whnf);rw[d0];by_cases h1:n.s=1
  ·have d1:(n.s==1)=true:=by rw[h1];rfl
   (conv=>whnf);rw[d1];refine Au.held (D_ H1) 12 (sq [0,1,2,3,5,6,7,8] (.f 4 (.f 9 (sq [10] (.f 11 (.f 12 .e)))))) rfl (by kernel_rfl) ((hb.frame (st1.old.mono D)).ld (g st1) fun vb V=>(fa ?_));refine B_ (Ky M) M.lt ((ha.frame (st1.old.mono D)).ld (g st1) fun va E=>(fa ?_));refine B_ (SK M) M.lt (Ak (Cx (g st1) V N) fun H2 p=>?_);have w:=st1.call p;refine⟨p,?_⟩;refine Ak (Cx (g w) (E.frame (p.mono fun k d=>g st1 k d)) N) fun H3 z=>?_;have A:=w.call z;have r:A_ (D_ H1) H1 H3:=p.trans (z.mono fun k d=>Ae p d);refine⟨r,?_⟩;refine Ah underlying238 rfl (r_ AH) CD (c_ ⟨1,Ar b n.x c,Ar a n.y c⟩) rfl (Az Cf (c_ ⟨1,Ar b n.x c,Ar a n.y c⟩) rfl rfl (by decide) (by decide) ?_);intro q4 H4 W X Y B;have l:=Pr A W X Y B;refine⟨r.trans (B.mono fun k d=>by have:=Ae r d;omega),?_⟩;have r4:=l.blk 0 rfl;refine Af.run ((ha.frame (l.old.mono D)).ld (fun _ _=>trivial) fun ae F=>(fa ?_));refine B_ (SK r4) trivial (Ak (BU F) fun H5 C=>?_);have m:=l.call C;cases hf:AG a n.y with
   | false=>
     (conv=>whnf);refine⟨m.old,?_⟩;have:=St.own m 1 rfl;unfold B8;rw[G_ R,I_ h1,hf];exact this
   | true=>
     have r5:=m.blk 0 rfl;have t:∀k,S k→k<H5.size∧¬N_ (.slice (b_ q4) 1 1) k:=fun k d=>⟨g m k d,fun h=>(m.in_ 1 rfl (.inl h)).1 (D k d)⟩;have T:=m.apart (i:=0) (j:=1) (by decide) rfl rfl;have aj:p1<H5.size∧¬N_ (.slice (b_ q4) 1 1) p1:=⟨r5.lt,fun h=>T p1 rfl (.inl h)⟩;refine Au.held (fun k=>k<H5.size∧¬N_ (.slice (b_ q4) 1 1) k) 12 (sq [0,1,2,3,4,6,7] (.f 5 (.f 8 (sq [9] (.f 10 (.f 11 (.f 12 .e))))))) rfl (by kernel_rfl) ((hb.frame (m.old.mono D)).ld t fun ay a6=>(fa ?_));refine B_ (Ky r5) aj ((hb.frame (m.old.mono D)).ld t fun ap Z=>(Ak (Cx (g m) a6 N) fun H6 u=>?_));have O:=m.call u;refine⟨u.mono fun k d=>d.1,?_⟩;refine Ak (Cx (q:=0) (g O) (Z.frame (u.mono fun k d=>g m k d)) N) fun H7 I=>?_;have U:=O.call I;have K:A_ (D_ H5) H5 H7:=u.trans (I.mono fun k d=>Ae u d);refine⟨K.mono fun k d=>d.1,?_⟩;refine Ah underlying238 rfl (r_ AH) CD (c_ ⟨2,Ar b n.x c,Ar b 0 c⟩) rfl (Az Cf (c_ ⟨2,Ar b n.x c,Ar b 0 c⟩) rfl rfl (by decide) (by decide) ?_);intro q8 H8 ak az am Q;have P:=U.skip ak Q;have L:A_ (D_ H5) H5 H8:=K.trans (Q.mono fun k d=>by have:=Ae K d;omega);refine⟨L.mono fun k d=>d.1,?_⟩;refine OC (ys:=[⟨2,Ar b n.x c,Ar b 0 c⟩]) (ds:=c_ ⟨2,Ar b n.x c,Ar b 0 c⟩) P 1 Cf rfl (am.cells fun j v hv=>by rw[P_];exact hv) (Ps _ _) rfl (by simp[c_,Value.oneCell']) (by simp only[k_];decide) (by simp only[k_];decide) fun a' c' H9 a7 ao=>?_;refine⟨(L.mono fun k d=>d.1).trans (ao.mono fun k d=>⟨Ae L d.1,d.2⟩),?_⟩;(conv=>whnf);refine⟨a7.old,?_⟩;have:=St.own a7 1 rfl;unfold B8;rw[G_ R,I_ h1,hf];exact this
  ·have d1:(n.s==1)=false:=beq_eq_false_iff_ne.2 h1;(conv=>whnf);rw[d1];refine Au.held (D_ H1) 12 (sq [0,1,2,3,5,6,7,8] (.f 4 (.f 9 (sq [10] (.f 11 (.f 12 .e)))))) rfl (by kernel_rfl) ((hb.frame (st1.old.mono D)).ld (g st1) fun vb V=>(fa ?_));refine B_ (Ky M) M.lt ((hb.frame (st1.old.mono D)).ld (g st1) fun va E=>(fa ?_));refine B_ (SK M) M.lt (Ak (Cx (g st1) V N) fun H2 p=>?_);have w:=st1.call p;refine⟨p,?_⟩;refine Ak (Cx (g w) (E.frame (p.mono fun k d=>g st1 k d)) N) fun H3 z=>?_;have A:=w.call z;have r:A_ (D_ H1) H1 H3:=p.trans (z.mono fun k d=>Ae p d);refine⟨r,?_⟩;refine Ah underlying238 rfl (r_ AH) CD (c_ ⟨2,Ar b n.x c,Ar b n.y c⟩) rfl (Az Cf (c_ ⟨2,Ar b n.x c,Ar b n.y c⟩) rfl rfl (by decide) (by decide) ?_);intro q4 H4 W X Y B;have l:=Pr A W X Y B;refine⟨r.trans (B.mono fun k d=>by have:=Ae r d;omega),?_⟩;(conv=>whnf);refine⟨l.old,?_⟩;have:=St.own l 1 rfl;unfold B8;rw[G_ R,G_ h1];exact this
theorem AdL{S:Nat→Prop}{H:Aa}{pa pb:Nat}{a b:Option AM}(l:∀k,S k→k<H.size)(C:Hz S H pa a)(q:Hz S H pb b)(n:Nd):
  AZ prog 124 #[r_ n,H_ pb,H_ pa] H (.bool (BH a b n)):=by
 refine Al.of_vc func124 rfl (call124 _) (BL (St.nil H) (c_ n) rfl fun p1 H1 st1=>?_);have t:=st1.blk 0 rfl;refine fa ?_;refine lT (AaQ t) ?_;by_cases m:n.s=1
 ·have u:(n.s==1)=true:=by rw[m];rfl
  have e:BH a b n=(AG b n.x&&AG a n.y&&AG b 0):=by unfold BH;rw[I_ m]
  rw[e];(conv=>whnf);rw[u];refine(q.frame (st1.old.mono l)).ld (fun _ _=>trivial) fun vb f=>(fa ?_);refine B_ (Ky t) trivial (Ak (BU f) fun H2 g=>?_);have c:=st1.call g;have w:=c.blk 0 rfl;cases D:AG b n.x with
  | false=>
    (conv=>whnf);exact⟨rfl,c.old⟩
  | true=>
    refine(C.frame (c.old.mono l)).ld (fun _ _=>trivial) fun va h=>(fa ?_);refine B_ (SK w) trivial (Ak (BU h) fun H3 j=>?_);have d:=c.call j;cases E:AG a n.y with
    | false=>
      (conv=>whnf);exact⟨rfl,d.old⟩
    | true=>
      refine(q.frame (d.old.mono l)).ld (fun _ _=>trivial) fun F p=>(Ak (BU p) fun H4 z=>?_);have A:=d.call z;(conv=>whnf);exact⟨rfl,A.old⟩
 ·have u:(n.s==1)=false:=beq_eq_false_iff_ne.2 m;(conv=>whnf);rw[u];by_cases r:n.s=2
  ·have B:(n.s==2)=true:=by rw[r];rfl
   have e:BH a b n=(AG b n.x&&AG b n.y):=by unfold BH;rw[G_ m,I_ r]
   rw[e];(conv=>whnf);rw[B];refine(q.frame (st1.old.mono l)).ld (fun _ _=>trivial) fun vb f=>(fa ?_);refine B_ (Ky t) trivial (Ak (BU f) fun H2 g=>?_);have c:=st1.call g;have w:=c.blk 0 rfl;cases D:AG b n.x with
   | false=>
     (conv=>whnf);exact⟨rfl,c.old⟩
   | true=>
     refine(q.frame (c.old.mono l)).ld (fun _ _=>trivial) fun va h=>(fa ?_);refine B_ (SK w) trivial (Ak (BU h) fun H3 j=>?_);have d:=c.call j;(conv=>whnf);exact⟨rfl,d.old⟩
  ·have B:(n.s==2)=false:=beq_eq_false_iff_ne.2 r;have e:BH a b n=false:=by unfold BH;rw[G_ m,G_ r]
   rw[e];(conv=>whnf);rw[B];(conv=>whnf);exact⟨rfl,st1.old⟩
theorem Ac9{S:Nat→Prop}{H:Aa}{va vb:v_}{a b:Option AM}{t:ByteArray}{l r:Nat}(m:∀k,S k→k<H.size)(A:Bc S H va a)(B:Bc S H vb b)(G:t.size≤1099511627776)(n:l≤r)(I:r≤t.size)(C:Fb a b t r=true)(p:∀k,l≤k→k<r→Fb a b t k=false):
  AZ prog 125 #[va,vb,.string t,C_ l] H (.int .i64 (r:Int)):=by
 refine Al.of_vc func125 rfl (call125 _) ?_;(conv=>whnf);refine A8.mk [3] (fun k:Nat=>[C_ k]) (fun k H1=>l≤k∧k≤r∧St H H1 []) (fun k _=>r-k) ?_ ?_
 ·(conv=>whnf);exact⟨l,rfl,J_ _,n,St.nil H⟩
 ·rintro k H1 y ⟨q,D,st1⟩;have c:Fb a b t k=decide (k=r):=by
   by_cases h:k=r
   ·subst h;rw[C];simp
   ·rw[p k q (by omega)];simp[h]
  have g:∀{H':Aa} {ps:List Pc},St H H' ps→∀k,S k→k<H'.size:=fun E k q=>E.up (m k q);refine PT Hv (by omega) (by omega) ?_;rw[Yau];refine Ak (DT (g st1) (A.frame (st1.old.mono m)) (by simp only[ByteArray.size_extract,maxLen];omega)) fun H2 u=>?_;have d:=st1.call u;unfold Fb at c;cases z:Bs a (t.extract 0 k)with
  | false=>
    rw[z,Yas]at c;have F:k≠r:=fun e=>by rw[g_ e]at c;cases c
    (conv=>whnf);rw[R_ k (by omega)];exact⟨rfl,k+1,rfl,⟨by omega,by omega,d⟩,by omega⟩
  | true=>
    rw[z,Bool.true_and]at c;refine PU Hv (by omega) (by omega) ?_;rw[Yau];refine Ak (DT (g d) (B.frame (d.old.mono m)) (by simp only[ByteArray.size_extract,maxLen];omega)) fun H3 w=>?_;have j:=d.call w;rw[c];by_cases f:k=r
    ·subst f;rw[g_ rfl];(conv=>whnf);exact⟨rfl,j.old⟩
    ·rw[a_ f];(conv=>whnf);rw[R_ k (by omega)];exact⟨rfl,k+1,rfl,⟨by omega,by omega,j⟩,by omega⟩
theorem Bc.cells{S:Nat→Prop}{H:Aa}{v:v_}{o:Option AM}(h:Bc S H v o):v.cells=[v].toArray∧v.oneCell'=true:=by
 cases o with
 | none=>obtain rfl:=h;exact⟨rfl,rfl⟩
 | some A=>obtain⟨pb,rfl,-⟩:=h;exact⟨rfl,rfl⟩
theorem Ub:(prog.info? 236).bind (·.zero)=some (.agg #[.slice none 0 0,.nilFunc,.nilFunc]):=by kernel_rfl
theorem JV:(prog.info? 176).bind (·.zero)=some (.agg #[.string ⟨#[]⟩,C_ 0,C_ 0]):=by kernel_rfl
def spL(t:ByteArray)(i j:Nat):List v_:=[.string t,C_ i,C_ j]
theorem W9{S:Nat→Prop}{H:Aa}{va vb:v_}{a b:Option AM}(q:∀k,S k→k<H.size)(B:Bc S H va a)(C:Bc S H vb b)(J:∃Y,EL a Y)(K:∃Y,EL b Y):
  Al prog 82 #[va,vb] H fun v H'=>A_ (D_ H) H H'∧∃t i j ok,v= .tuple #[.agg (spL t i j).toArray,.bool ok]∧LN a b t i j ok∧t.size≤1099511627776:=by
 refine Al.of_vc func82 rfl (call82 _) ?_;have g:∀{H':Aa} {ps:List Pc},St H H' ps→∀k,S k→k<H'.size:=fun st k p=>st.up (q k p);refine BL (St.nil H) [va] B.cells.1 fun p1 H1 st1=>(BL st1 [vb] C.cells.1 fun p2 H2 Z=>(BV Z _ (spL ⟨#[]⟩ 0 0) JV rfl fun p3 H3 f=>?_));have ap:Hz (D_ H3) H3 p1 a:=⟨va,(f.in_ 0 rfl rfl).2,f.blk 0 rfl,(B.frame (f.old.mono q)).mono (g f)⟩;have aq:Hz (D_ H3) H3 p2 b:=⟨vb,(f.in_ 1 rfl rfl).2,f.blk 1 rfl,(C.frame (f.old.mono q)).mono (g f)⟩;refine B_ ((f.blk 0 rfl).cellE rfl) trivial (B_ ((f.blk 1 rfl).cellE rfl) trivial (AbS Yz [va] [vb] B.cells.1 C.cells.1 rfl rfl (by decide) (by decide) ?_));intro q4 H4 L au a0 M;have u:=f.skip L M;have ao:=M.new L;have a6:S_ tV (D_ H4) H4 (b_ q4) 2 ([(va,a),(vb,b)].map (·.1)):=S_.ofBlk a0 (show q4<H4.size by omega) ⟨[va],[vb],rfl,rfl,Ty.reps_one rfl⟩ rfl (by decide);refine Aj.mk (Yi (S:=D_ H4) (os:=[(va,a),(vb,b)]) (fun k p=>p) a6 (by simp) (fun x X=>?_)) ?_
 ·rcases Ybe.1 X with rfl | X
  ·exact⟨(B.frame (u.old.mono q)).mono (g u),J⟩
  ·rw[V_]at X;subst X;exact⟨(C.frame (u.old.mono q)).mono (g u),K⟩
 rintro _ H5 ⟨a7,E⟩;obtain⟨a5,c5,rfl,N⟩:=u.got a7 E;have y:∀o∈[a,b],∀s∈CB o,s∈BM [(va,a),(vb,b)]:=fun o A s hs=>by
  unfold BM;simp only[YbY,List.flatMap_nil,Yba,q_];rcases Ybe.1 A with rfl | A
  ·exact .inl hs
  ·rw[V_]at A;subst A;exact .inr hs
 have O:=On (os:=[a,b]) (fun o A=>by
  rcases Ybe.1 A with rfl | A
  ·exact J
  ·rw[V_]at A;subst A;exact K) y
 have P:=P6 (BM [(va,a),(vb,b)]);have Q:=Oq (BM [(va,a),(vb,b)]);have F:=Lb (BM [(va,a),(vb,b)]);clear y;rw[Z_]at N ⊢;generalize De (BM [(va,a),(vb,b)])=by_ at*;refine Ah underlying236 rfl _ Ub [.slice a5 by_.length c5,.nilFunc,.nilFunc] rfl (BL N [.slice a5 by_.length c5,.nilFunc,.nilFunc] rfl fun p6 H6 a8=>(fa ?_));refine Bh a8 4 rfl (by simp) rfl fun H7 a9=>(fa ?_);refine Bh a9 4 rfl (by simp) rfl fun H8 e=>?_;have ab:Dx a:=B.steps;have ad:Dx b:=C.steps;have hg:=AdN ab ad P Q;have ae:∀c,c<256→∃r∈by_,r≤c∧∀n,(E9 a b).next n r=(E9 a b).next n c:=fun c hc=>by
  have⟨r,hr,ah,D⟩:=O c hc;exact⟨r,hr,ah,fun n=>Zx (D a (by simp)) (D b (by simp))⟩
 have R:Hz (D_ H8) H8 p1 a:=⟨va,(e.in_ 0 rfl rfl).2,e.blk 0 rfl,(B.frame (e.old.mono q)).mono (g e)⟩;have T:Hz (D_ H8) H8 p2 b:=⟨vb,(e.in_ 1 rfl rfl).2,e.blk 1 rfl,(C.frame (e.old.mono q)).mono (g e)⟩;have ai:OA (D_ H8) H8 (H_ p6) (E9 a b) by_:=⟨p6,a5,c5,123,124,[],[H_ p1,H_ p2],[],[H_ p2,H_ p1],rfl,
  (e.in_ 4 rfl rfl).2,e.blk 4 rfl,e.view 3 rfl,fun H' G n c _ hc=>AdK (fun k p=>Ae G p) (R.frame G) (T.frame G) n (P c hc),fun H' G n _=>AdL (fun k p=>Ae G p) (R.frame G) (T.frame G) n⟩
 refine Aj.mk (TY (fun k p=>p) hg ae F ai) ?_;rintro _ H9 ⟨aj,w,ok,rfl,hR,aw⟩;have m:=e.call aj;cases ok with
 | false=>
   obtain⟨rfl,ak⟩:=hR.2 rfl;refine Ah underlying176 rfl _ JV (spL ⟨#[]⟩ 0 0) rfl (AD (cs:=spL ⟨#[]⟩ 0 0) m 2 rfl rfl (show 0+3≤3 by decide) rfl fun H10 d=>?_);rw[show As (spL ⟨#[]⟩ 0 0) 0 (spL ⟨#[]⟩ 0 0)=spL ⟨#[]⟩ 0 0 from rfl]at d;refine L_ (cs:=spL ⟨#[]⟩ 0 0) ((d.blk 2 rfl).cells fun j v hv=>by rw[P_];exact hv) trivial ?_;(conv=>whnf);exact⟨d.old,⟨#[]⟩,0,0,false,rfl,⟨fun h=>(by cases h),fun _=>⟨rfl,rfl,rfl,ak⟩⟩,by decide⟩
 | true=>
   have hw:=hR.1 rfl;have⟨i,j,h1,h2,h3,h4,h5,h6⟩:=YH hw.bytes hw.leads;have I:(bA w).size≤1099511627776:=by rw[AB];omega
   refine B_ ((m.blk 0 rfl).cellE rfl) trivial (B_ ((m.blk 1 rfl).cellE rfl) trivial ?_);refine Ak (Ac9 (S:=S) (l:=0) (r:=i) (g m) (B.frame (m.old.mono q)) (C.frame (m.old.mono q)) I (l_ _) (by rw[AB];omega) h3 fun k _ p=>h5 k p) fun H10 U=>?_;have d:=m.call U;refine B_ ((d.blk 0 rfl).cellE rfl) trivial (B_ ((d.blk 1 rfl).cellE rfl) trivial ?_);(conv=>whnf);rw[R_ i (by omega)];refine Ak (Ac9 (S:=S) (l:=i+1) (r:=j) (g d) (B.frame (d.old.mono q)) (C.frame (d.old.mono q)) I (by omega) (by rw[AB];omega) h4 fun k p am=>h6 k (by omega) am) fun H11 V=>?_;have W:=d.call V;refine Ah underlying176 rfl _ JV (spL (bA w) i j) rfl (AD (cs:=spL (bA w) i j) W 2 rfl rfl (show 0+3≤3 by decide) rfl fun H12 z=>?_);rw[show As (spL ⟨#[]⟩ 0 0) 0 (spL (bA w) i j)=spL (bA w) i j from rfl]at z;refine L_ (cs:=spL (bA w) i j) ((z.blk 2 rfl).cells fun j v hv=>by rw[P_];exact hv) trivial ?_;(conv=>whnf);exact⟨z.old,bA w,i,j,true,rfl,⟨fun _=>⟨w,rfl,hw,h1,h2,h3,h4,h5,h6⟩,fun h=>(by cases h)⟩,I⟩
def iv(x:Int):v_:=.int .i64 x
theorem vone(H:Aa)(v:v_):tV.reps none_ H [v] [v]:=Ty.reps_one rfl
theorem Uq{S:Nat→Prop}{H:Aa}{pa:Nat}{a:Option AM}(h:∀k,S k→k<H.size)(l:Hz S H pa a)(q:Int){c:Nat}(F:c<256):
  Al prog 126 #[C_ q,.int .u8 (c:Int),H_ pa] H fun v H'=>A_ (D_ H) H H'∧M_ tV none_ H' H.size 3 v ((CL a q c).map iv):=by
 refine Al.of_vc func126 rfl (call126 _) ?_;have m:∀{H':Aa} {ps:List Pc},St H H' ps→∀k,S k→k<H'.size:=fun I k J=>I.up (h k J);refine l.ld (fun _ _=>trivial) fun va p=>(Ak (Cx h p F) fun H1 r=>?_);have st1:=(St.nil H).call r;refine Az AO [iv (Ar a q c)] rfl rfl (by decide) (by decide) ?_;intro P H2 t u w x;have d:=st1.new (T:=tV) (n:=1) (xs:=[iv (Ar a q c)]) t u w x (vone _ _) rfl (by decide);refine Af.run ((l.frame (d.old.mono h)).ld (fun _ _=>trivial) fun K e=>(Ak (BU e) fun H3 y=>?_));have b:=d.call y;cases G:AG a q with
 | false=>
   (conv=>whnf);refine⟨b.old,?_⟩;have:=St.own b 0 rfl;unfold CL;rw[G];exact this
 | true=>
   refine(l.frame (b.old.mono h)).ld (fun _ _=>trivial) fun L f=>(Ak (Cx (q:=0) (m b) f F) fun H4 z=>?_);have A:=b.call z;refine Az AO [iv (Ar a 0 c)] rfl rfl (by decide) (by decide) ?_;intro Q H5 B M C D;have E:=A.skip B D;refine OC (ys:=[iv (Ar a 0 c)]) (ds:=[iv (Ar a 0 c)]) E 0 AO rfl (C.cells fun j v N=>by rw[P_];exact N) (vone _ _) rfl (by simp[iv,Value.oneCell']) (by simp only[k_];decide) (by simp only[k_];decide) fun a' R H6 g O=>?_;(conv=>whnf);refine⟨g.old,?_⟩;have:=St.own g 0 rfl;unfold CL;rw[G];exact this
structure Wn(S:Nat→Prop)(H:Aa)(p pa:Nat):Prop where
 in_:S p
 blk:K_ H p 242 [.func (.func 126) #[] #[H_ pa]]
theorem Wn.frame{S:Nat→Prop}{H H':Aa}{p pa:Nat}(h:Wn S H p pa)(k:A_ S H H'):Wn S H' p pa:=⟨h.1,h.2.agr k h.1⟩
def Fq(x:Int)(ys:List Int):List Nd:=ys.map fun y=>⟨1,x,y⟩
theorem Aa4{S:Nat→Prop}{H:Aa}{pa pf:Nat}{a:Option AM}(B:∀k,S k→k<H.size)(L:Hz S H pa a)(M:Wn S H pf pa)(n:Nd){c:Nat}(N:c<256):
  Al prog 127 #[r_ n,.int .u8 (c:Int),H_ pa,H_ pf] H fun v H'=>A_ (D_ H) H H'∧M_ tNd none_ H' H.size 238 v (Bv a n c):=by
 refine Al.of_vc func127 rfl (call127 _) ?_;have m:∀{H':Aa} {ps:List Pc},St H H' ps→∀k,S k→k<H'.size:=fun st k d=>st.up (B k d);refine BL (St.nil H) (c_ n) rfl fun p1 H1 st1=>?_;have W:=st1.blk 0 rfl;refine fa ?_;refine lT (AaQ W) ?_;by_cases O:n.s=0
 ·have X:(n.s==0)=true:=by rw[O];rfl
  (conv=>whnf);rw[X];refine(L.frame (st1.old.mono B)).ld (fun _ _=>trivial) fun va Y=>(fa ?_);refine B_ (Ky W) trivial (Ak (Cx (m st1) Y N) fun H2 F=>?_);have C:=st1.call F;refine Ah underlying238 rfl (r_ AH) CD (c_ ⟨0,Ar a n.x c,0⟩) rfl (Az Cf (c_ ⟨0,Ar a n.x c,0⟩) rfl rfl (by decide) (by decide) ?_);intro Z H3 a0 a7 a8 a9;have u:=Pr C a0 a7 a8 a9;have r3:=u.blk 0 rfl;refine Af.run ((L.frame (u.old.mono B)).ld (fun _ _=>trivial) fun b9 P=>(fa ?_));refine B_ (Ky r3) trivial (Ak (BU P) fun H4 ab=>?_);have b:=u.call ab;cases M:AG a n.x with
  | false=>
    (conv=>whnf);refine⟨b.old,?_⟩;have:=St.own b 1 rfl;unfold Bv;rw[I_ O,M];exact this
  | true=>
    have r4:=b.blk 0 rfl;have g:∀k,S k→k<H4.size∧¬N_ (.slice (b_ Z) 1 1) k:=fun k d=>⟨m b k d,fun h=>(b.in_ 1 rfl (.inl h)).1 (B k d)⟩;have ad:=b.apart (i:=0) (j:=1) (by decide) rfl rfl;have ae:p1<H4.size∧¬N_ (.slice (b_ Z) 1 1) p1:=⟨r4.lt,fun h=>ad p1 rfl (.inl h)⟩;refine Au.held (fun k=>k<H4.size∧¬N_ (.slice (b_ Z) 1 1) k) 12 (sq [0,1,2,4,5,6,7] (.f 3 (.f 8 (sq [9] (.f 10 (.f 11 (.f 12 .e))))))) rfl (by kernel_rfl) ((L.frame (b.old.mono B)).ld g fun bd Q=>((L.frame (b.old.mono B)).ld g fun be R=>(fa ?_)));refine B_ (Ky r4) ae (Ak (Cx (q:=0) (m b) Q N) fun H5 p=>?_);have w:=b.call p;refine⟨p.mono fun k d=>d.1,?_⟩;refine Ak (Cx (m w) (R.frame (p.mono fun k d=>m b k d)) N) fun H6 T=>?_;have r:=w.call T;have z:A_ (D_ H4) H4 H6:=p.trans (T.mono fun k d=>Ae p d);refine⟨z.mono fun k d=>d.1,?_⟩;refine Ah underlying238 rfl (r_ AH) CD (c_ ⟨1,Ar a 0 c,Ar a n.x c⟩) rfl (Az Cf (c_ ⟨1,Ar a 0 c,Ar a n.x c⟩) rfl rfl (by decide) (by decide) ?_);intro q7 H7 ah bf ai U;have aj:=r.skip ah U;have A:A_ (D_ H4) H4 H7:=z.trans (U.mono fun k d=>by have:=Ae z d;omega);refine⟨A.mono fun k d=>d.1,?_⟩;refine OC (ys:=[⟨1,Ar a 0 c,Ar a n.x c⟩]) (ds:=c_ ⟨1,Ar a 0 c,Ar a n.x c⟩) aj 1 Cf rfl (ai.cells fun j v hv=>by rw[P_];exact hv) (Ps _ _) rfl (by simp[c_,Value.oneCell']) (by simp only[k_];decide) (by simp only[k_];decide) fun a' c' H8 D G=>?_;refine⟨(A.mono fun k d=>d.1).trans (G.mono fun k d=>⟨Ae A d.1,d.2⟩),?_⟩;(conv=>whnf);refine⟨D.old,?_⟩;have:=St.own D 1 rfl;unfold Bv;rw[I_ O,M];exact this
 ·have X:(n.s==0)=false:=beq_eq_false_iff_ne.2 O;have hR:Bv a n c=(CL a n.x c).flatMap fun x=>Fq x (CL a n.y c):=by
   unfold Bv Fq;rw[G_ O]
  rw[hR];have bh:=Iq (a:=a) n.x c;have bj:=Iq (a:=a) n.y c;(conv=>whnf);rw[X];refine B_ ((M.frame (st1.old.mono B)).blk.cellE rfl) trivial (fa ?_);refine B_ (Ky W) trivial (Aj.mk (Uq (m st1) (L.frame (st1.old.mono B)) n.x N) ?_);rintro _ H2 ⟨F,I⟩;obtain⟨a2,c2,rfl,C⟩:=st1.got F I;rw[Z_]at C ⊢;generalize CL a n.x c=xs at*;have u:=C.nils tNd 238;(conv=>whnf);refine A8.mk [8,46] (fun x:Nat×List Nd×Option Addr×Nat=>match x with | (i,out,a,c)=>[.slice a out.length c,C_ i])
   (fun x H4=>x.1≤xs.length∧x.2.1=(xs.take x.1).flatMap (fun x=>Fq x (CL a n.y c))∧x.2.1.length≤2*x.1∧St H H4 [pB 238 p1 (c_ n),pS tV 3 a2 xs.length c2 (xs.map iv),pS tNd 238 x.2.2.1 x.2.1.length x.2.2.2 x.2.1]) (fun x _=>xs.length-x.1) ?_ ?_
  ·(conv=>whnf);exact⟨(0,[],none,0),rfl,by simp,rfl,by simp,u⟩
  ·rintro⟨i,out,a4,c4⟩ H4 ak ⟨hi,g,am,b⟩;simp only at hi g am b;refine Ag.m2 (fun hz=>?_) (fun hz=>?_)
   ·have⟨x,hx⟩:=Am (l:=xs) (k:=i) (by omega);have J:(xs.take (i+1)).flatMap (fun x=>Fq x (CL a n.y c))=out++Fq x (CL a n.y c):=by
     rw[g];exact KF _ hx
    have q4:=b.blk 0 rfl;refine ixO (j:=i) (x:=iv x) AO b 1 rfl (by rw[t_,hx];rfl) rfl fun b5 o5 bn bo ao ap=>?_;obtain rfl:=ap;refine B_ ao.one trivial (B_ ((M.frame (b.old.mono B)).blk.cellE rfl) trivial (fa ?_));refine B_ (SK q4) trivial (Aj.mk (Uq (m b) (L.frame (b.old.mono B)) n.y N) ?_);rintro _ H5 ⟨p,K⟩;obtain⟨a5,c5,rfl,w⟩:=b.got p K;rw[Z_]at w ⊢;generalize CL a n.y c=ys at*;(conv=>whnf);refine A8.mk [8,56] (fun x:Nat×List Nd×Option Addr×Nat=>match x with | (k,out,a,c)=>[.slice a out.length c,C_ k])
     (fun y H6=>y.1≤ys.length∧y.2.1=out++Fq x (ys.take y.1)∧St H H6 [pB 238 p1 (c_ n),pS tV 3 a2 xs.length c2 (xs.map iv),pS tNd 238 y.2.2.1 y.2.1.length y.2.2.2 y.2.1,pS tV 3 a5 ys.length c5 (ys.map iv)]) (fun y _=>ys.length-y.1) ?_ ?_
    ·(conv=>whnf);exact⟨(0,out,a4,c4),rfl,by simp,by simp[Fq],w⟩
    ·rintro⟨k,V,a6,c6⟩ H6 aq ⟨d,t,r⟩;simp only at d t r;refine Ag.m2 (fun au=>?_) (fun au=>?_)
     ·have⟨y,hy⟩:=Am (l:=ys) (k:=k) (by omega);have E:out++Fq x (ys.take (k+1))=V++[⟨1,x,y⟩]:=by
       rw[t,Ai hy];simp[Fq]
      have b8:V.length≤2*i+k:=by
       rw[t];simp only[Fq,Q_,Z_,YaN];omega
      refine ixO (j:=k) (x:=iv y) AO r 3 rfl (by rw[t_,hy];rfl) rfl fun b7 o7 bp bq aw ay=>?_;obtain rfl:=ay;refine B_ aw.one trivial (Ah underlying238 rfl (r_ AH) CD (c_ ⟨1,x,y⟩) rfl (Az Cf (c_ ⟨1,x,y⟩) rfl rfl (by decide) (by decide) ?_));intro q8 H8 az br b4 G;have D:=r.skip az G;refine OC (ys:=[⟨1,x,y⟩]) (ds:=c_ ⟨1,x,y⟩) D 2 Cf rfl (b4.cells fun j v hv=>by rw[P_];exact hv) (Ps _ _) rfl (by simp[c_,Value.oneCell']) (by simp only[k_,maxLen];omega) (by simp only[k_];omega) fun a' c' H9 b6 bu=>?_;(conv=>whnf);rw[R_ k (by omega)];refine⟨rfl,(k+1,V++[⟨1,x,y⟩],a',c'),by simp,⟨by simp only;omega,E.symm,?_⟩,by simp only;omega⟩;simp only[Q_,k_];exact b6.pick [0,1,2,3] (by decide)
     ·obtain rfl:k=ys.length:=by omega
      rw[YaB]at t;(conv=>whnf);rw[R_ i (by omega)];refine⟨rfl,(i+1,V,a6,c6),by simp,⟨by simp only;omega,by simp only;rw[J,t],?_,r.pick [0,1,2] (by decide)⟩,by simp only;omega⟩;simp only;rw[t];simp only[Fq,Q_,Z_];omega
   ·obtain rfl:i=xs.length:=by omega
    rw[YaB]at g;(conv=>whnf);refine⟨b.old,?_⟩;have:=St.own b 2 rfl;rw[g]at this ⊢;exact this
theorem Aa5{S:Nat→Prop}{H:Aa}{pa:Nat}{a:Option AM}(j:∀k,S k→k<H.size)(l:Hz S H pa a)(n:Nd):
  AZ prog 128 #[r_ n,H_ pa] H (.bool (Et a n)):=by
 refine Al.of_vc func128 rfl (call128 _) (BL (St.nil H) (c_ n) rfl fun p1 H1 st1=>?_);have m:=st1.blk 0 rfl;have e:Et a n=(n.s==1&&AG a n.x&&AG a n.y):=rfl;rw[e];refine fa ?_;refine lT (AaQ m) ?_;cases p:(n.s==1)with
 | false=>
   (conv=>whnf);rw[p];(conv=>whnf);exact⟨rfl,st1.old⟩
 | true=>
   (conv=>whnf);rw[p];refine(l.frame (st1.old.mono j)).ld (fun _ _=>trivial) fun vb c=>(fa ?_);refine B_ (Ky m) trivial (Ak (BU c) fun H2 d=>?_);have b:=st1.call d;have q:=b.blk 0 rfl;cases r:AG a n.x with
   | false=>
     (conv=>whnf);exact⟨rfl,b.old⟩
   | true=>
     refine(l.frame (b.old.mono j)).ld (fun _ _=>trivial) fun va f=>(fa ?_);refine B_ (SK q) trivial (Ak (BU f) fun H3 g=>?_);have h:=b.call g;(conv=>whnf);exact⟨rfl,h.old⟩
def Jm(a:Option AM)(w:List Nat)(ok:Bool):Prop:=(AG a 0=true→w=[]∧ok=true)∧(AG a 0=false→LP (EH a) w ok)
theorem Xs{S:Nat→Prop}{H:Aa}{va:v_}{a:Option AM}(I:∀k,S k→k<H.size)(j:Bc S H va a)(m:∃ls,EL a ls):
  Al prog 83 #[va] H fun v H'=>A_ (D_ H) H H'∧∃w ok,v= .tuple #[.string (bA w),.bool ok]∧Jm a w ok∧w.length≤1099511627776:=by
 refine Al.of_vc func83 rfl (call83 _) ?_;have p:∀{H':Aa} {ps:List Pc},St H H' ps→∀k,S k→k<H'.size:=fun st k d=>st.up (I k d);refine BL (St.nil H) [va] j.cells.1 fun p1 H1 st1=>(B_ ((st1.blk 0 rfl).cellE rfl) trivial (Ak (BU (q:=0) (j.frame (st1.old.mono I))) fun H2 J=>?_));have t:=st1.call J;cases hf:AG a 0 with
 | true=>
   (conv=>whnf);exact⟨t.old,[],true,rfl,⟨fun _=>⟨rfl,rfl⟩,(fun h=>by rw[hf]at h;cases h)⟩,l_ _⟩
 | false=>
 refine BV t .nilFunc [.nilFunc] rfl rfl fun p3 H3 K=>(Bh K 1 rfl (by simp) rfl fun H4 u=>(B_ ((u.blk 0 rfl).cellE rfl) trivial (Az Yz [va] j.cells.1 rfl (by decide) (by decide) ?_)));intro q5 H5 L a0 M N;have e:=u.skip L N;have O:S_ tV (D_ H5) H5 (b_ q5) 1 ([(va,a)].map (·.1)):=S_.ofBlk M (show q5<H5.size by omega) (Ty.reps_one rfl) rfl (by decide);refine Aj.mk (Yi (S:=D_ H5) (os:=[(va,a)]) (fun k d=>d) O (by simp) (fun x hx=>?_)) ?_
 ·rw[V_]at hx;subst hx;exact⟨(j.frame (e.old.mono I)).mono (p e),m⟩
 rintro _ H6 ⟨P,f⟩;obtain⟨Q,R,rfl,y⟩:=e.got P f;have z:=On (os:=[a]) (sets:=BM [(va,a)]) (fun o A=>by
  rw[V_]at A;subst A;exact m) fun o A s hs=>by
   rw[V_]at A;subst A;unfold BM;simpa using hs
 have B:=P6 (BM [(va,a)]);have C:=Oq (BM [(va,a)]);have g:=Lb (BM [(va,a)]);rw[Z_]at y ⊢;generalize De (BM [(va,a)])=by_ at*;refine Ah underlying236 rfl _ Ub [.slice Q by_.length R,.nilFunc,.nilFunc] rfl (BL y [.slice Q by_.length R,.nilFunc,.nilFunc] rfl fun p7 H7 T=>(fa ?_));refine Bh T 3 rfl (by simp) rfl fun H8 U=>(fa ?_);refine Bh U 3 rfl (by simp) rfl fun H9 b=>?_;have hg:=Aa7 j.steps B C;have V:∀c,c<256→∃r∈by_,r≤c∧∀n,(EH a).next n r=(EH a).next n c:=fun c W=>by
  have⟨r,hr,X,D⟩:=z c W;exact⟨r,hr,X,fun n=>Xt (D a (by simp))⟩
 have E:Hz (D_ H9) H9 p1 a:=⟨va,(b.in_ 0 rfl rfl).2,b.blk 0 rfl,(j.frame (b.old.mono I)).mono (p b)⟩;have Y:Wn (D_ H9) H9 p3 p1:=⟨(b.in_ 1 rfl rfl).2,b.blk 1 rfl⟩;have Z:OA (D_ H9) H9 (H_ p7) (EH a) by_:=⟨p7,Q,R,127,128,[],[H_ p1,H_ p3],[],[H_ p1],rfl,
  (b.in_ 3 rfl rfl).2,b.blk 3 rfl,b.view 2 rfl,fun H' l n c _ W=>Aa4 (fun k d=>Ae l d) (E.frame l) (Y.frame l) n (B c W),fun H' l n _=>Aa5 (fun k d=>Ae l d) (E.frame l) n⟩
 refine Aj.mk (TY (fun k d=>d) hg V g Z) ?_;rintro _ H10 ⟨F,w,ok,rfl,hR,a5⟩;have G:=b.call F;(conv=>whnf);exact⟨G.old,w,ok,rfl,⟨(fun h=>by rw[hf]at h;cases h),fun _=>hR⟩,by omega⟩
end
section
attribute [local irreducible] AN AY Bb
end
section
attribute [local irreducible] AN AY
section
variable{o:Option AM}{D:DM}
end
end
section
attribute [local irreducible] AN Bb AY
def bvF(f:Nat→Bool):Nat→BitVec 256
 | 0=>0#256
 | n+1=>if f n then bvF f n ||| AJ n n else bvF f n
def bvN(f:Nat→Bool):BitVec 256:=bvF f 256
end
section
attribute [local irreducible] AN Bb AY
end
def Fk(cells:List (BitVec 256))(g:Nat):Bool:=(AhO g).all fun h=> !E3 cells g h
theorem Cv{cells:List (BitVec 256)}{a b:Nat}:E3 cells a b=true↔∀c∈cells,c.getLsbD a=c.getLsbD b:=by
 unfold E3;simp
theorem IS{cells:List (BitVec 256)}{g:Nat}:Fk cells g=true↔∀h,h<g→E3 cells g h=false:=by
 unfold Fk;simp
theorem OV{cells:List (BitVec 256)}{b:Nat}:∀h,E3 cells b h=true→∃g,g≤h∧E3 cells b g=true∧Fk cells g=true:=by
 intro h
 induction h using Nat.strongRecOn with
 | _ h ih=>
   intro j;by_cases k:Fk cells h=true
   ·exact⟨h,J_ _,j,k⟩
   ·have:∃a,a<h∧E3 cells h a=true:=by
     apply Classical.byContradiction;intro d;apply k;rw[IS];intro a e;cases hs:E3 cells h a with
     | false=>rfl
     | true=>exact absurd ⟨a,e,hs⟩ d
    have⟨a,f,hs⟩:=this;have⟨g,g1,g2,m⟩:=ih a f (Cv.2 fun c l=>(Cv.1 j c l).trans (Cv.1 hs c l));exact⟨g,by omega,g2,m⟩
def FO(x y:BitVec 256):Prop:=∀c,x.getLsbD c=true→y.getLsbD c=false
theorem OO{s b x:BitVec 256}(h:x∈IK s b):x=b &&& s∨x=b &&& ~~~s:=by
 have:=(YbV.1 h).1;simpa using this
theorem Jr(sets:List (BitVec 256)):(BT sets).Pairwise FO:=by
 have e:∀(rest d:List (BitVec 256)),d.Pairwise FO→(rest.foldl KZ d).Pairwise FO:=by
  intro rest
  induction rest with
  | nil=>exact fun d h=>h
  | cons s rest j=>
    intro d h;refine j _ ?_;unfold KZ;rw[YcO];refine⟨fun b p=>?_,h.imp fun{x y} f u k v l c a=>?_⟩
    ·refine List.Pairwise.filter _ (Yct.2 ⟨fun y g c a=>?_,YaY _ _⟩);rw[V_]at g;subst g;rw[YbP,h_]at a;rw[YbP,YbQ,a.2];simp
    ·have m:x.getLsbD c=true:=by
      rcases OO k with rfl | rfl<;>· rw[YbP,h_]at a;exact a.1
     have n:=f c m;rcases OO l with rfl | rfl<;>rw[YbP,n,Yas]
 exact e sets _ (YaY _ _)
theorem Sb(sets:List (BitVec 256)):∀x∈BT sets,∀c d,c<256→d<256→(∀s∈sets,s.getLsbD c=s.getLsbD d)→x.getLsbD c=x.getLsbD d:=by
 have g:∀(rest f:List (BitVec 256)) (c d:Nat),c<256→d<256→(∀x∈f,x.getLsbD c=x.getLsbD d)→(∀s∈rest,s.getLsbD c=s.getLsbD d)→∀x∈rest.foldl KZ f,x.getLsbD c=x.getLsbD d:=by
  intro rest
  induction rest with
  | nil=>exact fun f c d _ _ h _=>h
  | cons s rest n=>
    intro f c d e hd h k;refine n _ c d e hd (fun x a=>?_) fun p j=>k p (YbX _ j);have⟨b,q,a⟩:=Ycd.1 a;have l:=h b q;have m:=k s (YbZ ..);rcases OO a with rfl | rfl
    ·rw[YbP,YbP,l,m]
    ·rw[YbP,YbP,YbQ,YbQ,l,m];simp[e,hd]
 intro x a c d e hd hs;refine g sets _ c d e hd (fun x a=>?_) hs x a;rw[V_]at a;subst a;rw[Yaj,Yaj];simp[e,hd]
theorem XN{l:List (BitVec 256)}{b:Nat}(h:l.Pairwise FO)(a:∀x∈l,x.getLsbD b=true)(d:l≠[]):∃x,l=[x]:=by
 match l,d with
 | [x],_=>exact⟨x,rfl⟩
 | x::y::r,_=>
   have c:=(Yct.1 h).1 y (by simp) b (a x (by simp));rw[a y (by simp)]at c;cases c
theorem P5(sets:List (BitVec 256)):De sets=(AhO 256).filter (Fk sets):=by
 have a:=Iw sets;have j:∀b,b<256→(B0 (BT sets) b).map (fun c=>(AP c 0).1)=if Fk sets b then [b]else []:=by
  intro b q;have d:∀x∈B0 (BT sets) b,x∈BT sets∧(AP x 0).1=b∧x.getLsbD b=true:=fun x e=>by
   have⟨k,t⟩:=YbV.1 e;have r:(AP x 0).1=b:=by simpa using t
   have g:=(Gp (a.ne x k)).1;rw[r]at g;exact⟨k,r,g⟩
  cases m:Fk sets b with
  | false=>
    rw[G_ (by decide)];have:B0 (BT sets) b=[]:=by
     apply Classical.byContradiction;intro n;have⟨x,e⟩:=List.exists_mem_of_ne_nil _ n;have⟨k,t,r⟩:=d x e;have:∃h,h<b∧E3 sets b h=true:=by
      apply Classical.byContradiction;intro u;have:Fk sets b=true:=IS.2 fun h w=>by
       cases hs:E3 sets b h with
       | false=>rfl
       | true=>exact absurd ⟨h,w,hs⟩ u
      rw[m]at this;cases this
     have⟨h,w,hs⟩:=this;have g:=Sb sets x k b h q (by omega) (Cv.1 hs);rw[r]at g;have E:=(Gp (a.ne x k)).2 h (by rw[t];exact w);rw[E]at g;cases g
    rw[this];rfl
  | true=>
    rw[I_ rfl];have⟨x,e,f⟩:=a.all b q;have⟨l1,l2⟩:=Gp (a.ne x e);have A:(AP x 0).1=b:=by
     apply Classical.byContradiction;intro n;have B:(AP x 0).1<b:=by
      rcases Nat.lt_or_ge b (AP x 0).1 with h | h
      ·rw[l2 b h]at f;cases f
      ·omega
     have hs:=a.same x e b _ f l1;have:=IS.1 m _ B;rw[Cv.2 hs]at this;cases this
    have p:x∈B0 (BT sets) b:=YbV.2 ⟨e,by rw[A];simp⟩;have⟨y,D⟩:=XN (l:=B0 (BT sets) b) (b:=b) ((Jr sets).filter _) (fun z F=>(d z F).2.2) (YcS p);rw[D];have:=(d y (by rw[D];simp)).2.1;simp only[YaQ,List.map_nil,this]
 unfold De BA;rw[List.map_flatMap];have C:∀l:List Nat,(∀b∈l,b<256)→(l.flatMap fun b=>(B0 (BT sets) b).map fun c=>(AP c 0).1)=l.filter (Fk sets):=by
  intro l
  induction l with
  | nil=>exact fun _=>rfl
  | cons b l G=>
    intro h;rw[YbY,j b (h b (YbZ ..)),G fun x e=>h x (YbX _ e)];cases m:Fk sets b with
    | true=>rw[YbU m];rfl
    | false=>rw[YbW (by rw[m];decide)];rfl
 exact C _ fun b q=>Ych.1 q
section
attribute [local irreducible] AN Bb AY
section
variable{K:Type} [DecidableEq K]{most:Nat}{step:K→Nat→K}{start:K}{P:K→Prop}{x:K}
theorem Rr(s:Option (List K×List Nat))(b:Nat):(Dq most step x s b).map Prod.fst=(s.map Prod.fst).bind fun f=>(atF most f (step x b)).map Prod.fst:=by
 cases s with
 | none=>rfl
 | some p=>
   simp only[Dq,YbG,YcH];cases atF most p.1 (step x b)<;>rfl
theorem Zp{f:List K}{k:K}{i:Nat}(b:f.Nodup)(h:f[i]?=some k):atF most f k=some (f,i):=by
 unfold atF;have:f.findIdx? (·=k)=some i:=by
  rw[Ycm];have⟨a,e⟩:=X_.1 h;refine⟨a,by simpa using e,fun j c=>?_⟩;have:=(Ya6.1 b) j i (by omega) a c;rw[e]at this;simpa using this
 rw[this]
theorem Qo{F F':List K}{k:K}{i:Nat}(h:atF most F k=some (F',i)):∀y∈F',y∈F∨y=k:=by
 intro y a;unfold atF at h;split at h
 ·injection h with h;injection h with h1 h2;subst h1;exact .inl a
 ·split at h
  ·injection h with h;injection h with h1 h2;subst h1
   rcases q_.1 a with a | a
   ·exact .inl a
   ·rw[V_]at a;exact .inr a
  ·cases h
theorem AcW(hs:∀b,P (step x b)):∀(l:List Nat) (f a:List K) (r c:List Nat),l.foldl (Dq most step x) (some (f,r))=some (a,c)→(∀y∈f,P y)→∀y∈a,P y
 | [],f,a,r,c,h,hf=>by
   simp only[Ycs,Ah8.injEq,Prod.mk.injEq]at h;obtain⟨rfl,-⟩:=h;exact hf
 | b::l,f,a,r,c,h,hf=>by
   rw[Ycf]at h;simp only[Dq,YbG]at h;cases d:atF most f (step x b)with
   | none=>rw[d]at h;rw[YcY,Gw]at h;cases h
   | some p=>
     rw[d]at h;refine AcW hs l p.1 a _ c h fun y e=>?_;rcases Qo (i:=p.2) d y e with g | rfl
     ·exact hf y g
     ·exact hs b
theorem JO:∀(l:List Nat) (f a:List K) (r c:List Nat),l.foldl (Dq most step x) (some (f,r))=some (a,c)→f.length≤most→f.Nodup→a.length≤most∧a.Nodup∧f <+: a∧∃d,c=r++d
 | [],f,a,r,c,h,h1,h2=>by
   simp only[Ycs,Ah8.injEq,Prod.mk.injEq]at h;obtain⟨rfl,rfl⟩:=h;exact⟨h1,h2,Yc9 _,[],by simp⟩
 | b::l,f,a,r,c,h,h1,h2=>by
   rw[Ycf]at h;simp only[Dq,YbG]at h;cases e:atF most f (step x b)with
   | none=>rw[e]at h;rw[YcY,Gw]at h;cases h
   | some p=>
     rw[e]at h;obtain⟨-,g1,g2,g⟩:=Jq (i:=p.2) e h1 h2;have⟨j,k,m,d,n⟩:=JO l p.1 a _ c h g1 g2;exact⟨j,k,g.trans m,p.2::d,by rw[n];simp⟩
theorem DL(g:1≤most)(j:P start)(hs:∀y b,P y→P (step y b))(bs:List Nat):∀(n:Nat) (f:List K) (rows:List (List Nat)),Br most step bs start n=some (f,rows)→f.length≤most∧f.Nodup∧f[0]?=some start∧∀y∈f,P y
 | 0,f,rows,h=>by
   simp only[Br,Ah8.injEq,Prod.mk.injEq]at h;obtain⟨rfl,-⟩:=h;exact⟨g,by simp,rfl,fun y k=>by rw[V_]at k;subst k;exact j⟩
 | n+1,f,rows,h=>by
   simp only[Br]at h;cases c:Br most step bs start n with
   | none=>rw[c]at h;cases h
   | some p=>
     have⟨g1,g2,l,d⟩:=DL g j hs bs n p.1 p.2 c;rw[c]at h;simp only[YbG]at h;cases e:p.1[n]? with
     | none=>
       rw[e]at h;simp only[Ah8.injEq]at h;subst h;exact⟨g1,g2,l,d⟩
     | some x=>
       rw[e]at h;simp only at h;cases a:bs.foldl (Dq most step x) (some (p.1,[]))with
       | none=>rw[a]at h;cases h
       | some r=>
         rw[a]at h;simp only[YcH,Ah8.injEq,Prod.mk.injEq]at h;obtain⟨rfl,-⟩:=h;obtain⟨m,q,t,-⟩:=JO bs p.1 r.1 [] r.2 a g1 g2;exact⟨m,q,FI t l,AcW (fun b=>hs x b (d x (d_ e))) bs p.1 r.1 [] r.2 a d⟩
def Zd(P:K→Prop)(step:K→Nat→K)(p:Nat→Bool):Prop:=∀b,b<256→p b=false→∃g,g<b∧p g=true∧∀x,P x→step x g=step x b
theorem VO{p:Nat→Bool}(e:Zd P step p)(h:P x){f:List K}(j:f.length≤most)(n:f.Nodup):∀m,m≤256→
  ((AhO m).foldl (Dq most step x) (some (f,[]))).map Prod.fst=(((AhO m).filter p).foldl (Dq most step x) (some (f,[]))).map Prod.fst:=by
 intro m
 induction m with
 | zero=>intro _;rfl
 | succ m a=>
   intro C;have a:=a (by omega);rw[List.range_succ,Yce,Yca,Yca,Ycf,Ycs,Rr,a];cases b:p m with
   | true=>
     rw[YbU b,YcA,Ycf,Ycs,Rr]
   | false=>
     rw[YbW (by rw[b];decide),YcA,Ycs];cases c:(AhO m).foldl (Dq most step x) (some (f,[]))with
     | none=>rw[←a,c];rfl
     | some q=>
       have⟨D,r⟩:=q;have⟨E,u,F,w,y⟩:=KU j n c;have⟨g,z,A,hs⟩:=e m (by omega) b;rw[List.length_range]at w;have⟨t,B⟩:=Am (l:=r) (k:=g) (by omega);have d:=y g g t (List.getElem?_range z) B;rw[hs x h]at d;rw[←a,c];simp only[YcH,YbG,Zp u d]
theorem MT{p:Nat→Bool}(k:Zd P step p)(l:1≤most)(m:P start)(hs:∀y b,P y→P (step y b)):∀n,(Br most step (AhO 256) start n).map Prod.fst=(Br most step ((AhO 256).filter p) start n).map Prod.fst
 | 0=>rfl
 | n+1=>by
   have c:=MT k l m hs n;simp only[Br];cases h:Br most step (AhO 256) start n with
   | none=>
     rw[h]at c;cases g:Br most step ((AhO 256).filter p) start n with
     | none=>rfl
     | some q=>rw[g]at c;cases c
   | some q=>
     rw[h]at c;cases g:Br most step ((AhO 256).filter p) start n with
     | none=>rw[g]at c;cases c
     | some t=>
       rw[g]at c;simp only[YcH,Ah8.injEq]at c;have⟨f,rows⟩:=q;have⟨z,j⟩:=t;simp only at c;subst c;have⟨g1,g2,A,u⟩:=DL l m hs _ n f rows h;simp only[YbG];cases w:f[n]? with
       | none=>rfl
       | some x=>
         have e:=VO k (u x (d_ w)) g1 g2 256 (J_ _);cases d:(AhO 256).foldl (Dq most step x) (some (f,[]))with
         | none=>
           rw[d]at e;cases a:((AhO 256).filter p).foldl (Dq most step x) (some (f,[]))with
           | none=>simp only[d,a];rfl
           | some r=>rw[a]at e;cases e
         | some r=>
           rw[d]at e;cases a:((AhO 256).filter p).foldl (Dq most step x) (some (f,[]))with
           | none=>rw[a]at e;cases e
           | some B=>
             rw[a]at e;simp only[d,a];simpa using e
def EA(most:Nat)(step:K→Nat→K)(start:K):Option (List K):=(Gj most step (AhO 256) start).map Prod.fst
theorem ZE{p:Nat→Bool}(a:Zd P step p)(c:1≤most)(d:P start)(hs:∀y b,P y→P (step y b)):(Gj most step ((AhO 256).filter p) start).map Prod.fst=EA most step start:=(MT a c d hs most).symm
theorem Rt(e:1≤most){bs:List Nat}:∀(k n:Nat) (f:List K) (rows:List (List Nat)),Br most step bs start (n+k)=some (f,rows)→∃b a,Br most step bs start n=some (b,a)∧b <+: f
 | 0,n,f,rows,h=>⟨f,rows,h,Yc9 _⟩
 | k+1,n,f,rows,h=>by
   rw[←YcX]at h;simp only[Br]at h;cases c:Br most step bs start (n+k)with
   | none=>rw[c]at h;cases h
   | some p=>
     have⟨b,a,g,e2⟩:=Rt e k n p.1 p.2 c;obtain⟨g1,g2,-⟩:=DL (P:=fun _=>True) e trivial (fun _ _ _=>trivial) bs (n+k) p.1 p.2 c;rw[c]at h;simp only[YbG]at h;cases j:p.1[n+k]? with
     | none=>
       rw[j]at h;simp only[Ah8.injEq]at h;subst h;exact⟨b,a,g,e2⟩
     | some x=>
       rw[j]at h;simp only at h;cases d:bs.foldl (Dq most step x) (some (p.1,[]))with
       | none=>rw[d]at h;cases h
       | some r=>
         rw[d]at h;simp only[YcH,Ah8.injEq,Prod.mk.injEq]at h;obtain⟨rfl,-⟩:=h;exact⟨b,a,g,e2.trans (JO bs p.1 r.1 [] r.2 d g1 g2).2.2.1⟩
theorem OP(b:1≤most){bs:List Nat}{F:List K}{rows:List (List Nat)}(h:Gj most step bs start=some (F,rows)):Br most step bs start F.length=some (F,rows):=by
 obtain⟨g1,-⟩:=DL (P:=fun _=>True) b trivial (fun _ _ _=>trivial) bs most F rows h;obtain⟨f,a,c,e2⟩:=Rt b (most-F.length) F.length F rows (by rw[show F.length+(most-F.length)=most by omega];exact h);have d:=Jb c e2.length_le most g1;have e:Br most step bs start most=some (F,rows):=h;rw[e]at d;rw[c];exact d.symm
theorem Wt{m2:Nat}{f a:List K}{k:K}{i:Nat}(h:atF most f k=some (a,i))(c:a.length≤m2):atF m2 f k=some (a,i):=by
 unfold atF at h ⊢;cases b:f.findIdx? (·=k)with
 | some j=>rw[b]at h;exact h
 | none=>
   rw[b]at h;simp only at h ⊢;split at h
   ·injection h with h
    injection h with h1 h2
    subst h1;simp only[Q_,j_,J']at c;rw[I_ (by omega),h2]
   ·cases h
theorem Rs{m2:Nat}:∀(l:List Nat) (f a:List K) (r c:List Nat),l.foldl (Dq most step x) (some (f,r))=some (a,c)→f.length≤most→f.Nodup→a.length≤m2→l.foldl (Dq m2 step x) (some (f,r))=some (a,c)
 | [],f,a,r,c,h,_,_,_=>h
 | b::l,f,a,r,c,h,h1,h2,hl=>by
   rw[Ycf]at h ⊢;simp only[Dq,YbG]at h ⊢;cases d:atF most f (step x b)with
   | none=>rw[d]at h;rw[YcY,Gw]at h;cases h
   | some p=>
     rw[d]at h;obtain⟨-,g1,g2,g⟩:=Jq (i:=p.2) d h1 h2;have e:=(JO l p.1 a _ c h g1 g2).2.2.1;rw[Wt (i:=p.2) d (YbC e.length_le hl)];exact Rs l p.1 a _ c h g1 g2 hl
theorem K5{m2:Nat}(d:1≤most){bs:List Nat}:∀(n:Nat) (f:List K) (rows:List (List Nat)),Br most step bs start n=some (f,rows)→f.length≤m2→Br m2 step bs start n=some (f,rows)
 | 0,f,rows,h,_=>h
 | n+1,f,rows,h,hl=>by
   simp only[Br]at h ⊢;cases a:Br most step bs start n with
   | none=>rw[a]at h;cases h
   | some p=>
     obtain⟨g1,g2,-⟩:=DL (P:=fun _=>True) d trivial (fun _ _ _=>trivial) bs n p.1 p.2 a;rw[a]at h;simp only[YbG]at h;cases b:p.1[n]? with
     | none=>
       rw[b]at h;simp only[Ah8.injEq]at h;subst h;rw[K5 d n f rows a hl];simp only[YbG];rw[b]
     | some x=>
       rw[b]at h;simp only at h;cases c:bs.foldl (Dq most step x) (some (p.1,[]))with
       | none=>rw[c]at h;cases h
       | some r=>
         rw[c]at h;simp only[YcH,Ah8.injEq,Prod.mk.injEq]at h;obtain⟨rfl,rfl⟩:=h;have e:=(JO bs p.1 r.1 [] r.2 c g1 g2).2.2.1;rw[K5 d n p.1 p.2 a (YbC e.length_le hl)];simp only[YbG];rw[b];simp only;rw[Rs bs p.1 r.1 [] r.2 c g1 g2 hl];rfl
theorem Vf{m2:Nat}(a:1≤most){bs:List Nat}{F:List K}{rows:List (List Nat)}(h:Gj most step bs start=some (F,rows))(b:F.length≤m2):Gj m2 step bs start=some (F,rows):=
 Jb (K5 a _ F rows (OP a h) b) (J_ _) m2 b
theorem Km{m2:Nat}(a:1≤most){F:List K}(h:EA most step start=some F)(b:F.length≤m2):EA m2 step start=some F:=by
 unfold EA at h ⊢;cases hd:Gj most step (AhO 256) start with
 | none=>rw[hd]at h;cases h
 | some p=>
   rw[hd]at h;simp only[YcH,Ah8.injEq]at h;subst h;rw[Vf a (rows:=p.2) hd b];rfl
theorem Mo(b:1≤most){F:List K}(h:EA most step start=some F):1≤F.length∧F.length≤most∧F.Nodup∧F[0]?=some start:=by
 unfold EA at h;cases hd:Gj most step (AhO 256) start with
 | none=>rw[hd]at h;cases h
 | some p=>
   rw[hd]at h;simp only[YcH,Ah8.injEq]at h;subst h;obtain⟨g1,g2,a,-⟩:=DL (P:=fun _=>True) b trivial (fun _ _ _=>trivial) (AhO 256) most p.1 p.2 hd;exact⟨(X_.1 a).1,g1,g2,a⟩
theorem Q6{m2:Nat}(c:1≤most)(a:1≤m2){F:List K}(h:EA most step start=some F)(d:m2<F.length):EA m2 step start=none:=by
 cases b:EA m2 step start with
 | none=>rfl
 | some F'=>
   have l1:=(Mo c h).2.1;have l2:=(Mo a b).2.1;rw[Km a b (by omega)]at h;injection h with h
   subst h;omega
end
theorem FO.sym{x y:BitVec 256}(h:FO x y):FO y x:=fun c a=>by
 cases b:x.getLsbD c with
 | false=>rfl
 | true=>rw[h c b]at a;cases a
theorem Wq{l:List (BitVec 256)}(h:l.Pairwise FO){x y:BitVec 256}(e:x∈l)(f:y∈l)(b:x≠y):FO x y:=by
 obtain⟨i,c,rfl⟩:=YcQ e;obtain⟨j,d,rfl⟩:=YcQ f;rcases YcT i j with a | rfl | a
 ·exact Ya6.1 h i j c d a
 ·exact absurd rfl b
 ·exact(Ya6.1 h j i d c a).sym
theorem NC{sets:List (BitVec 256)}{x:BitVec 256}:x∈BA sets↔x∈BT sets:=by
 unfold BA;rw[Ycd];constructor
 ·rintro⟨b,-,a⟩;exact(YbV.1 a).1
 ·exact fun h=>⟨(AP x 0).1,Ych.2 (Ew x 0),YbV.2 ⟨h,by simp⟩⟩
theorem Qp(sets:List (BitVec 256)):(BA sets).Pairwise FO:=by
 have a:=Jr sets;unfold BA;rw[YcO];refine⟨fun b _=>a.filter _,List.pairwise_lt_range.imp fun{b c} d x f y g=>?_⟩;have⟨h,j⟩:=YbV.1 f;have⟨k,l⟩:=YbV.1 g;refine Wq a h k fun e=>?_;subst e;have m:(AP x 0).1=b:=by simpa using j
 have e2:(AP x 0).1=c:=by simpa using l
 omega
theorem UX(sets:List (BitVec 256)){b:Nat}(c:b<256):cnt (BA sets) b=1:=by
 unfold cnt;have⟨x,d,a⟩:=(Iw sets).all b c;have⟨y,e⟩:=XN (l:=(BA sets).filter fun x=>x.getLsbD b) (b:=b) ((Qp sets).filter _) (fun z f=>(YbV.1 f).2) (YcS (YbV.2 ⟨NC.2 d,a⟩));rw[e];rfl
def RP(a:O_)(l:List Int):Prop:=∀q∈l,a.has q=true
def Wl(a:O_)(sets:List (BitVec 256)):Prop:=∀e∈a.edges,e.sil=false→okE a e=true→e.set∈sets
theorem UI(a:O_):Wl a (CM a):=fun e c hs b=>by
 unfold okE at b;rw[h_]at b;obtain⟨row,d,-,f⟩:=RD b.1;exact Ycd.2 ⟨row,d_ d,Ycp.2 ⟨e,(f e).2 ⟨c,hs,rfl,b.2⟩,rfl⟩⟩
theorem R5{a:O_}{sets:List (BitVec 256)}(n:Wl a sets){g b:Nat}(hs:E3 sets g b=true){l:List Int}(p:RP a l):Bj a l g=Bj a l b:=by
 have d:∀g b:Nat,E3 sets g b=true→∀q,JA a (·∈l) g q→JA a (·∈l) b q:=fun g b hs q ⟨e,h,j,r,k,m,t⟩=>
  ⟨e,h,j,by rw[←Cv.1 hs e.set (n e h j (by unfold okE;rw[p _ k,m];rfl))];exact r,k,m,t⟩
 have f:E3 sets b g=true:=Cv.2 fun c u=>(Cv.1 hs c u).symm;unfold Bj goS;have e:JA a (·∈l) g=JA a (·∈l) b:=funext fun q=>propext ⟨d g b hs q,d b g f q⟩;rw[e]
theorem Z9{a:O_}{sets:List (BitVec 256)}(f:Wl a sets):Zd (RP a) (Bj a) (Fk sets):=fun b m h=>by
 have⟨g,g1,g2,d⟩:=OV (cells:=sets) (b:=b) b (Td sets b);have j:g≠b:=fun e=>by rw[e,h]at d;cases d
 exact⟨g,by omega,d,fun x k=>R5 f (Cv.2 fun c l=>(Cv.1 g2 c l).symm) k⟩
noncomputable abbrev Kh(a:O_):List Int:=EE (Mc a)
theorem Qq(a:O_):RP a (Kh a):=fun q b=>HA a q ((Fm (Ei (HA a)) q).1 b)
theorem O1{a:O_}(l:List Int)(b:Nat)(_:RP a l):RP a (Bj a l b):=KB
noncomputable def Mn(a:O_)(most:Nat):Option (List (List Int)):=EA most (Bj a) (Kh a)
theorem detA(a:O_){most:Nat}(b:1≤most):(Gj most (Bj a) (De (CM a)) (Kh a)).map Prod.fst=Mn a most:=by
 rw[P5];exact ZE (Z9 (UI a)) b (Qq a) O1
structure LQ(a:O_)(F:List (List Int))(st:Int→Nat→Int)(fi:Int→Bool):Prop where
 st:∀(q b:Nat) (x:List Int),F[q]?=some x→b<256→∃t:Nat,st (q:Int) b=(t:Int)∧F[t]?=some (Bj a x b)
 fi:∀(q:Nat) (x:List Int),F[q]?=some x→fi (q:Int)=decide (a.fin∈x)
theorem Sn{a:O_}{most:Nat}{bs:List Nat}{F:List (List Int)}{rows:List (List Nat)}(b:1≤most)(h:Gj most (Bj a) bs (Kh a)=some (F,rows)):RS most (Bj a) bs (Kh a) F.length F rows∧∀x∈F,RP a x:=by
 obtain⟨-,-,-,c⟩:=DL (P:=RP a) b (Qq a) O1 bs most F rows h;exact⟨MR b F.length F rows (OP b h) fun j d=>d,c⟩
theorem Yo{a:O_}{most:Nat}{bs:List Nat}{F:List (List Int)}{rows:List (List Nat)}(e:RS most (Bj a) bs (Kh a) F.length F rows){q:Nat}{row:List Nat}(f:rows[q]?=some row):row.length=bs.length∧∀t∈row,t<F.length:=by
 have g:=e.cols row (d_ f);refine⟨g,fun t h=>?_⟩;have⟨k,c⟩:=YaT h;have j:=(X_.1 c).1;have⟨b,m⟩:=Am (l:=bs) (k:=k) (by omega);have d:=(X_.1 f).1;rw[e.rl]at d;have⟨x,n⟩:=Am (l:=F) (k:=q) d;exact(X_.1 (e.ok q k row b t x f m c n)).1
theorem Ac5{a:O_}{most:Nat}{F:List (List Int)}{rows:List (List Nat)}(I:1≤most)(J:most≤65536)(h:Gj most (Bj a) (De (CM a)) (Kh a)=some (F,rows)):
  Bp (BA (CM a)) (rows.map CW) F.length=true∧LQ a F (Ar (some (BO (BA (CM a)) (rows.map CW) (F.map fun l=>decide (a.fin∈l))))) (AG (some (BO (BA (CM a)) (rows.map CW) (F.map fun l=>decide (a.fin∈l)))))∧e_ (some (BO (BA (CM a)) (rows.map CW) (F.map fun l=>decide (a.fin∈l))))=F.length:=by
 have⟨e,K⟩:=Sn I h;have Q:=(X_.1 e.zero).1;have D:=e.len;have n:(rows.map CW).length=F.length:=by rw[Z_,e.rl]
 have p:(De (CM a)).length=(BA (CM a)).length:=Z_ _;have hs:Bp (BA (CM a)) (rows.map CW) F.length=true:=by
  rw[Tf];refine⟨⟨by omega,by omega,n⟩,fun b j=>UX _ j,fun r L=>?_⟩;obtain⟨row,d,rfl⟩:=Ycp.1 L;have⟨q,M⟩:=YaT d;have⟨E,G⟩:=Yo e M;unfold Hk;rw[h_,beq_iff_eq,Ycc];refine⟨by unfold CW;rw[Z_,E,p],fun t m=>?_⟩;obtain⟨u,N,rfl⟩:=Ycp.1 m;have:=G u N;simp only[h_,Zzj];omega
 have w:(F.map fun l=>decide (a.fin∈l)).length=F.length:=Z_ _;refine⟨hs,⟨fun q b x f j=>?_,fun q x f=>?_⟩,by simp only[e_,BO,Z_];exact e.rl⟩
 ·have⟨row,d⟩:=Am (l:=rows) (k:=q) (by rw[e.rl];exact(X_.1 f).1);have⟨E,G⟩:=Yo e d;have⟨O,P⟩:=Cg hs j;have⟨c,y⟩:=Am O;have z:=P c y;have⟨t,m⟩:=Am (l:=row) (k:=AR (BA (CM a)) b) (by omega);have A:(De (CM a))[AR (BA (CM a)) b]?=some (AP c 0).1:=by unfold De;rw[t_,y];rfl
  have B:=e.ok q _ row _ t x d A m f;have g:=NC.1 (d_ y);have H:=Iw (CM a);have C:E3 (CM a) (AP c 0).1 b=true:=Cv.2 fun s hs=>H.same c g _ _ (Gp (H.ne c g)).1 z s hs;refine⟨t,?_,by rw[B,R5 (UI a) C (K x (d_ f))]⟩;rw[IT (row:=CW row) (by rw[w];exact hs) (by rw[t_,d];rfl) j];unfold CW;rw[Ya5,t_,m];rfl
 ·simp[AG,BO,f]
end
section
variable{K:Type} [DecidableEq K]
def dd(l:List K):List K:=l.foldl (fun f k=>if k∈f then f else f++[k]) []
end
structure PA where
 n:Nat
 st:Nat→Nat→Nat
 fi:Nat→Bool
structure PA.Ok(M:PA):Prop where
 pos:0<M.n
 cl:∀q b,q<M.n→b<256→M.st q b<M.n
section
variable{M:PA}{by_ l:List Nat}{P:Nat→Nat}
def keyR(M:PA)(by_:List Nat)(P:Nat→Nat)(q:Nat):List Nat:=P q::by_.map fun b=>P (M.st q b)
def found(M:PA)(by_ l:List Nat)(P:Nat→Nat):List (List Nat):=dd (l.map (keyR M by_ P))
def cls(l:List Nat)(P:Nat→Nat):Nat:=(dd (l.map P)).length
end
section
variable{M:PA}{P:Nat→Nat}{most:Nat}
def cst(M:PA)(P:Nat→Nat)(k b:Nat):Nat:=match(AhO M.n).find? (fun q=>P q=k)with
 | some q=>P (M.st q b)
 | none=>0
end
section
attribute [local irreducible] AN Bb AY
def digM(x:Nat):List Nat:=Dn (x:Int)
def kN(k:List Nat):List Nat:=match k with
 | []=>[]
 | x::xs=>digM x++xs.flatMap fun y=>32::digM y
def rS(s:List Nat×Nat)(b:Nat):List Nat×Nat:=if b=32 then(s.1++[s.2],0)else(s.1,10*s.2+(b-48))
def kB(k:List Nat):ByteArray:=⟨((kN k).map UInt8.ofNat).toArray⟩
end
section
attribute [local irreducible] AN Bb AY
end
section
attribute [local irreducible] AN AY
end
section
attribute [local irreducible] AN Bb AY
end
section
open Go.Shelf Go.Proofs
def QL:Go.Shelf.Ren:=⟨fun | 137=>100 | 217=>136 | 266=>157 | n=>n,fun | 9=>9 | 5=>5 | 3=>3 | n=>n,fun | n=>n⟩
theorem Ul:Go.Proofs.Lays.n137 prog QL:={
 mixed:=by kernel_rfl
 f137:=func100.trans (congrArg some (by kernel_rfl))
 f217:=func136.trans (congrArg some (by kernel_rfl))
 f266:=func157.trans (congrArg some (by kernel_rfl))
 t3:=underlying3
 a3:=isAgg3
 z3:=sizeOf3
 v3:=zeroValue3
 t5:=underlying5
 a5:=isAgg5
 z5:=sizeOf5
 v5:=zeroValue5
 t9:=underlying9
 a9:=isAgg9
 z9:=sizeOf9
 v9:=zeroValue9}
open Go.RowKit in
theorem strings_IndexByte(s:ByteArray)(c:Int)(w:y_):
  Calls prog 100 #[.string s,.int .u8 c] w fun e a=>e= .returned (.int .i64 (Lib.indexByte s.data.toList c.toNat.toUInt8))∧a=w:=Any.strings_IndexByte Ul s c w
open Go.Lib in
theorem JB(s:ByteArray)(c:Nat)(H:Aa):AZ prog 100 #[.string s,.int .u8 (c:Int)] H (.int .i64 (indexByte s.data.toList (UInt8.ofNat c))):=by
 intro w a;refine⟨call100 _ w,?_⟩;refine(strings_IndexByte s (c:Int) w).mono ?_;rintro _ _ ⟨rfl,rfl⟩;exact⟨_,rfl,Y_.refl _,rfl,by subst a;exact A_.refl _ _⟩
end
open Go.Lib
def spB(s:ByteArray)(c:Nat):Bool:=decide (0≤indexByte s.data.toList (UInt8.ofNat c))
def WY:List v_:=[.int .u8 110,.int .u8 10,.int .u8 114,.int .u8 13,.int .u8 116,.int .u8 9]
def E5(H:Aa):Prop:=AL H 2 0 WY∧2<H.size
theorem E5.agr{H H':Aa}(h:E5 H)(a:A_ (D_ H) H H'):E5 H':=
 ⟨h.1.eq (a 2 h.2),Ae a (show D_ H 2 from h.2)⟩
theorem AgT:(prog.info? 360).bind (·.zero)=some (.agg #[.int .u8 0,.int .u8 0]):=by kernel_rfl
theorem AbF{s:ByteArray}{c:Nat}:(decide (indexByte s.data.toList (UInt8.ofNat c)≥0))=spB s c:=rfl
def OT(i:Nat):Nat×Nat:=match i with
 | 0=>(110,10)
 | 1=>(114,13)
 | _=>(116,9)
def Y4:ByteArray:=⟨#[40,41,91,93,123,125,124,38,45,42,43,63,46,92,47,94]⟩
def Vn:ByteArray:=⟨#[92,93,91,45,94,47]⟩
section
variable{g:Gr}{by_:List Nat}{a t:Nd}{F F':List NW}{i k:Nat}
variable(hby:∀c,c<256→∃r∈by_,r≤c∧∀n,g.next n r=g.next n c)
include hby
end
section
attribute [local irreducible] AN Bb AY
def askG(ask:Bool→Bool→Bool)(a b:Option AM):Gr:=⟨fun n c=>[⟨0,Ar a n.x c,Ar b n.y c⟩],fun n=>ask (AG a n.x) (AG b n.y)⟩
section
variable{ask:Bool→Bool→Bool}{a b:Option AM}
end
def xorB(x y:Bool):Bool:=x != y
def outB(x y:Bool):Bool:=x&& !y
section
variable{S:Nat→Prop}{H:Aa}{va vb:v_}{a b:Option AM}
end
end
section
attribute [local irreducible] AN AY
end
section
def oneM:AM:=BO [AlW 256] [[1],[1]] [false,true]
attribute [local irreducible] oneM AN Bb AY
end
section
attribute [local irreducible] oneM AN Bb AY
end
section
attribute [local irreducible] AN Bb AY
section
variable{K K':Type} [DecidableEq K] [DecidableEq K']{most:Nat}{step:K→Nat→K}{step':K'→Nat→K'}{start:K}{f:K→K'}{I:K→Prop}
end
attribute [local irreducible] EA
end
section
def AcS:AM:=BO [AlW 256] [[1],[0]] [false,true]
attribute [local irreducible] AcS AN Bb AY
end
section
attribute [local irreducible] AN AY
end
section
attribute [local irreducible] AN AY Bb
end
section
attribute [local irreducible] AN Bb AY AcS
def IE(o:Option AM):Prop:=∃cells next final,o=Mb cells next final
theorem IE.ok{o:Option AM}(h:IE o):∃a,EL o a:=by
 obtain⟨c,n,f,rfl⟩:=h;exact WE c n f
end
section
attribute [local irreducible] AN Bb AY
section
variable{K:Type}{most:Nat}{step:K→Nat→K}{start:K}{P:K→Prop}{fin:K→Bool}{sets:List (BitVec 256)}
theorem Hl [DecidableEq K](C:1≤most)(D:P start)(hs:∀x b,P x→P (step x b))(bs:List Nat):∀n,Br most step bs start n=none→∃L:List K,L.Nodup∧L.length=most+1∧∀x∈L,P x
 | 0,h=>by cases h
 | n+1,h=>by
   rw[Br]at h;cases w:Br most step bs start n with
   | none=>exact Hl C D hs bs n w
   | some p=>
     have⟨f,rows⟩:=p;obtain⟨H,I,-,E⟩:=DL (P:=P) C D hs bs n f rows w;rw[w]at h;simp only[YbG]at h;cases z:f[n]? with
     | none=>rw[z]at h;cases h
     | some x=>
       rw[z]at h;simp only[Option.map_eq_none_iff]at h;have d:=E x (d_ z);have A:∀(l:List Nat) (g:List K) (r:List Nat),g.length≤most→g.Nodup→(∀y∈g,P y)→l.foldl (Dq most step x) (some (g,r))=none→∃L:List K,L.Nodup∧L.length=most+1∧∀y∈L,P y:=fun l=>by
        induction l with
        | nil=>intro g r _ _ _ h;cases h
        | cons b l J=>
          intro g r M k F h;rw[Ycf]at h;cases a:atF most g (step x b)with
          | none=>
            unfold atF at a;cases t:g.findIdx? (·=step x b)with
            | some j=>rw[t]at a;cases a
            | none=>
              rw[t]at a;simp only at a;split at a
              ·cases a
              ·have B:step x b∉g:=fun m=>by
                rw[List.findIdx?_eq_none_iff]at t;have:=t _ m;simp at this
               refine⟨g++[step x b],YcK.2 ⟨k,by simp,fun u N v G=>?_⟩,by simp;omega,fun y c=>?_⟩
               ·rw[V_]at G;subst G;exact fun e=>B (e ▸ N)
               ·rcases q_.1 c with c | c
                ·exact F y c
                ·rw[V_]at c;subst c;exact hs x b d
          | some q=>
            have⟨g2,i⟩:=q;have e:Dq most step x (some (g,r)) b=some (g2,r++[i]):=by
             show(atF most g (step x b)).map _=_;rw[a];rfl
            rw[e]at h;obtain⟨-,O,Q,-⟩:=Jq a M k;exact J g2 _ O Q (fun y c=>by
             rcases Qo a y c with h | rfl
             ·exact F y h
             ·exact hs x b d) h
       exact A bs f [] H I E h
end
end
inductive ReM
 | eps
 | cls (s:BitVec 256)
 | cat (a b:ReM)
 | alt (a b:ReM)
 | star (a:ReM)
 | and_ (a b:ReM)
 | minus (a b:ReM)
def Av:ReM→v_
 | .eps=>.iface 167 (.agg #[])
 | .cls s=>.iface 230 (Bf s)
 | .cat a b=>.iface 179 (.agg #[Av a,Av b])
 | .alt a b=>.iface 174 (.agg #[Av a,Av b])
 | .star a=>.iface 182 (.agg #[Av a])
 | .and_ a b=>.iface 210 (.agg #[Av a,Av b])
 | .minus a b=>.iface 211 (.agg #[Av a,Av b])
theorem BP(r:ReM):∃T v,Av r= .iface T v:=by cases r<;>exact⟨_,_,rfl⟩
theorem Ec(r:ReM):(Av r).oneCell'=true:=by cases r<;>rfl
def ReM.nodes:ReM→Nat
 | .eps=>1
 | .cls _=>1
 | .cat a b=>1+a.nodes+b.nodes
 | .alt a b=>1+a.nodes+b.nodes
 | .star a=>1+a.nodes
 | .and_ a b=>1+a.nodes+b.nodes
 | .minus a b=>1+a.nodes+b.nodes
def ReM.plain:ReM→Bool
 | .eps=>true
 | .cls _=>true
 | .cat a b=>a.plain&&b.plain
 | .alt a b=>a.plain&&b.plain
 | .star a=>a.plain
 | .and_ _ _=>false
 | .minus _ _=>false
end Go.Proofs.YtdopnglgekglgaaGreatDoor
