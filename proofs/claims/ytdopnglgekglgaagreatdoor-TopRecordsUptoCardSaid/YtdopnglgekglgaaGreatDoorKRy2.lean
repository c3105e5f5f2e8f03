import Derived.Test.YtdopnglgekglgaaGreatDoorKRy1
import Derived.MapKept
import Derived.Laws.BytesArg
import Derived.Laws.Cover1
import Derived.DeepKeys3
import Derived.Maps.RangeRun
import Derived.Sort.OwnSortedInts
import Derived.Shelf.Sort.Plain
import Derived.Shelf.Slices.In.SortNone
import Derived.TacticsIn
import Derived.RangeFuncRecord
import Derived.Shelf.Strconv.AppendIntPublic10
set_option linter.unusedVariables false
set_option linter.unusedSimpArgs false
set_option linter.defProp false
set_option maxHeartbeats 100000000
open Array renaming replicate → AlK
open BitVec renaming allOnes → Al6, ofInt → Am3, twoPow → AnY
open List renaming replicate → Ah1, range → Ah8
open Nat renaming reduceMul → AmQ, reducePow → AmR
open Option renaming some → AlQ
set_option maxRecDepth 100000
open Go.Proofs.Tryz
open Go renaming TypeId → x_, Value → v_, Program → w_, World → y_
namespace Go.Proofs.YtdopnglgekglgaaGreatDoor
section
attribute [local irreducible] AN
theorem O2:CP.Ones:=by
 intro S H b x h u a;obtain rfl:=h;simp[An]at a;rcases a with rfl | rfl | rfl | rfl<;>rfl
theorem Wa:CP.Free:=fun S S' H H' a x h=>h
theorem S_.ofBlk{α:Type}{T:Ty α}{S:Nat→Prop}{H:Aa}{b n:Nat}{e:x_}{l:List v_}{xs:List α}(a:K_ H b e l)(c:S b)(d:T.reps S H l xs)(f:n=xs.length)(g:n≤maxLen):S_ T S H (b_ b) n xs:=
 S_.intro c (Yb2 f.symm) g (a.cells (fun j v h=>by rw[P_];exact h)) d
def CB:Option AM→List (BitVec 256)
 | none=>[Al6 256]
 | some A=>A.sets
end
theorem AiK{P:w_}{c:Array x_}{t:x_}{k d:IntKind}{a b:Int}{S:Nat→Prop}{H:Aa}{K:v_→Prop}(h:K (.int k (if b<a then b else a))):A7 P (Builtin.min_ c t [.int k a,.int d b].toArray) S H K:=by
 refine A7.mk _ (fun w _=>?_) h;simp[Builtin.min_,Builtin.min2]
theorem YU{P:w_}{c:Array x_}{t:x_}{k d:IntKind}{a b:Int}{S:Nat→Prop}{H:Aa}{K:v_→Prop}(h:K (.int k (if a<b then b else a))):A7 P (Builtin.max_ c t [.int k a,.int d b].toArray) S H K:=by
 refine A7.mk _ (fun w _=>?_) h;simp[Builtin.max_,Builtin.max2]
def pc8(a:Nat):Nat:=((Ah8 8).filter fun j=>a.testBit j).length
def g1(a:Nat):Nat:=((a / 2) &&& 85)+(a &&& 85)
def g2(a:Nat):Nat:=((a / 4) &&& 51)+(a &&& 51)
def p8(w i:Nat):Nat:=pc8 (w / 256^i % 256)
def DH(s:BitVec 256):Nat:=((Ah8 256).filter fun b=>s.getLsbD b).length
def AP(s:BitVec 256)(n:Nat):Nat×Bool:=match(Ah8 256).find? fun b=>decide (n≤b)&&s.getLsbD b with
 | some b=>(b,true)
 | none=>(0,false)
theorem Ew(s:BitVec 256)(n:Nat):(AP s n).1<256:=by
 unfold AP;split
 ·rename_i b h;have:=Ycu h;simpa using this
 ·decide
theorem SL(s:BitVec 256)(n:Nat)(w:n≤256)(H:Aa):AZ prog 153 #[Bf s,C_ n] H (.tuple #[.int .u8 ((AP s n).1:Int),.bool (AP s n).2]):=by
 refine Al.of_vc func153 rfl (call153 _) (BL (St.nil H) (An s) rfl fun pb H1 st1=>(YU ?_));rw[G_ (by omega)];(conv=>whnf);refine A8.mk [4,5,6] (fun k:Nat=>[.int .u8 0,.bool false,C_ k]) (fun k H2=>n≤k∧k≤256∧(∀j,n≤j→j<k→s.getLsbD j=false)∧St H H2 [pB 227 pb (An s)]) (fun k _=>256-k) ?_ ?_
 ·(conv=>whnf);exact⟨n,rfl,J_ _,w,fun j r y=>by omega,st1⟩
 ·rintro k H2 t ⟨f,A,c,g⟩;refine Ag.m2 (fun h=>?_) (fun h=>?_)
  ·have d:k<256:=by omega
   refine L_ (cs:=An s) ((g.blk 0 rfl).cells fun j v z=>by rw[P_];exact z) trivial ?_;(conv=>whnf);rw[w8 (x:=(k:Int)) (by omega) (by omega)];refine Ak (Xn s k d H2) fun H3 l=>?_;have e:=g.call l;cases u:s.getLsbD k with
   | true=>
     (conv=>whnf);rw[w8 (x:=(k:Int)) (by omega) (by omega)];(conv=>whnf);have m:((Ah8 256).find? fun b=>decide (n≤b)&&s.getLsbD b)=some k:=by
      rw[List.find?_range_eq_some];refine⟨by simp[f,u],by simpa using d,fun j p=>?_⟩;by_cases a:n≤j
      ·simp[c j a p]
      ·simp[a]
     refine⟨?_,e.old⟩;unfold AP;rw[m];first | done | rfl
   | false=>
     (conv=>whnf);rw[R_ k (by omega)];refine⟨rfl,k+1,by simp,⟨by omega,by omega,fun j r y=>?_,e⟩,by omega⟩;by_cases q:j=k
     ·subst q;exact u
     ·exact c j r (by omega)
  ·obtain rfl:k=256:=by omega
   (conv=>whnf);have m:((Ah8 256).find? fun b=>decide (n≤b)&&s.getLsbD b)=none:=by
    rw[List.find?_range_eq_none];intro j p;by_cases a:n≤j
    ·simp[c j a (by simpa using p)]
    ·simp[a]
   refine⟨?_,g.old⟩;unfold AP;rw[m];first | done | rfl
structure Qh(P:w_)(t kt et:x_)(d:TypeDesc)(z:v_):Prop where
 under:P.underlying t=some (.map kt et)
 key:P.underlying kt=some d
 zero:(P.info? et).bind (·.zero)=some z
structure Nx(d:TypeDesc){α:Type}(enc:α→v_):Prop where
 isKey:∀a,Go.MapKept.IsKey d (enc a)
 inj:∀a b,enc a=enc b→a=b
theorem Zae:Nx .string Value.string:=⟨fun _=>trivial,fun a b h=>by cases h;rfl⟩
theorem keyI(k:IntKind):Nx (.int k) (Value.int k):=⟨fun _=>rfl,fun a b h=>by cases h;rfl⟩
def Dm{α:Type}(enc:α→v_)(H:Aa)(b:Nat)(m:α→Option v_):Prop:=
 ∃es clock,H[b]?=some (.map es clock)∧Go.MapKept.Stamped es clock∧(∀(i:Nat) (x:MapEntry),es[i]?=some x→∃a,x.key=enc a∧m a=some x.val)∧
  ∀a v,m a=some v→∃(i:Nat) (x:MapEntry),es[i]?=some x∧x.key=enc a∧x.val=v
theorem Dm.agr{α:Type}{enc:α→v_}{H H':Aa}{b:Nat}{m:α→Option v_}{S:Nat→Prop}(h:Dm enc H b m)(k:A_ S H H')(c:S b):Dm enc H' b m:=by
 have⟨d,a,e,f⟩:=h;exact⟨d,a,(k b c).trans e,f⟩
theorem Dm.lt{α:Type}{enc:α→v_}{H:Aa}{b:Nat}{m:α→Option v_}(h:Dm enc H b m):b<H.size:=by
 have⟨d,a,c,e⟩:=h;exact(Yaa.1 c).1
theorem Dm.ext{α:Type}{enc:α→v_}{H:Aa}{b:Nat}{m m':α→Option v_}(h:Dm enc H b m)(c:∀a,m a=m' a):Dm enc H b m':=(funext c:m=m') ▸ h
def FR{α:Type}(enc:α→v_)(H:Aa)(b:Nat)(a:α)(s:Nat):Prop:=
 ∃es clock,H[b]?=some (.map es clock)∧∀(i:Nat) (x:MapEntry),es[i]?=some x→(x.born=s↔x.key=enc a)
theorem FR.agr{α:Type}{enc:α→v_}{H H':Aa}{b:Nat}{a:α}{s:Nat}{S:Nat→Prop}(h:FR enc H b a s)(k:A_ S H H')(d:S b):FR enc H' b a s:=by
 have⟨e,c,f,g⟩:=h;exact⟨e,c,(k b d).trans f,g⟩
def Wm{α:Type}(enc:α→v_)(H:Aa)(K:Aa→Prop)(b:Nat)(m:α→Option v_):Prop:=
 ∀H',Dm enc H' b m→A_ (fun k=>k≠b) H H'→H'.size=H.size→K H'
open Classical in
noncomputable def put{α:Type}(m:α→Option v_)(a:α)(v:Option v_):α→Option v_:=fun b=>if b=a then v else m b
theorem Bw{α:Type}(m:α→Option v_)(a:α)(v:Option v_):put m a v a=v:=I_ rfl
theorem C4{α:Type}{m:α→Option v_}{a b:α}{v:Option v_}(h:b≠a):put m a v b=m b:=G_ h
section
variable{α:Type}{enc:α→v_}{P:w_}{t kt et:x_}{d:TypeDesc}{z:v_}{S:Nat→Prop}{H:Aa}{b:Nat}{m:α→Option v_}{a:α}
theorem Cy{es:Array MapEntry}{a:Nat}(h:Go.MapKept.Stamped es a){i j:Nat}{x y:MapEntry}(d:es[i]?=some x)(f:es[j]?=some y)(e:x.key=y.key):i=j:=by
 have g:=h.2.2;have b:(es.toList.map (·.key))[i]?=some x.key:=by simp[d]
 have c:(es.toList.map (·.key))[j]?=some x.key:=by simp[f,e]
 exact(Yc5 (X_.1 b).1 g).1 (b.trans c.symm)
theorem ET{es:Array MapEntry}{a:Nat}(h:Go.MapKept.Stamped es a){i j:Nat}{x y:MapEntry}(d:es[i]?=some x)(f:es[j]?=some y)(e:x.born=y.born):i=j:=by
 have g:=h.2.1;have b:(es.toList.map (·.born))[i]?=some x.born:=by simp[d]
 have c:(es.toList.map (·.born))[j]?=some x.born:=by simp[f,e]
 exact(Yc5 (X_.1 b).1 g).1 (b.trans c.symm)
theorem GE(a:(P.info? et).bind (·.zero)=some z)(w:y_):(zeroValue et).run P w= .ok z w:=by
 cases b:P.info? et with
 | none=>rw[b]at a;cases a
 | some i=>
   have c:i.zero=some z:=by simpa [b]using a
   simp[zeroValue,typeInfo,b,c]
theorem Io(h:Nx d enc){es:Array MapEntry}(c:∀(i:Nat) (x:MapEntry),es[i]?=some x→∃a,x.key=enc a∧m a=some x.val)(t:∀a v,m a=some v→∃(i:Nat) (x:MapEntry),es[i]?=some x∧x.key=enc a∧x.val=v)(a:α):
  (Instr.findNow d (enc a) es.toList 0=some none∧m a=none∧∀x∈es.toList,x.key≠enc a)∨∃j e,Instr.findNow d (enc a) es.toList 0=some (some (j,e.val))∧es[j]?=some e∧e.key=enc a∧m a=some e.val:=by
 have f:∀x∈es.toList,Go.MapKept.IsKey d x.key:=fun x k=>by
  have⟨i,u⟩:=YaT k;obtain⟨b,l,_⟩:=c i x (by simpa using u);rw[l];exact h.isKey b
 rcases Go.MapKept.findNow_spec (h.isKey a) es.toList 0 f with⟨n,g⟩ | ⟨j,e,n,g,q⟩
 ·refine .inl ⟨n,?_,g⟩;cases p:m a with
  | none=>rfl
  | some v=>
    obtain⟨i,x,k,w,_⟩:=t a v p;exact absurd w (g x (d_ (by simpa using k)))
 ·have r:es[j]?=some e:=by simpa using g
  refine .inr ⟨j,e,by simpa using n,r,q,?_⟩;have⟨a',l,e2⟩:=c j e r;rw[h.inj a a' (q.symm.trans l)];exact e2
theorem X8(c:Qh P t kt et d z)(g:Nx d enc)(h:Dm enc H b m)(p:S b){K:v_→Prop}(k:K ((m a).getD z)):A7 P (Instr.lookup t (.map (some b)) (enc a) false) S H K:=by
 have⟨B,l,q,C,r,u⟩:=h;refine A7.mk _ (fun w x=>?_) k;have f:=(x b p).trans q;rcases Io g r u a with⟨n,e2,y⟩ | ⟨j,e,n,e2,y,A⟩
 ·simp[Instr.lookup,run_underlying c.under,Go.MapKept.run_getObj_map f,Go.MapKept.run_checkKey c.key (g.isKey a),Go.MapKept.run_findKey c.key n,GE c.zero,e2]
 ·simp[Instr.lookup,run_underlying c.under,Go.MapKept.run_getObj_map f,Go.MapKept.run_checkKey c.key (g.isKey a),Go.MapKept.run_findKey c.key n,A]
theorem Up(c:Qh P t kt et d z)(g:Nx d enc)(h:Dm enc H b m)(p:S b){K:v_→Prop}(k:K (.tuple #[(m a).getD z,.bool (m a).isSome])):A7 P (Instr.lookup t (.map (some b)) (enc a) true) S H K:=by
 have⟨B,l,q,C,r,u⟩:=h;refine A7.mk _ (fun w x=>?_) k;have f:=(x b p).trans q;rcases Io g r u a with⟨n,e2,y⟩ | ⟨j,e,n,e2,y,A⟩
 ·simp[Instr.lookup,run_underlying c.under,Go.MapKept.run_getObj_map f,Go.MapKept.run_checkKey c.key (g.isKey a),Go.MapKept.run_findKey c.key n,GE c.zero,e2]
 ·simp[Instr.lookup,run_underlying c.under,Go.MapKept.run_getObj_map f,Go.MapKept.run_checkKey c.key (g.isKey a),Go.MapKept.run_findKey c.key n,A]
abbrev JQ(w:y_)(b:Nat)(o:Obj):y_:={w with heap:=w.heap.setIfInBounds b o}
theorem CY{w:y_}{o o':Obj}(h:w.heap[b]?=some o):(JQ w b o').heap[b]?=some o'∧A_ (fun k=>k≠b) w.heap (JQ w b o').heap∧(JQ w b o').heap.size=w.heap.size:=
 ⟨(Go.MapKept.heap_set h).1,fun k a=>(Go.MapKept.heap_set h).2 k a,by simp⟩
theorem JM{es:Array MapEntry}{c:Nat}(hs:Go.MapKept.Stamped es c)(r:∀(i:Nat) (x:MapEntry),es[i]?=some x→∃a,x.key=enc a∧m a=some x.val)(t:∀a v,m a=some v→∃(i:Nat) (x:MapEntry),es[i]?=some x∧x.key=enc a∧x.val=v)(g:∀x∈es.toList,x.key≠enc a){H':Aa}{v:v_}
  (n:H'[b]?=some (.map (es.push ⟨enc a,v,c⟩) (c+1))):Dm enc H' b (put m a (some v))∧FR enc H' b a c:=by
 have j:∀i x,(es.push ⟨enc a,v,c⟩)[i]?=some x→(i<es.size∧es[i]?=some x)∨(i=es.size∧x=⟨enc a,v,c⟩):=by
  intro i x d;rw[YbK]at d;by_cases l:i=es.size
  ·rw[I_ l]at d;exact .inr ⟨l,by cases d;rfl⟩
  ·rw[G_ l]at d;exact .inl ⟨(Yaa.1 d).1,d⟩
 refine⟨⟨_,_,n,Go.MapKept.stamped_push hs g,fun i x d=>?_,fun a' u k=>?_⟩,_,_,n,fun i x d=>?_⟩
 ·rcases j i x d with⟨_,d⟩ | ⟨_,rfl⟩
  ·have⟨a',p,e2⟩:=r i x d;have:a'≠a:=fun h=>g x (d_ (by simpa using d)) (by rw[p,h]);exact⟨a',p,by rw[C4 this];exact e2⟩
  ·exact⟨a,rfl,Bw _ _ _⟩
 ·by_cases q:a'=a
  ·subst q;rw[Bw]at k;cases k;exact⟨es.size,⟨enc a',v,c⟩,by simp,rfl,rfl⟩
  ·rw[C4 q]at k;have⟨i,x,d,e⟩:=t a' u k;exact⟨i,x,by rw[YbK,G_ (by have:=(Yaa.1 d).1;omega)];exact d,e⟩
 ·rcases j i x d with⟨_,d⟩ | ⟨_,rfl⟩
  ·have f:x∈es.toList:=d_ (by simpa using d);have:=hs.1 x f;exact⟨fun h=>by omega,fun h=>absurd h (g x f)⟩
  ·simp
theorem SI(B:Nx d enc){es:Array MapEntry}{g:Nat}(hs:Go.MapKept.Stamped es g)(C:∀(i:Nat) (x:MapEntry),es[i]?=some x→∃a,x.key=enc a∧m a=some x.val)(D:∀a v,m a=some v→∃(i:Nat) (x:MapEntry),es[i]?=some x∧x.key=enc a∧x.val=v){j:Nat}{e:MapEntry}(n:es[j]?=some e)(u:e.key=enc a){f:MapEntry→MapEntry}{v:v_}
  (k:(f e).key=enc a) (p:(f e).val=v) (q:∀x,(f x).born=x.born) {H':Aa}
  (A:H'[b]?=some (.map (es.modify j f) g)):Dm enc H' b (put m a (some v))∧FR enc H' b a e.born:=by
 have r:∀i x,(es.modify j f)[i]?=some x→(i≠j∧es[i]?=some x)∨(i=j∧x=f e):=by
  intro i x c;rw[Yaf]at c;by_cases y:j=i
  ·subst y;rw[I_ rfl,n]at c;exact .inr ⟨rfl,by cases c;rfl⟩
  ·rw[G_ y]at c;exact .inl ⟨Ne.symm y,c⟩
 refine⟨⟨_,_,A,Go.MapKept.stamped_modify hs _ _ (fun x _=>q x) (fun x _ c=>?_),fun i x c=>?_,fun a' E w=>?_⟩,_,_,A,fun i x c=>?_⟩
 ·rw[n]at c;cases c;rw[k,u]
 ·rcases r i x c with⟨l,c⟩ | ⟨_,rfl⟩
  ·have⟨a',t,e2⟩:=C i x c;have:a'≠a:=fun h=>l (Cy hs c n (by rw[t,h,u]));exact⟨a',t,by rw[C4 this];exact e2⟩
  ·exact⟨a,k,by rw[Bw,p]⟩
 ·by_cases z:a'=a
  ·subst z;rw[Bw]at w;cases w;exact⟨j,f e,by rw[Yaf,I_ rfl,n]<;>rfl,k,p⟩
  ·rw[C4 z]at w;have⟨i,x,c,t,e2⟩:=D a' E w;refine⟨i,x,?_,t,e2⟩;rw[Yaf,G_ ?_]
   ·exact c
   ·rintro rfl;rw[n]at c;cases c;exact z (B.inj _ _ (t.symm.trans u))
 ·rcases r i x c with⟨l,c⟩ | ⟨_,rfl⟩
  ·exact⟨fun h=>absurd (ET hs c n h) l,fun h=>absurd (Cy hs c n (h.trans u.symm)) l⟩
  ·exact⟨fun _=>k,fun _=>q e⟩
theorem AeN(g:Qh P t kt et d z)(n:Nx d enc)(h:Dm enc H b m){v:v_}{K:Aa→Prop}(k:Wm enc H K b (put m a (some v))):By P (Instr.mapUpdate t (.map (some b)) (enc a) v) H K:=by
 have⟨p,c,l,C,r,u⟩:=h;refine By.mk fun w D=>?_;subst D;rcases Io n r u a with⟨x,e2,q⟩ | ⟨j,e,x,e2,q,E⟩
 ·have⟨y,A,B⟩:=CY (o':=.map (p.push ⟨enc a,v,c⟩) (c+1)) l;exact⟨JQ w b (.map (p.push ⟨enc a,v,c⟩) (c+1)),by simp[Instr.mapUpdate,run_underlying g.under,Go.MapKept.run_getObj_map l,Go.MapKept.run_checkKey g.key (n.isKey a),Go.MapKept.run_findKey g.key x,Go.MapKept.run_setObj_map _ l],⟨rfl,rfl,rfl⟩,k _ (JM C r u q y).1 A B⟩
 ·have⟨y,A,B⟩:=CY (o':=.map (p.modify j fun e=>{e with key:=enc a,val:=v}) c) l;exact⟨JQ w b (.map (p.modify j fun e=>{e with key:=enc a,val:=v}) c),by simp[Instr.mapUpdate,run_underlying g.under,Go.MapKept.run_getObj_map l,Go.MapKept.run_checkKey g.key (n.isKey a),Go.MapKept.run_findKey g.key x,Go.MapKept.run_setObj_map _ l,e2,q,Go.MapKept.run_keyThatStays (n.isKey a)],⟨rfl,rfl,rfl⟩,k _ (SI n C r u e2 q (f:=fun e=>{e with key:=enc a,val:=v}) rfl rfl (fun _=>rfl) y).1 A B⟩
theorem mdel{vt:x_}{A:Array x_}(q:Qh P t kt et d z)(E:Nx d enc)(h:Dm enc H b m){K:v_→Aa→Prop}(B:A[0]?=some t)(k:Wm enc H (K (.tuple #[])) b (put m a none)):Ba P (Builtin.delete_ A vt [.map (some b),enc a].toArray) H K:=by
 have⟨f,c,r,G,I,J⟩:=h;refine Ba.mk fun w W=>?_;subst W;rcases Io E I J a with⟨u,e2,F⟩ | ⟨j,e,u,e2,F,X⟩
 ·have⟨L,M,N⟩:=CY (o':=.map f c) r;refine⟨_,JQ w b (.map f c),by simp[Builtin.delete_,B,run_underlying q.under,Go.MapKept.run_getObj_map r,Go.MapKept.run_checkKey q.key (E.isKey a),Go.MapKept.run_findKey q.key u,Go.MapKept.run_setObj_map _ r],⟨rfl,rfl,rfl⟩,k _ ⟨f,c,L,G,fun i x l=>?_,fun a' O g=>?_⟩ M N⟩
  ·have⟨a',u,e2⟩:=I i x l;exact⟨a',u,by rw[C4 (fun h=>F x (d_ (by simpa using l)) (by rw[u,h]))];exact e2⟩
  ·by_cases y:a'=a
   ·subst y;rw[Bw]at g;cases g
   ·rw[C4 y]at g;exact J a' O g
 ·have⟨L,M,N⟩:=CY (o':=.map (f.eraseIdxIfInBounds j) c) r;have Q:j<f.size:=(Yaa.1 e2).1;have p:(f.eraseIdxIfInBounds j).toList=f.toList.eraseIdx j:=by simp[Array.eraseIdxIfInBounds,Q]
  have n:∀x,x∈(f.eraseIdxIfInBounds j).toList↔∃i,i≠j∧f[i]?=some x:=fun x=>by
   rw[p,List.mem_eraseIdx_iff_getElem?];simp
  refine⟨_,JQ w b (.map (f.eraseIdxIfInBounds j) c),by simp[Builtin.delete_,B,run_underlying q.under,Go.MapKept.run_getObj_map r,Go.MapKept.run_checkKey q.key (E.isKey a),Go.MapKept.run_findKey q.key u,Go.MapKept.run_setObj_map _ r],⟨rfl,rfl,rfl⟩,k _ ⟨_,c,L,Go.MapKept.stamped_erase G j,fun i x l=>?_,fun a' O g=>?_⟩ M N⟩
  ·have⟨R,S,C⟩:=(n x).1 (d_ (i:=i) (by rw[Yag];exact l));have⟨a',D,T⟩:=I R x C;exact⟨a',D,by rw[C4 (fun h=>S (Cy G C e2 (by rw[D,h,F])))];exact T⟩
  ·by_cases y:a'=a
   ·subst y;rw[Bw]at g;cases g
   ·rw[C4 y]at g;have⟨i,x,l,D,T⟩:=J a' O g;have U:i≠j:=by
     rintro rfl;rw[e2]at l;cases l;exact y (E.inj _ _ (D.symm.trans F))
    have⟨R,V⟩:=YaT ((n x).2 ⟨i,U,l⟩);exact⟨R,x,by rw[←Yag];exact V,D,T⟩
theorem QW{K:v_→Aa→Prop}(k:∀b H',b=H.size→H'.size=b+1→Dm enc H' b (fun _=>none)→A_ (fun k=>k<b) H H'→K (.map (some b)) H'):Ba P (Instr.makeMap t none) H K:=by
 refine Ba.mk fun w a=>?_;subst a;exact⟨_,w.alloc (.map #[] 0),by simp[Instr.makeMap],⟨rfl,rfl,rfl⟩,k w.heap.size _ rfl (by rw[Fd];simp) ⟨#[],0,by rw[Fd];simp,Go.MapKept.stamped_empty 0,by simp,by simp⟩ (Do _ _)⟩
end
section
variable{α:Type}{enc:α→v_}{b:Nat}{m m':α→Option v_}{B:Nat→Prop}{H0 H H':Aa}{ps:List Pc}
def pM(enc:α→v_)(b:Nat)(m:α→Option v_):Pc:=⟨fun k=>k=b,fun H=>Dm enc H b m,fun h hp=>hp.agr h rfl⟩
theorem E_.mapNew(c:E_ B H0 H ps)(d:b=H.size)(hs:H'.size=b+1)(e:Dm enc H' b (fun _=>none))(f:A_ (fun k=>k<b) H H'):E_ B H0 H' (ps++[pM enc b fun _=>none]):=by
 subst d;exact c.add (f.mono fun k a=>a) _ e fun k a=>by have:k=H.size:=a;omega
theorem E_.map(a:E_ B H0 H ps)(i:Nat)(c:ps[i]?=some (pM enc b m)):Dm enc H b m:=a.at_ i c
theorem QY{P:w_}{t kt et:x_}{d:TypeDesc}{z v:v_}{a:α}{K:Aa→Prop}(e:E_ B H0 H ps)(i:Nat)(n:Qh P t kt et d z)(c:Nx d enc)(f:ps[i]?=some (pM enc b m))(p:∀a',put m a (some v) a'=m' a')
  (k:∀H',E_ B H0 H' (ps.set i (pM enc b m'))→K H'):By P (Instr.mapUpdate t (.map (some b)) (enc a) v) H K:=by
 refine AeN n c (e.map i f) ?_;intro H' g h j;exact k H' (e.upd i f (h.mono fun k c l=>c.2 l) (pM enc b m') (g.ext p) (fun k c=>.inl c) (fun k c=>by rw[j];exact(e.in_ i f c).2) (by omega))
end
open Classical in
noncomputable def upd{α β:Type}(f:α→β)(a:α)(v:β):α→β:=fun b=>if b=a then v else f b
theorem Ib{α β:Type}(f:α→β)(a:α)(v:β):upd f a v a=v:=I_ rfl
theorem No{α β:Type}{f:α→β}{a b:α}{v:β}(h:b≠a):upd f a v b=f b:=G_ h
def Cl{α:Type}(m:α→Option v_)(a:α):v_:=(m a).getD (.slice none 0 0)
theorem Fw{α:Type}(m:α→Option v_)(a:α)(v:v_):Cl (put m a (some v)) a=v:=by simp[Cl,Bw]
theorem ES{α:Type}{m:α→Option v_}{a b:α}{v:Option v_}(h:b≠a):Cl (put m a v) b=Cl m b:=by simp[Cl,C4 h]
structure Qs{α β:Type}(enc:α→v_)(T:Ty β)(H:Aa)(lo:Nat)(e:x_)(mb:Nat)(m:α→Option v_)(xs:α→List β):Prop where
 map:Dm enc H mb m
 lt:mb<lo
 own:∀k,M_ T (fun _=>False) H lo e (Cl m k) (xs k)
 apart:∀k k' b,k≠k'→N_ (Cl m k) b→¬N_ (Cl m k') b
section
variable{α β:Type}{enc:α→v_}{T:Ty β}{H H1 H2:Aa}{lo mb:Nat}{e:x_}{m:α→Option v_}{xs:α→List β}{S':Nat→Prop}
theorem Qs.agr(h:Qs enc T H lo e mb m xs)(k:A_ S' H H1)(g:S' mb)(c:∀b,lo≤b→b<H.size→S' b):Qs enc T H1 lo e mb m xs:=
 ⟨h.map.agr k g,h.lt,fun a=>(h.own a).agr k (fun b d=>c b ((h.own a).lt d).1 ((h.own a).lt d).2) (fun _ f=>f.elim),h.apart⟩
theorem Qs.new(h:Dm enc H mb (fun _=>none))(a:mb<lo):Qs enc T H lo e mb (fun _=>none) (fun _=>[]):=
 ⟨h,a,fun _=>M_.nil,fun k f b _ d=>by have⟨o,n,c,h⟩:=d;cases h⟩
theorem Qs.ext{ys:α→List β}(h:Qs enc T H lo e mb m xs)(a:∀k,xs k=ys k):Qs enc T H lo e mb m ys:=(funext a:xs=ys) ▸ h
theorem Qs.push{a:α}{q:v_}{z:List β}(h:Qs enc T H lo e mb m xs)(l:M_ T (fun _=>False) H1 lo e q z)(B:A_ (fun k=>k<H.size∧¬N_ (Cl m a) k) H H1)
  (g:∀k,N_ q k→N_ (Cl m a) k∨H.size≤k) (t:Dm enc H2 mb (put m a (some q))) (u:A_ (fun k=>k≠mb) H1 H2):Qs enc T H2 lo e mb (put m a (some q)) (upd xs a z):=by
 have D:=h.lt;refine⟨t,h.lt,fun k=>?_,fun k y b w c d=>?_⟩
 ·by_cases n:k=a
  ·subst n;rw[Fw,Ib];exact l.agr u (fun b c=>by have:=(l.lt c).1;omega) (fun _ f=>f.elim)
  ·rw[ES n,No n];have r:=h.own k;exact(r.agr B (fun b c=>⟨(r.lt c).2,h.apart k a b n c⟩) (fun _ f=>f.elim)).agr u (fun b c=>by have:=(r.lt c).1;omega) (fun _ f=>f.elim)
 ·have old:∀j,j≠a→N_ (Cl (put m a (some q)) j) b→¬N_ q b:=by
   intro j A p C;rw[ES A]at p;rcases g b C with r | r
   ·exact h.apart j a b A p r
   ·have:=((h.own j).lt p).2;omega
  by_cases n:k=a
  ·subst n;rw[Fw]at c;exact old y (Ne.symm w) d c
  ·by_cases x:y=a
   ·subst x;rw[Fw]at d;exact old k n c d
   ·rw[ES n]at c;rw[ES x]at d;exact h.apart k y b w c d
theorem Qs.view(h:Qs enc T H lo e mb m xs)(k:α):∃a cap,Cl m k= .slice a (xs k).length cap∧S_ T (fun j=>lo≤j∧j<H.size) H a cap (xs k):=by
 obtain⟨a,cap,c,d,-⟩:=(h.own k).view (S':=fun j=>lo≤j∧j<H.size) (fun b g=>(h.own k).lt g) (fun _ f=>f.elim);exact⟨a,cap,c,d⟩
end
theorem Ty.reps_drop{α:Type}{T:Ty α}{S:Nat→Prop}{H:Aa}:∀{xs:List α} {cs:List v_} (i:Nat),i≤xs.length→T.reps S H cs xs→∃l r,cs=l++r∧l.length=i*T.size∧T.reps S H r (xs.drop i)
 | xs,cs,0,_,h=>⟨[],cs,rfl,by simp,h⟩
 | x::xs,cs,i+1,hi,⟨c,r,e,h1,h2⟩=>by
   have⟨l,a,b,d,f⟩:=Ty.reps_drop i (by simpa using hi) h2;exact⟨c++l,a,by rw[e,b,YaC],by rw[Q_,T.len h1,d,Nat.succ_mul];omega,f⟩
 | [],cs,i+1,hi,_=>by simp at hi
theorem Ad1{α:Type}{T:Ty α}{P:w_}{t e by_:Nat}{z:v_}{S S':Nat→Prop}{H:Aa}{K:v_→Prop}{a:Option Addr}{cap l:Nat}{p:IntKind}{i:Int}{xs:List α}(f:SlT P t e T.size by_ z)(h:S_ T S' H a cap xs)(hi:i=(l:Int))(q:l≤xs.length)
  (k:∀a',S_ T S' H a' (cap-l) (xs.drop l)→K (.slice a' (xs.drop l).length (cap-l))):A7 P (Instr.sliceAt t (.slice a xs.length cap) (some (.int p i)) none none) S H K:=by
 subst hi;obtain⟨u,hi,hs,_,_⟩:=f.info;have x:=h.le;have y:K (.slice (if cap=l then a else a.map (·.add (l*T.size))) (xs.length-l) (cap-l)):=by
  have:=k (if cap=l then a else a.map (·.add (l*T.size))) ?_
  ·rwa [List.length_drop]at this
  ·by_cases g:cap=l
   ·rw[I_ g];cases a with
    | none=>obtain⟨rfl,rfl⟩:=h;simp[S_]
    | some j=>exact⟨by simp;omega,by omega,.inl (by omega)⟩
   ·rw[G_ g];cases a with
    | none=>obtain⟨rfl,rfl⟩:=h;simp[S_]
    | some j=>
      obtain⟨C,D,E | ⟨c,m,F,n,A⟩⟩:=h
      ·omega
      ·have⟨b,o,G⟩:=j;simp only at c m n;subst c;obtain⟨I,r,rfl,d,B⟩:=Ty.reps_drop l q A;refine⟨by simp;omega,by omega,.inr ?_⟩;show(Addr.add ⟨b,o,none⟩ (l*T.size)).spot=none∧_;simp only[Addr.add_mid];exact⟨trivial,m,r,by rw[←d];exact n.right,B⟩
 refine A7.mk _ (fun w _=>?_) y;have c:¬(xs.length<l):=by omega
 simp[Instr.sliceAt,Instr.slice,run_underlying f.under,Instr.sliceBounds,Instr.sliceBound,asIntOf,c,sizeOf,typeInfo,hi,hs]
theorem RF(a b:ByteArray):(a.toList==b.toList)=decide (a.data.toList=b.data.toList):=by
 rw[ByteArray.toList_eq,ByteArray.toList_eq];by_cases h:a.data.toList=b.data.toList
 ·rw[g_ h,h];simp
 ·rw[a_ h];exact Bool.eq_false_iff.2 fun c=>h (by simpa using c)
theorem Ds{a b:ByteArray}(h:a.data.toList=b.data.toList):a=b:=by
 cases a;cases b;simp_all [Array.toList_inj]
theorem AbN(a b:ByteArray):(a.toList==b.toList)=true↔a=b:=by
 rw[RF,Zzj];exact⟨Ds,fun h=>by rw[h]⟩
def SlQ{α:Type}(T:Ty α)(S:Nat→Prop)(H:Aa)(e:x_)(v:v_)(xs:List α):Prop:=
 ∃cs,cs.length=xs.length*T.size∧T.reps S H cs xs∧((v= .slice none 0 0∧xs=[])∨
  ∃b o cap l,v= .slice (some ⟨b,o,none⟩) xs.length cap∧K_ H b e l∧xs.length≤cap∧cap≤maxLen∧o+cap*T.size≤l.length∧∀j u,cs[j]?=some u→l[o+j]?=some u)
section
variable{α:Type}{T:Ty α}{S S':Nat→Prop}{H H':Aa}{e:x_}{v:v_}{xs:List α}
theorem SlQ.agr(h:SlQ T S H e v xs)(k:A_ S' H H')(c:∀b,N_ v b→S' b)(hs:∀b,S b→S' b):SlQ T S H' e v xs:=by
 have⟨d,f,g,a⟩:=h;refine⟨d,f,Ty.reps_frame (k.mono hs) g,?_⟩;rcases a with a | ⟨b,o,cap,l,rfl,j,r⟩
 ·exact .inl a
 ·exact .inr ⟨b,o,cap,l,rfl,j.agr k (c b ⟨_,_,_,rfl⟩),r⟩
theorem SlQ.hull(h:SlQ T S H e v xs):∃a cap,v= .slice a xs.length cap:=by
 obtain⟨c,d,f,⟨rfl,rfl⟩ | ⟨b,o,cap,l,rfl,r⟩⟩:=h
 ·exact⟨_,_,rfl⟩
 ·exact⟨_,_,rfl⟩
theorem SlQ.lt(h:SlQ T S H e v xs){b:Nat}(d:N_ v b):b<H.size:=by
 obtain⟨f,g,j,rfl⟩:=d;obtain⟨k,m,n,⟨a,c⟩ | ⟨b',o,cap,l,a,c,r⟩⟩:=h
 ·cases a
 ·injection a with a
  injection a with a
  injection a with a
  subst a;exact c.lt
theorem SlQ.ofO{lo:Nat}(h:M_ T S H lo e v xs):SlQ T S H e v xs:=by
 obtain⟨d,⟨f,c⟩,g⟩:=h;refine⟨d,f,g,?_⟩;rcases c with⟨rfl,c⟩ | ⟨b,cap,l,rfl,q,k,m,n,r,p⟩
 ·exact .inl ⟨rfl,YaA c⟩
 ·refine .inr ⟨b,0,cap,l,rfl,k,m,n,by omega,fun j u a=>?_⟩;rw[←p,List.getElem?_take]at a;split at a
  ·rw[P_];exact a
  ·cases a
theorem SlQ.view{n cap:Nat}{a:Option Addr}(h:SlQ T S H e (.slice a n cap) xs)(g:∀b,N_ (.slice a n cap) b→S' b)(hs:∀b,S b→S' b):n=xs.length∧S_ T S' H a cap xs:=by
 obtain⟨q,r,j,⟨c,d⟩ | ⟨b,o,f,l,c,d,k,m,t,p⟩⟩:=h
 ·injection c with e1 e2 e3
  subst e1;subst e2;subst e3;subst d;exact⟨rfl,rfl,rfl⟩
 ·injection c with e1 e2 e3
  subst e1;subst e2;subst e3;exact⟨rfl,S_.intro (g b ⟨_,_,_,rfl⟩) k m (d.cells p) (Ty.reps_mono hs j)⟩
theorem YM{P:w_}{t ty by_:Nat}{z:v_}{K:v_→Aa→Prop}(L:SlT P t e T.size by_ z){q o m cap:Nat}{ys:List α}{ds:List v_}
  (hs:SlQ T S H e v xs) (hS:∀k,S k→k<H.size∧¬N_ v k) (hd:AL H q o ds) (U:T.reps S H ds ys) (V:m=ys.length) (h1:∀u∈ds,u.oneCell'=true)
  (N:xs.length+ys.length≤maxLen) (hby:(xs.length+ys.length)*by_≤140737488355328)
  (h:∀M H',SlQ T S H' e M (xs++ys)→A_ (fun k=>k<H.size∧¬N_ v k) H H'→H.size≤H'.size→(∀k,N_ M k→N_ v k∨H.size≤k)→K M H'):
  Ba P (Builtin.append_ #[t,t] ty [v,.slice (some ⟨q,o,none⟩) m cap].toArray) H K:=by
 subst V;refine Ba.mk fun w hw=>?_;subst hw;have⟨f,W,A,X,hz⟩:=L.info;have n:Src P f.size t (.slice (some ⟨q,o,none⟩) ys.length cap) ys.length ds w:=by
  rw[A];refine Src.ofSlice w L.under ⟨q,o,none⟩ ys.length cap ds (Ty.reps_len U) (fun j u E=>?_) h1;rw[Addr.add_mid,DF];exact hd j u E
 have I:ds.length=ys.length*T.size:=Ty.reps_len U;have⟨d,J,hr,Y⟩:=hs;have ad:xs.length+ys.length≤9223372036854775807:=by simp only[maxLen]at N;omega
 have B:(d++ds).length=(xs++ys).length*T.size:=by rw[Q_,Q_,J,I,YbE]
 have reps:∀{H':Aa},A_ (fun k=>k<w.heap.size∧¬N_ v k) w.heap H'→T.reps S H' (d++ds) (xs++ys):=fun k=>Ty.reps_append (Ty.reps_frame (k.mono hS) hr) (Ty.reps_frame (k.mono hS) U);have F:∀(base:Option Addr) (a:Nat),v= .slice base xs.length a→a<xs.length+ys.length→(Builtin.firstCells f.size xs.length (.slice base xs.length a)).run P w.drew= .ok d.toArray w.drew→
   ∃M Z,(Builtin.append_ #[t,t] ty [v,.slice (some ⟨q,o,none⟩) ys.length cap].toArray).run P w= .ok M Z∧Y_ w Z∧K M Z.heap:=by
  intro base a hv O hold;subst hv;have C:=run_append_grow_src (P:=P) w t t ty e f z L.under W hz base xs.length a d hold _ ys.length ds n O (by omega) (growslice_fits (by omega) (by rw[X];exact hby));refine⟨_,_,C,⟨rfl,rfl,rfl⟩,?_⟩;have a0:=grownCap_ge w (xs.length+ys.length) a e;have a5:=grownCap_le_maxLen w (xs.length+ys.length) a e N;have p:A_ (fun k=>k<w.heap.size∧¬N_ (.slice base xs.length a) k) w.heap (w.drew.alloc (.cells ((d++ds).toArray++Builtin.zeroCells z.cells (grownCap w (xs.length+ys.length) a e-(xs.length+ys.length))) e)).heap:=fun k y=>Do w.heap _ k y.1;have Q:K_ (w.drew.alloc (.cells ((d++ds).toArray++Builtin.zeroCells z.cells (grownCap w (xs.length+ys.length) a e-(xs.length+ys.length))) e)).heap w.heap.size e
    ((d++ds)++(Builtin.zeroCells z.cells (grownCap w (xs.length+ys.length) a e-(xs.length+ys.length))).toList):=by
   unfold K_;have:(w.drew.alloc (.cells ((d++ds).toArray++Builtin.zeroCells z.cells (grownCap w (xs.length+ys.length) a e-(xs.length+ys.length))) e)).heap=w.heap.push (.cells ((d++ds).toArray++Builtin.zeroCells z.cells (grownCap w (xs.length+ys.length) a e-(xs.length+ys.length))) e):=rfl;rw[this];simp
  refine h _ _ ⟨d++ds,B,reps p,.inr ⟨w.heap.size,0,_,_,by rw[Q_],Q,by rw[Q_];exact a0,a5,?_,?_⟩⟩ p ?_ ?_
  ·have e2:(d++ds).length=(xs.length+ys.length)*T.size:=by rw[B,Q_]
   have e3:∀g:Nat,(Builtin.zeroCells z.cells g).toList.length=g*T.size:=fun g=>by rw[YbI,size_zeroCells,L.zsz]
   rw[@Q_ _ (d++ds) _,e2,e3,←YbE,P_];exact Ybv _ (by omega)
  ·intro j u E;rw[P_,YaK (X_.1 E).1];exact E
  ·show w.heap.size≤(w.heap.push _).size;simp
  ·rintro k ⟨o,n',c,y⟩;cases y;exact .inr (J_ _)
 rcases Y with⟨rfl,rfl⟩ | ⟨b,x,a,l,rfl,R,ah,a6,a7,G⟩
 ·have a8:d=[]:=YaA (by simpa using J);subst a8;by_cases V:ys.length=0
  ·obtain rfl:ys=[]:=YaA V;have hn:ds=[]:=YaA (by simpa using I);subst hn;refine⟨.slice none 0 0,w,?_,Y_.refl w,h _ _ ⟨[],by simp,rfl,.inl ⟨rfl,rfl⟩⟩ (A_.refl _ _) (J_ _) (fun k y=>.inl y)⟩;have k1:=n.len;have k2:=n.cells;simp only[J']at k1 k2;rcases n.kind with⟨e',y⟩ | y<;>simp[Builtin.append_,run_underlying L.under,run_underlying y,sizeOf,typeInfo,W,k1,k2]
  ·exact F none 0 rfl (by simp;omega) (by simp[Builtin.firstCells])
 ·by_cases r:xs.length+ys.length≤a
  ·have ae:xs.length*T.size+ds.length≤a*T.size:=by rw[I,←YbE];exact Ybv _ r
   have C:=run_append_room_src (P:=P) w t t ty e f L.under W b x xs.length a _ ys.length ds n r
    (fun j hj=>by rw[DF,R.cell,A];simp;omega) (fun j hj=>Fg R)
   have D:x+xs.length*f.size+ds.length≤l.length:=by rw[A];omega
   have⟨a9,h2,h3,h4⟩:=ER ds (x+xs.length*f.size) l w R D;have p:A_ (fun k=>k<w.heap.size∧¬N_ (.slice (some ⟨b,x,none⟩) xs.length a) k) w.heap (w.setCells b (x+xs.length*f.size) ds).heap:=h2.mono fun k y ab=>by subst ab;exact y.2 ⟨x,_,a,rfl⟩
   refine⟨_,_,C,h4,h _ _ ⟨d++ds,B,reps p,.inr ⟨b,x,a,_,by rw[Q_],a9,by rw[Q_];exact r,a6,?_,?_⟩⟩ p (by omega) ?_⟩
   ·rw[Dr D];exact a7
   ·intro j u E;rw[CZ D,A];by_cases hj:j<d.length
    ·rw[YaK hj]at E;rw[G_ (by omega)];exact G j u E
    ·rw[YaD (by omega)]at E;have:=(X_.1 E).1;rw[I_ (by omega),show x+j-(x+xs.length*T.size)=j-d.length by omega];exact E
   ·rintro k ⟨o,n',c,y⟩;cases y;exact .inl ⟨x,xs.length,a,rfl⟩
  ·refine F (some ⟨b,x,none⟩) a rfl (by omega) ?_;have hc:AL w.heap b x d:=R.cells G;have:=run_firstCells_some (P:=P) w.drew f.size xs.length ⟨b,x,none⟩ xs.length a d (by rw[A];exact J) (fun j v hv=>by
    rw[Addr.add_mid];exact P2 (w:=w.drew) (H:=w.heap) hc rfl j v hv)
   exact this
theorem AiI{P:w_}{t by_:Nat}{z:v_}{J:IntKind}{S0:Nat→Prop}{a:Option Addr}{n cap:Nat}{x:α}{H2:Aa}{K:v_→Prop}(q:SlT P t e T.size by_ z)(h:SlQ T S H e (.slice a n cap) (x::xs))
  (k:∀a' f,SlQ T S H e (.slice a' xs.length f) xs→(∀b,N_ (.slice a' xs.length f) b→N_ (.slice a n cap) b)→K (.slice a' xs.length f)):A7 P (Instr.sliceAt t (.slice a n cap) (some (.int J 1)) none none) S0 H2 K:=by
 obtain⟨L,C,hs,_,_⟩:=q.info;obtain⟨U,D,M,⟨E,p⟩ | ⟨b,o,f,l,E,p,N,V,W,O⟩⟩:=h
 ·cases p
 ·injection E with e1 e2 e3
  subst e1;subst e2;subst e3;simp only[j_]at N D;obtain⟨c,r,rfl,Q,F⟩:=M;have y:=T.len Q;have g:K (.slice (if cap=1 then some ⟨b,o,none⟩else some ⟨b,o+T.size,none⟩) xs.length (cap-1)):=by
   refine k _ _ ⟨r,by rw[Q_,YbE]at D;omega,F,.inr ?_⟩ ?_
   ·have X:cap*T.size=(cap-1)*T.size+T.size:=by rw[←Nat.succ_mul];congr 1;omega
    by_cases d:cap=1
    ·rw[I_ d];have R:xs=[]:=YaA (by omega);subst R;have A:r=[]:=by simpa [Ty.reps]using F
     subst A;exact⟨b,o,cap-1,l,rfl,p,by simp,by omega,by subst d;simp;omega,fun j u B=>by simp at B⟩
    ·rw[G_ d];refine⟨b,o+T.size,cap-1,l,rfl,p,by omega,by omega,by omega,fun j u B=>?_⟩;have:=O (c.length+j) u (by rw[YaD (by omega),Nat.add_sub_cancel_left];exact B);rw[y,←Nat.add_assoc]at this;exact this
   ·rintro k ⟨Y,Z,c',g⟩;by_cases d:cap=1
    ·rw[I_ d]at g;cases g;exact⟨_,_,_,rfl⟩
    ·rw[G_ d]at g;cases g;exact⟨_,_,_,rfl⟩
  refine A7.mk _ (fun w _=>?_) g;have G:(⟨b,o,none⟩:Addr).add (1*T.size)=⟨b,o+T.size,none⟩:=by rw[YcE];exact Addr.add_mid _ _ _
  have I:¬((xs.length:Int)+1<1):=by omega
  have m:(1:Int)≤(xs.length:Int)+1:=by omega
  by_cases d:cap=1
  ·subst d;simp[Instr.sliceAt,Instr.slice,run_underlying q.under,Instr.sliceBounds,Instr.sliceBound,asIntOf,sizeOf,typeInfo,C,hs,I,m]
  ·simp[Instr.sliceAt,Instr.slice,run_underlying q.under,Instr.sliceBounds,Instr.sliceBound,asIntOf,sizeOf,typeInfo,C,hs,d,I,m];simp[YcE]at G;exact G
end
section
variable{α:Type}{T:Ty α}{e:x_}{a:Option Addr}{n cap:Nat}{xs:List α}{B:Nat→Prop}{H0 H H':Aa}{ps:List Pc}
def pQ(T:Ty α)(e:x_)(a:Option Addr)(n cap:Nat)(xs:List α):Pc:=⟨fun k=>N_ (.slice a n cap) k,fun H=>SlQ T none_ H e (.slice a n cap) xs,fun h hp=>hp.agr h (fun _ hb=>hb) (fun _ f=>f.elim)⟩
theorem E_.qview(c:E_ B H0 H ps)(i:Nat)(d:ps[i]?=some (pQ T e a n cap xs)):n=xs.length∧S_ T (D_ H) H a cap xs:=
 SlQ.view (c.at_ i d) (fun b g=>(c.in_ i d g).2) (fun _ f=>f.elim)
theorem E_.toQ(b:E_ B H0 H ps)(i:Nat)(c:ps[i]?=some (pS T e a n cap xs)):E_ B H0 H (ps.set i (pQ T e a n cap xs)):=
 b.say i c _ (SlQ.ofO (b.at_ i c).1) fun k d=>.inl d
theorem appQ{P:w_}{t ty q o m g by_:Nat}{z:v_}{ys:List α}{ds:List v_}{K:v_→Aa→Prop}(p:E_ B H0 H ps)(i:Nat)(w:SlT P t e T.size by_ z)(r:ps[i]?=some (pQ T e a n cap xs))
  (hd:AL H q o ds) (x:T.reps none_ H ds ys) (y:m=ys.length) (A:∀u∈ds,u.oneCell'=true) (j:xs.length+ys.length≤maxLen) (hby:(xs.length+ys.length)*by_≤140737488355328)
  (k:∀a' b H',E_ B H0 H' (ps.set i (pQ T e a' (xs.length+ys.length) b (xs++ys)))→A_ (fun k=>k<H.size∧¬N_ (.slice a n cap) k) H H'→K (.slice a' (xs.length+ys.length) b) H'):
  Ba P (Builtin.append_ #[t,t] ty [.slice a n cap,.slice (some ⟨q,o,none⟩) m g].toArray) H K:=by
 refine YM (T:=T) (S:=none_) w (p.at_ i r) (fun k d=>d.elim) hd x y A j hby ?_;intro D H' c f l h;obtain⟨a',b,rfl⟩:=c.hull;rw[Q_]at c h ⊢;exact k a' b H' (p.upd i r (f.mono fun k d=>⟨d.1,fun C=>d.2 C⟩) _ c (fun k d=>h k d) (fun k d=>c.lt d) l) f
theorem cutQ{P:w_}{t by_:Nat}{z:v_}{f:IntKind}{S0:Nat→Prop}{x:α}{H2:Aa}{K:v_→Prop}(c:E_ B H0 H ps)(i:Nat)(g:SlT P t e T.size by_ z)(d:ps[i]?=some (pQ T e a n cap (x::xs)))
  (k:∀a' b,E_ B H0 H (ps.set i (pQ T e a' xs.length b xs))→K (.slice a' xs.length b)):A7 P (Instr.sliceAt t (.slice a n cap) (some (.int f 1)) none none) S0 H2 K:=
 AiI (T:=T) g (c.at_ i d) fun a' b h j=>k a' b (c.say i d _ h j)
end
theorem AfV{P:w_}{s d e b o n cap:Nat}{H:Aa}{K:v_→Aa→Prop}(bs:List Nat)(hs:P.underlying s=some (.slice e))(c:P.underlying e=some (.int .u8))(hd:P.underlying d=some .string)
  (f:∀(j x:Nat),bs[j]?=some x→cell H b (o+j)=some (.int .u8 (x:Int))) (g:n=bs.length) (k:K (.string ⟨(bs.map UInt8.ofNat).toArray⟩) H):Ba P (convert s d (.slice (some ⟨b,o,none⟩) n cap)) H K:=by
 subst g;refine Ba.mk fun w h=>?_;subst h;have:=run_convert_bytes_arg (P:=P) w s e hs c b o bs.length cap (bs.map fun(n:Nat)=>(n:Int)) (by simp) (fun i a=>by
  rw[DF,f i bs[i] (Ya2 a)];simp[List.getD,a]) d hd
 have l:strOfNums (bs.map fun(n:Nat)=>(n:Int))=⟨(bs.map UInt8.ofNat).toArray⟩:=by
  unfold strOfNums;rw[Ycv]
  congr 2
 rw[l]at this;exact⟨_,w,this,Y_.refl w,k⟩
theorem Ad0{P:w_}{s d e n cap:Nat}{H:Aa}{K:v_→Aa→Prop}(hs:P.underlying s=some (.slice e))(a:P.underlying e=some (.int .u8))(hd:P.underlying d=some .string)
  (k:K (.string ⟨#[]⟩) H):Ba P (convert s d (.slice none n cap)) H K:=by
 refine Ba.mk fun w b=>?_;subst b;exact⟨_,w,run_convert_bytes_nil (P:=P) w s e hs a n cap d hd,Y_.refl w,k⟩
def Ga(ops:Array Oper):Nat→Nat→Nat→Bool
 | 0,_,_=>false
 | f+1,j,i=>match ops[j]? with
   | none=>false
   | some o=>o.after.toList.any fun e=>Region.binds .any e&&(Nat.beq e.on i|| Ga ops f e.on i)
def Zaf(ops:Array Oper)(listed:Array Bool):Prop:=
 ∀(j:Nat) (o:Oper),ops[j]?=some o→listed.getD j false=true→∀e∈o.after,Region.binds .any e=true→listed.getD e.on false=true
theorem Zaf.chain{b:Array Oper}{a:Array Bool}(h:Zaf b a){i:Nat}:∀(f j:Nat),Ga b f j i=true→(∀(o:Oper),b[j]?=some o→∀e∈o.after,Region.binds .any e=true→a.getD e.on false=true)→a.getD i false=true
 | 0,_,hn,_=>by simp[Ga]at hn
 | f+1,j,hn,hd=>by
   unfold Ga at hn;split at hn
   ·cases hn
   ·rename_i o n;have⟨e,p,c⟩:=Yc8.1 hn;simp only[h_,Yar]at c;have m:=hd o n e (by simpa using p) c.1;rcases c.2 with d | d
    ·rw[←Nat.eq_of_beq_eq_true d];exact m
    ·exact h.chain f e.on d fun q g r k l=>h e.on q g m r k l
theorem Zaf.not_ready{b:Array Oper}{a:Array Bool}(h:Zaf b a){i j f:Nat}(g:Ga b f j i=true)(hi:a.getD i false=false):j∉Region.ready .any b a:=by
 intro k;obtain⟨_,o,l,c⟩:=mem_ready.1 k;have:=h.chain f j g fun p d e m n=>by rw[l]at d;cases d;exact c e m n
 rw[hi]at this;cases this
theorem Xk{l:Array Bool}{i k:Nat}(h:(l.setIfInBounds i true).getD k false=true):k=i∨l.getD k false=true:=by
 by_cases a:k=i
 ·exact .inl a
 ·rw[getD_set_ne false (Ne.symm a)]at h;exact .inr h
theorem Zaf.put{b:Array Oper}{a:Array Bool}(h:Zaf b a){j:Nat}(n:j∈Region.ready .any b a):Zaf b (a.setIfInBounds j true):=by
 intro k o g f e l m;rcases Xk f with rfl | f
 ·obtain⟨_,p,c,d⟩:=mem_ready.1 n;rw[g]at c;cases c;exact getD_set_true (d e l m)
 ·exact getD_set_true (h k o g f e l m)
def Ig(P:w_)(ops:Array Oper)(Q:Exit→Act→y_→Prop)(S:y_→Prop)(Z:List Nat):Nat→Array Bool→Act→y_→Prop
 | 0,listed,a,w=>Region.ready .any ops listed=[]∧Q .normal a w
 | fuel+1,listed,a,w=>
   (Region.ready .any ops listed=[]→Q .normal a w)∧
   ∀i∈Region.ready .any ops listed,wpOp P ops Q i (fun a' w'=>(Z.contains i=false→S w')∧Ig P ops Q S Z fuel (listed.setIfInBounds i true) a' w') a w
theorem Fz{P:w_}{d:Array Oper}{Q:Exit→Act→y_→Prop}{S:y_→Prop}{Z:List Nat}:∀(b:Nat) (c:Array Bool) (a:Act) (w:y_),
  Ig P d Q S Z b c a w→wpAny P .any d Q b c a w
 | 0,_,_,_,h=>h
 | b+1,_,_,_,h=>⟨h.1,fun i e=>wpOp_mono (fun a' f g=>Fz b _ a' f g.2) (h.2 i e)⟩
theorem Dc{P:w_}{g:Array Oper}{Q:Exit→Act→y_→Prop}{S:y_→Prop}{Z:List Nat}{i f:Nat}{u:Oper}{v:v_}(hi:g[i]?=some u)
  (r:∀(j:Nat) (o:Oper) B b,g[j]?=some o→o.op≠ .select B b)
  (U:∀c a w,Q (.panic c) (a.put u.dst v) w→Q (.panic c) a w) (V:Z.contains i=false) (W:∀j,Z.contains j=true→Ga g f j i=true):
  ∀(l:Nat) (d:Array Bool) (a:Act) (w:y_),Zaf g d→
   (∀j x,g[j]?=some x→j≠i→d.getD j true=false→(∀e∈x.after,Region.binds .any e=true→e.on≠i)→u.apart g x=true)→
   i∈Region.ready .any g d→YieldsIf P g S u v a→S w→
   Ig P g Q S Z l (d.setIfInBounds i true) (a.put u.dst v) w→Ig P g Q S Z (l+1) d a w:=by
 intro l
 induction l with
 | zero=>
   intro d a w _ _ y J C H;refine⟨fun h=>(by rw[h]at y;cases y),fun j A=>?_⟩;by_cases m:j=i
   ·subst m;exact J.wpOp hi C ⟨fun _=>C,H⟩
   ·have:=ready_mono A m;rw[H.1]at this;cases this
 | succ l X=>
   intro d a w D n y J C H;refine⟨fun h=>(by rw[h]at y;cases y),fun j A=>?_⟩;by_cases m:j=i
   ·subst m;exact J.wpOp hi C ⟨fun _=>C,H⟩
   ·have K:=H.2 j (ready_mono A m);have⟨t,x,z,E⟩:=mem_ready.1 A;have p:d.getD i false=false:=by
     have M:=(mem_ready.1 y).1;rcases Nat.lt_or_ge i d.size with N | N
     ·simp[N]at M ⊢;exact M
     ·simp[Yae N]at M
    have F:∀e∈x.after,Region.binds .any e=true→e.on≠i:=fun e Y hb O=>by
     have K:=E e Y hb;rw[O,p]at K;cases K
    have G:Z.contains j=false:=by
     cases hc:Z.contains j with
     | false=>rfl
     | true=>exact absurd A (D.not_ready (W j hc) p)
    have h2:=wpOp_putIf z (n j x z m t F) (fun B b=>r i u B b hi) (fun B b=>r j x B b z) U J K;have q:∀k ok,g[k]?=some ok→k≠i→(d.setIfInBounds j true).getD k true=false→
      (∀e∈ok.after,Region.binds .any e=true→e.on≠i)→u.apart g ok=true:=fun k ok hk R p T=>by
     refine n k ok hk R ?_ T;by_cases I:j=k
     ·subst I;exact t
     ·rw[getD_set_ne true I]at p;exact p
    refine wpOp_mono (fun a' w' L=>⟨fun _=>L.2.1 G,X (d.setIfInBounds j true) a' w' (D.put A) q (ready_mono y (Ne.symm m)) L.1 (L.2.1 G) ?_⟩) h2;rw[Array.setIfInBounds_comm _ _ m];exact L.2.2
def R4(P:w_)(S:Nat→Prop)(Z:List Nat)(H0:Aa)(all:List Oper)(i:Nat)(fr:Fr)(H:Aa)(next:Fr→Aa→Prop):Prop:=
 match all[i]? with
 | none=>False
 | some o=>match o.guard with
   | some _=>False
   | none=>match Z.contains i with
     | true=>opK P false (fun _=>True) o fr H fun v H'=>Ck o.dst fr v fun fr'=>next fr' H'
     | false=>opK P false (fun _=>True) o fr H fun v H'=>A_ S H0 H'∧Ck o.dst fr v fun fr'=>next fr' H'
def heldZ(P:w_)(S:Nat→Prop)(Z:List Nat)(H0:Aa)(all:List Oper)(s:Sch):Fr→Aa→(Fr→Aa→Prop)→Prop:=
 Sch.rec (motive:=fun _=>Fr→Aa→(Fr→Aa→Prop)→Prop) (fun fr H K=>K fr H)
  (fun i _ ih fr H K=>match all[i]? with
   | none=>False
   | some o=>match o.guard with
     | some _=>False
     | none=>match I7 o&&Eg P o with
       | true=>Jw P S o fr H fun v=>Ck o.dst fr v fun fr'=>ih fr' H K
       | false=>False)
  (fun i _ ih fr H K=>R4 P S Z H0 all i fr H fun fr' H'=>ih fr' H' K)
  (fun i _ j _ ih ih' fr H K=>(R4 P S Z H0 all i fr H fun fr' H'=>ih fr' H' K)∧R4 P S Z H0 all j fr H fun fr' H'=>ih' fr' H' K) s
theorem Aa0(P:w_)(S:Nat→Prop)(Z:List Nat)(H0:Aa)(all:List Oper)(i:Nat)(s:Sch)(fr:Fr)(H:Aa)(K:Fr→Aa→Prop):heldZ P S Z H0 all (.q i s) fr H K=
  (match all[i]? with
   | none=>False
   | some o=>match o.guard with
     | some _=>False
     | none=>match I7 o&&Eg P o with
       | true=>Jw P S o fr H fun v=>Ck o.dst fr v fun a=>heldZ P S Z H0 all s a H K
       | false=>False):=rfl
def AeF:Sch→Bool
 | .e=>false
 | .q _ _=>true
 | .f _ s=>AeF s
 | .b _ s _ s'=>AeF s|| AeF s'
def Ls(Z:List Nat):Sch→Bool
 | .e=>true
 | .q _ _=>false
 | .f i s=>Z.contains i&&Ls Z s
 | .b i s j s'=>Z.contains i&&Z.contains j&&Ls Z s&&Ls Z s'
def BZ(ops:Array Oper)(Z:List Nat):Sch→Array Bool→Bool
 | .e,listed=>(Region.ready .any ops listed).isEmpty
 | .q i s,listed=>(Region.ready .any ops listed).contains i&&Region.free .any ops listed i&& !(Z.contains i)&&(Z.all fun z=>Ga ops ops.size z i)&&BZ ops Z s (listed.setIfInBounds i true)
 | .f i s,listed=>Region.ready .any ops listed==[i]&&(!(Z.contains i)|| Ls Z s)&&BZ ops Z s (listed.setIfInBounds i true)
 | .b i s j s',listed=>Region.ready .any ops listed==[i,j]&&((!(Z.contains i)&& !(Z.contains j))|| (Ls Z s&&Ls Z s'))&&BZ ops Z s (listed.setIfInBounds i true)&&BZ ops Z s' (listed.setIfInBounds j true)
theorem HX{P:w_}{S:Nat→Prop}{Z:List Nat}{w0:y_}{all:List Oper}{Q:Exit→Act→y_→Prop}{i:Nat}{fr:Fr}{a:Act}{w:y_}{next:Fr→Aa→Prop}{N:Act→y_→Prop}
  (c:At fr a) (l:Y_ w0 w) (h:R4 P S Z w0.heap all i fr w.heap next)
  (n:∀f a' e,At f a'→Y_ w0 e→(Z.contains i=false→Cls w0 S e)→next f e.heap→N a' e):wpOp P all.toArray Q i N a w:=by
 unfold R4 at h;split at h
 ·exact h.elim
 ·rename_i o p;have m:all.toArray[i]?=some o:=by simpa using p
  split at h
  ·exact h.elim
  ·rename_i q;have d:Region.wanted o (yielded all.toArray a.tmps)=true:=by simp[Region.wanted,q]
   unfold wpOp;rw[m];dsimp only;rw[I_ d];split at h
   ·rename_i r;refine .inl (Oper.wp_mono ?_ (Cc c h _));rintro a' e ⟨v,rfl,b,g⟩;rw[Bi]at g;exact n _ _ _ (c.put o.dst v) (l.trans b) (fun j=>by rw[r]at j;cases j) g
   ·refine .inl (Oper.wp_mono ?_ (Cc c h _));rintro a' e ⟨v,rfl,b,k,g⟩;rw[Bi]at g;exact n _ _ _ (c.put o.dst v) (l.trans b) (fun _=>⟨l.trans b,k⟩) g
theorem Er{P:w_}{S:Nat→Prop}{Z:List Nat}{w0:y_}{all:List Oper}{Q:Exit→Act→y_→Prop}(hs:Region.noSelect all.toArray=true)
  (A:∀c a w,¬Q (.panic c) a w):∀(l:Sch) (d:Array Bool) (fr:Fr) (a:Act) (w:y_) (K:Fr→Aa→Prop),At fr a→Y_ w0 w→(Ls Z l=false→Cls w0 S w)→Zaf all.toArray d→
  (∀n a' m,At n a'→Y_ w0 m→K n m.heap→Q .normal a' m)→BZ all.toArray Z l d=true→l.even=true→
  heldZ P S Z w0.heap all l fr w.heap K→Ig P all.toArray Q (Cls w0 S) Z l.len d a w
 | .e,d,fr,a,w,K,hat,he,_,_,hq,hB,_,h=>⟨by simpa [BZ]using hB,hq fr a w hat he h⟩
 | .q i s,d,fr,a,w,K,hat,he,x,hsh,hq,hB,hev,h=>by
   have x:=x rfl;simp only[BZ,h_,Yap,Ycc]at hB;obtain⟨⟨⟨⟨y,g⟩,N⟩,O⟩,p⟩:=hB;rw[Aa0]at h;split at h
   ·exact h.elim
   ·rename_i o R;have B:all.toArray[i]?=some o:=by simpa using R
    have C:i∈Region.ready .any all.toArray d:=by simpa using y
    split at h
    ·exact h.elim
    ·rename_i T;have z:Region.wanted o (yielded all.toArray a.tmps)=true:=by simp[Region.wanted,T]
     split at h
     ·have⟨v,U,r⟩:=C2 h;rw[Bi]at r;refine Dc (v:=v) (f:=all.toArray.size) B (Region.noSelect_spec hs) (fun c a' m V=>(A _ _ _ V).elim) N (fun j D=>O j (by simpa using D)) s.len d a w hsh (Region.free_spec B g) C
       (.inl ⟨z,fun m J=>?_⟩) x ?_
      ·rw[hat.evalF];exact U m fun k r=>(J.2 k r).trans (x.2 k r).symm
      ·exact Er hs A s _ _ _ w K (hat.put o.dst v) he (fun _=>x) (hsh.put C) hq p hev r
     ·exact h.elim
 | .f i s,d,fr,a,w,K,hat,he,x,hsh,hq,hB,hev,h=>by
   simp only[BZ,h_,Yar,Yap,beq_iff_eq]at hB;obtain⟨⟨y,g⟩,p⟩:=hB;refine⟨(fun E=>by rw[y]at E;cases E),fun j D=>?_⟩;have L:=D;rw[y]at D;obtain rfl:j=i:=by simpa using D
   refine HX hat he h fun n a' m F G t H=>⟨t,Er hs A s _ _ _ m K F G (fun u=>?_) (hsh.put L) hq p hev H⟩;rcases g with g | g
   ·exact t g
   ·rw[g]at u;cases u
 | .b i s j s',d,fr,a,w,K,hat,he,x,hsh,hq,hB,hev,h=>by
   simp only[BZ,h_,Yar,Yap,beq_iff_eq]at hB;obtain⟨⟨⟨y,g⟩,p⟩,M⟩:=hB;simp only[Sch.even,h_,beq_iff_eq]at hev;obtain⟨⟨W,e2⟩,X⟩:=hev;refine⟨(fun E=>by rw[y]at E;cases E),fun k r=>?_⟩;have I:=r;rw[y]at r;rcases Ybe.1 r with rfl | r
   ·refine HX hat he h.1 fun n a' m F G t H=>⟨t,Er hs A s _ _ _ m K F G (fun u=>?_) (hsh.put I) hq p W H⟩;rcases g with g | g
    ·exact t g.1
    ·rw[g.1]at u;cases u
   ·obtain rfl:k=j:=by simpa using r
    rw[X];refine HX hat he h.2 fun n a' m F G t H=>⟨t,Er hs A s' _ _ _ m K F G (fun u=>?_) (hsh.put I) hq M e2 H⟩;rcases g with g | g
    ·exact t g.2
    ·rw[g.2]at u;cases u
theorem Au.heldZ{P:w_}{l:List Oper}{fr:Fr}{H:Aa}{K:Fr→Aa→Prop}(S:Nat→Prop)(Z:List Nat)(b:Sch)(g:P.follows .mixedOrders=true)
  (c:(Region.noSelect l.toArray&&(b.len==l.length)&&b.even&&BZ l.toArray Z b (AlK l.length false))=true)
  (h:YtdopnglgekglgaaGreatDoor.heldZ P S Z H l b fr H K):Au P l fr H K:=by
 refine⟨?_⟩;intro id Q a w d k m n;subst k;simp only[h_,beq_iff_eq]at c;refine wp_region_any g (Fz (S:=Cls w S) (Z:=Z) _ _ _ _ ?_);have e:Zaf l.toArray (AlK l.length false):=fun j o _ f=>by
  rw[YbL,YbM]at f;split at f<;>simp at f
 have:=Er (P:=P) (S:=S) (Z:=Z) (w0:=w) (Q:=Q) c.1.1.1 m b (AlK l.length false) fr a {w with drawn:=w.drawn+1} K d ⟨rfl,rfl,rfl⟩ (fun _=>⟨⟨rfl,rfl,rfl⟩,A_.refl _ _⟩) e n c.2 c.1.2 h;rw[c.1.1.2]at this;simpa using this
section
variable{α:Type}{T:Ty α}{B:Nat→Prop}{H0 H H1:Aa}{ps:List Pc}{e te:x_}{nb:Nat}{vs:List v_}{xs:List (List α)}
theorem Zag{P:w_}{t b o j n cap:Nat}{v:v_}{x:List α}{y:α}{K:Aa→Prop}(J:E_ B H0 H ps)(i:Nat) [ht:CellT P e](L:ps[i]?=some (pT T e te nb vs xs))(F:vs[t]?=some (.slice (b_ b) n cap))(U:xs[t]?=some x)
  (M:T.size=1) (V:o=j) (N:j<x.length) (r:v.oneCell'=true) (W:∀H',T.rep none_ H' [v] y) (k:∀H',E_ B H0 H' (ps.set i (pT T e te nb vs (xs.set t (x.set j y))))→K H'):By P (Instr.storeAt e (.pointer (some ⟨b,o,none⟩)) v) H K:=by
 subst V;have tab:=J.tab i L;have u:=tab.own t _ x F U;obtain⟨-,-,X,l,A,C,-,a⟩:=u.placeS N;rw[M,Yb3]at C a;refine Zak A (by omega) r ?_;intro H' O d Q;have g:=a H' [v] y (by rw[C6 (by omega)];exact O) (fun j N=>N.elim) (W H');have R:=(X_.1 U).1;have D:∀c,N_ (.slice (b_ b) n cap) c↔c=b:=fun c=>⟨fun h=>by obtain⟨_,_,_,e⟩:=h;cases e;rfl,fun h=>by subst h;exact⟨0,n,cap,rfl⟩⟩;have E:Tab T none_ H' (nb+1) e nb te vs (xs.set t (x.set o y)):=by
  refine⟨by rw[YaF];exact tab.len,tab.blk.agr d (by omega),tab.nlo,fun q w z G I=>?_,tab.apart⟩;by_cases S:t=q
  ·subst S;rw[F]at G;cases G;rw[Ya3 R]at I;cases I;exact g
  ·rw[Ya4 S]at I;exact(tab.own q w z G I).agr d (fun c m p=>tab.apart t q _ w c S F G ((D c).2 p) m) (fun _ f=>f.elim)
 refine k H' (J.upd i L (d.mono fun c m p=>m.2 (.inr ⟨t,_,F,(D c).2 p⟩)) _ E (fun c m=>.inl m) (fun c m=>by rw[Q];exact(J.in_ i L m).2) (by omega))
end
structure Ej(P:w_)(t kt et:x_)(z:v_):Prop where
 under:P.underlying t=some (.map kt et)
 zero:(P.info? et).bind (·.zero)=some z
structure GF(P:w_)(kt:x_){α:Type}(Ok:α→Prop)(enc:α→v_):Prop where
 inj:∀a b,enc a=enc b→a=b
 check:∀(w:y_) (em:Bool) (a:α),Ok a→(Instr.checkKey em 10000 kt (enc a)).run P w= .ok () w
 find:∀(w:y_) (a:α),Ok a→∀es:List MapEntry,(∀e∈es,∃b,Ok b∧e.key=enc b)→
  ((Instr.findKey kt (enc a) es).run P w= .ok none w∧∀e∈es,e.key≠enc a)∨∃j e,(Instr.findKey kt (enc a) es).run P w= .ok (some (j,e.val)) w∧es[j]?=some e∧e.key=enc a
 stays:∀(w:y_) (a:α),Ok a→(Instr.keyThatStays (enc a) (enc a)).run P w= .ok (enc a) w
theorem GF.ofLaw{P:w_}{kt:x_}{α:Type}{Ok:α→Prop}{enc:α→v_}(h:WideMaps.KeyLaw P kt)(hi:∀a b,enc a=enc b→a=b)(d:∀a,Ok a→∃l,keyOf P kt (enc a)=some l):GF P kt Ok enc:=
 ⟨hi,fun w g a c=>let⟨_,e⟩:=d a c;h.check w g e,fun w a c j f=>let⟨_,e⟩:=d a c;h.find w e j fun x k=>by
   have⟨b,m,e⟩:=f x k;rw[e];exact d b m,
  fun w a c=>let⟨_,e⟩:=d a c;h.stays w e⟩
def FQ{α:Type}(Ok:α→Prop)(enc:α→v_)(H:Aa)(b:Nat)(m:α→Option v_):Prop:=Dm enc H b m∧∀a v,m a=some v→Ok a
def AbZ{α:Type}(Ok:α→Prop)(enc:α→v_)(H:Aa)(K:Aa→Prop)(b:Nat)(m:α→Option v_):Prop:=
 ∀H',FQ Ok enc H' b m→A_ (fun k=>k≠b) H H'→H'.size=H.size→K H'
section
variable{α:Type}{Ok:α→Prop}{enc:α→v_}{P:w_}{t kt et:x_}{z:v_}{S:Nat→Prop}{H:Aa}{b:Nat}{m:α→Option v_}{a:α}
theorem FQ.agr{H':Aa}(h:FQ Ok enc H b m)(k:A_ S H H')(a:S b):FQ Ok enc H' b m:=⟨h.1.agr k a,h.2⟩
theorem MJ(h:∀a v,m a=some v→Ok a)(e:Ok a)(v:v_):∀b u,put m a (some v) b=some u→Ok b:=fun b u d=>by
 by_cases c:b=a
 ·rw[c];exact e
 ·rw[C4 c]at d;exact h b u d
theorem GM(p:GF P kt Ok enc)(t:Ok a)(g:∀a v,m a=some v→Ok a){es:Array MapEntry}(c:∀(i:Nat) (x:MapEntry),es[i]?=some x→∃a,x.key=enc a∧m a=some x.val)(u:∀a v,m a=some v→∃(i:Nat) (x:MapEntry),es[i]?=some x∧x.key=enc a∧x.val=v)(w:y_):
  ((Instr.findKey kt (enc a) es.toList).run P w= .ok none w∧m a=none∧∀x∈es.toList,x.key≠enc a)∨∃j e,(Instr.findKey kt (enc a) es.toList).run P w= .ok (some (j,e.val)) w∧es[j]?=some e∧e.key=enc a∧m a=some e.val:=by
 have d:∀x∈es.toList,∃b,Ok b∧x.key=enc b:=fun x h=>by
  have⟨i,y⟩:=YaT h;have⟨b,k,e2⟩:=c i x (by simpa using y);exact⟨b,g b _ e2,k⟩
 rcases p.find w a t es.toList d with⟨l,f⟩ | ⟨j,e,l,f,q⟩
 ·refine .inl ⟨l,?_,f⟩;cases n:m a with
  | none=>rfl
  | some v=>
    obtain⟨i,x,h,z,_⟩:=u a v n;exact absurd z (f x (d_ (by simpa using h)))
 ·have r:es[j]?=some e:=by simpa using f
  refine .inr ⟨j,e,l,r,q,?_⟩;have⟨a',k,e2⟩:=c j e r;rw[p.inj a a' (q.symm.trans k)];exact e2
theorem SH(d:Ej P t kt et z)(f:GF P kt Ok enc)(g:Ok a)(h:FQ Ok enc H b m)(q:S b){K:v_→Prop}(k:K ((m a).getD z)):A7 P (Instr.lookup t (.map (some b)) (enc a) false) S H K:=by
 obtain⟨⟨C,l,r,D,u,x⟩,n⟩:=h;refine A7.mk _ (fun w y=>?_) k;have c:=(y b q).trans r;rcases GM f g n u x w with⟨p,e2,A⟩ | ⟨j,e,p,e2,A,B⟩
 ·simp[Instr.lookup,run_underlying d.under,Go.MapKept.run_getObj_map c,f.check w _ a g,p,GE d.zero,e2]
 ·simp[Instr.lookup,run_underlying d.under,Go.MapKept.run_getObj_map c,f.check w _ a g,p,B]
theorem HL(d:Ej P t kt et z)(f:GF P kt Ok enc)(g:Ok a)(h:FQ Ok enc H b m)(q:S b){K:v_→Prop}(k:K (.tuple #[(m a).getD z,.bool (m a).isSome])):A7 P (Instr.lookup t (.map (some b)) (enc a) true) S H K:=by
 obtain⟨⟨C,l,r,D,u,x⟩,n⟩:=h;refine A7.mk _ (fun w y=>?_) k;have c:=(y b q).trans r;rcases GM f g n u x w with⟨p,e2,A⟩ | ⟨j,e,p,e2,A,B⟩
 ·simp[Instr.lookup,run_underlying d.under,Go.MapKept.run_getObj_map c,f.check w _ a g,p,GE d.zero,e2]
 ·simp[Instr.lookup,run_underlying d.under,Go.MapKept.run_getObj_map c,f.check w _ a g,p,B]
theorem FF(n:∀a b,enc a=enc b→a=b){es:Array MapEntry}{d:Nat}(hs:Go.MapKept.Stamped es d)(B:∀(i:Nat) (x:MapEntry),es[i]?=some x→∃a,x.key=enc a∧m a=some x.val)(C:∀a v,m a=some v→∃(i:Nat) (x:MapEntry),es[i]?=some x∧x.key=enc a∧x.val=v){j:Nat}{e:MapEntry}(l:es[j]?=some e)(u:e.key=enc a){f:MapEntry→MapEntry}{v:v_}
  (g:(f e).key=enc a) (p:(f e).val=v) (q:∀x,(f x).born=x.born) {H':Aa}
  (A:H'[b]?=some (.map (es.modify j f) d)):Dm enc H' b (put m a (some v))∧FR enc H' b a e.born:=by
 have r:∀i x,(es.modify j f)[i]?=some x→(i≠j∧es[i]?=some x)∨(i=j∧x=f e):=by
  intro i x c;rw[Yaf]at c;by_cases y:j=i
  ·subst y;rw[I_ rfl,l]at c;exact .inr ⟨rfl,by cases c;rfl⟩
  ·rw[G_ y]at c;exact .inl ⟨Ne.symm y,c⟩
 refine⟨⟨_,_,A,Go.MapKept.stamped_modify hs _ _ (fun x _=>q x) (fun x _ c=>?_),fun i x c=>?_,fun a' D w=>?_⟩,_,_,A,fun i x c=>?_⟩
 ·rw[l]at c;cases c;rw[g,u]
 ·rcases r i x c with⟨k,c⟩ | ⟨_,rfl⟩
  ·have⟨a',t,e2⟩:=B i x c;have:a'≠a:=fun h=>k (Cy hs c l (by rw[t,h,u]));exact⟨a',t,by rw[C4 this];exact e2⟩
  ·exact⟨a,g,by rw[Bw,p]⟩
 ·by_cases z:a'=a
  ·subst z;rw[Bw]at w;cases w;exact⟨j,f e,by rw[Yaf,I_ rfl,l]<;>rfl,g,p⟩
  ·rw[C4 z]at w;have⟨i,x,c,t,e2⟩:=C a' D w;refine⟨i,x,?_,t,e2⟩;rw[Yaf,G_ ?_]
   ·exact c
   ·rintro rfl;rw[l]at c;cases c;exact z (n _ _ (t.symm.trans u))
 ·rcases r i x c with⟨k,c⟩ | ⟨_,rfl⟩
  ·exact⟨fun h=>absurd (ET hs c l h) k,fun h=>absurd (Cy hs c l (h.trans u.symm)) k⟩
  ·exact⟨fun _=>g,fun _=>q e⟩
theorem AhI(C:Ej P t kt et z)(n:GF P kt Ok enc)(g:Ok a)(h:FQ Ok enc H b m){v:v_}{K:Aa→Prop}(k:AbZ Ok enc H K b (put m a (some v))):By P (Instr.mapUpdate t (.map (some b)) (enc a) v) H K:=by
 obtain⟨⟨p,c,l,D,r,u⟩,d⟩:=h;refine By.mk fun w E=>?_;subst E;rcases GM n g d r u w with⟨x,e2,q⟩ | ⟨j,e,x,e2,q,F⟩
 ·have⟨y,A,B⟩:=CY (o':=.map (p.push ⟨enc a,v,c⟩) (c+1)) l;exact⟨JQ w b (.map (p.push ⟨enc a,v,c⟩) (c+1)),by simp[Instr.mapUpdate,run_underlying C.under,Go.MapKept.run_getObj_map l,n.check w _ a g,x,Go.MapKept.run_setObj_map _ l],⟨rfl,rfl,rfl⟩,k _ ⟨(JM D r u q y).1,MJ d g v⟩ A B⟩
 ·have⟨y,A,B⟩:=CY (o':=.map (p.modify j fun e=>{e with key:=enc a,val:=v}) c) l;exact⟨JQ w b (.map (p.modify j fun e=>{e with key:=enc a,val:=v}) c),by simp[Instr.mapUpdate,run_underlying C.under,Go.MapKept.run_getObj_map l,n.check w _ a g,x,Go.MapKept.run_setObj_map _ l,e2,q,n.stays w a g],⟨rfl,rfl,rfl⟩,k _ ⟨(FF n.inj D r u e2 q (f:=fun e=>{e with key:=enc a,val:=v}) rfl rfl (fun _=>rfl) y).1,MJ d g v⟩ A B⟩
theorem AaL(u:Ej P t kt et z)(n:GF P kt Ok enc)(g:Ok a)(h:FQ Ok enc H b m){K:v_→Aa→Prop}
  (k:∀H' s,FQ Ok enc H' b (put m a (some ((m a).getD z)))→FR enc H' b a s→A_ (fun k=>k≠b) H H'→H'.size=H.size→K (.tuple #[(m a).getD z,C_ s]) H'):Ba P (Instr.mapEntry t (.map (some b)) (enc a)) H K:=by
 obtain⟨⟨q,c,l,E,x,y⟩,d⟩:=h;refine Ba.mk fun w G=>?_;subst G;rcases GM n g d x y w with⟨A,e2,r⟩ | ⟨j,e,A,e2,r,F⟩
 ·have⟨B,C,D⟩:=CY (o':=.map (q.push ⟨enc a,z,c⟩) (c+1)) l;have p:=JM E x y r B;refine⟨.tuple #[z,C_ c],JQ w b (.map (q.push ⟨enc a,z,c⟩) (c+1)),by simp[Instr.mapEntry,run_underlying u.under,Go.MapKept.run_getObj_map l,n.check w _ a g,A,Go.MapKept.run_setObj_map _ l,GE u.zero,goInt],⟨rfl,rfl,rfl⟩,?_⟩;have:=k _ c (by rw[e2];exact⟨p.1,MJ d g z⟩) p.2 C D;rw[e2]at this;exact this
 ·have⟨B,C,D⟩:=CY (o':=.map (q.modify j fun e=>{e with key:=enc a}) c) l;have p:=FF n.inj E x y e2 r (f:=fun e=>{e with key:=enc a}) (v:=e.val) rfl rfl (fun _=>rfl) B;refine⟨.tuple #[e.val,C_ (e.born:Int)],JQ w b (.map (q.modify j fun e=>{e with key:=enc a}) c),by simp[Instr.mapEntry,run_underlying u.under,Go.MapKept.run_getObj_map l,n.check w _ a g,A,Go.MapKept.run_setObj_map _ l,e2,r,n.stays w a g,goInt],⟨rfl,rfl,rfl⟩,?_⟩;have:=k _ e.born (by rw[F];exact⟨p.1,MJ d g e.val⟩) p.2 C D;rw[F]at this;exact this
theorem AaP{u:x_}(J:GF P kt Ok enc)(L:Ok a)(h:FQ Ok enc H b m){s:Nat}(hs:FR enc H b a s)(r:(m a).isSome=true){v:v_}{K:Aa→Prop}(k:AbZ Ok enc H K b (put m a (some v))):By P (Instr.entryStore u (.map (some b)) (.int .i64 (s:Int)) v) H K:=by
 obtain⟨⟨d,c,p,F,M,G⟩,t⟩:=h;have⟨N,q,g,O⟩:=hs;rw[p]at g;cases g;refine By.mk fun w Q=>?_;subst Q;have⟨R,y⟩:=YcG.1 r;have⟨i,x,l,z,W⟩:=G a R y;have I:=(O i x l).2 z;have A:d.findIdx? (fun e=>(e.born:Int)==(s:Int))=some i:=by
  rw[Array.findIdx?_eq_some_iff_getElem];have B:=(Yaa.1 l).1;have C:d[i]=x:=(Yaa.1 l).2;refine⟨B,by simp[C,I],fun j S=>?_⟩;have D:d[j]?=some d[j]:=Yad (by omega);intro E;have n:d[j].born=s:=by
   have:(d[j].born:Int)=(s:Int):=by simpa using E
   omega
  have:=ET F D l (n.trans I.symm);omega
 have⟨T,U,V⟩:=CY (o':=.map (d.modify i fun e=>{e with val:=v}) c) p;exact⟨JQ w b (.map (d.modify i fun e=>{e with val:=v}) c),by simp[Instr.entryStore,Go.MapKept.run_getObj_map p,asInt,asIntOf,A,Go.MapKept.run_setObj_map _ p],⟨rfl,rfl,rfl⟩,k _ ⟨(FF J.inj F M G l z (f:=fun e=>{e with val:=v}) z rfl (fun _=>rfl) T).1,MJ t L v⟩ U V⟩
theorem Kx{K:v_→Aa→Prop}(k:∀b H',b=H.size→H'.size=b+1→FQ Ok enc H' b (fun _=>none)→A_ (fun k=>k<b) H H'→K (.map (some b)) H'):Ba P (Instr.makeMap t none) H K:=
 QW fun b H' c d e f=>k b H' c d ⟨e,fun a v h=>by cases h⟩ f
end
def Hw{α:Type}(Ok:α→Prop)(enc:α→v_)(H:Aa)(b r:Nat)(m:α→Option v_)(D:α→Prop)(last:Option α)(n:Nat):Prop:=
 (∃es clock seen,H[b]?=some (.map es clock)∧Go.MapKept.Stamped es clock∧(∀(i:Nat) (x:MapEntry),es[i]?=some x→∃a,x.key=enc a∧m a=some x.val)∧
  (∀a v,m a=some v→∃(i:Nat) (x:MapEntry),es[i]?=some x∧x.key=enc a∧x.val=v)∧H[r]?=some (.mapIter (some b) clock seen clock)∧
  (∀(i:Nat) (x:MapEntry) (a:α),es[i]?=some x→x.key=enc a→(seen.contains x.born=true↔D a))∧n=(leftOf es seen).size∧
  ∀a,last=some a→∃(e:MapEntry) (s0:Array Nat),e∈es.toList∧e.key=enc a∧seen=s0.push e.born)∧(∀a v,m a=some v→Ok a)
section
variable{α:Type}{Ok:α→Prop}{enc:α→v_}{P:w_}{t kt et:x_}{z:v_}{S:Nat→Prop}{H:Aa}{b r n:Nat}{m:α→Option v_}{D:α→Prop}{last:Option α}
theorem Hw.agr{H':Aa}(h:Hw Ok enc H b r m D last n)(k:A_ S H H')(d:S b)(e:S r):Hw Ok enc H' b r m D last n:=by
 obtain⟨⟨f,a,c,g,j,l,p,q,t⟩,u⟩:=h;exact⟨⟨f,a,c,(k b d).trans g,j,l,p,(k r e).trans q,t⟩,u⟩
theorem Hw.map(h:Hw Ok enc H b r m D last n):FQ Ok enc H b m:=by
 obtain⟨⟨d,a,c,e,f,g,j,l,p⟩,k⟩:=h;exact⟨⟨d,a,e,f,g,j⟩,k⟩
theorem Vq(es:Array MapEntry)(a:Array Nat){e:MapEntry}(d:e∈(leftOf es a).toList):(leftOf es (a.push e.born)).size<(leftOf es a).size:=by
 have b:leftOf es (a.push e.born)=(leftOf es a).filter fun x=> !(x.born==e.born):=by
  unfold leftOf;rw[Array.filter_filter]
  congr 1
  funext x;rw[YbN];cases b:a.contains x.born<;>cases c:x.born==e.born<;>simp_all
 have c:((leftOf es a).filter fun x=> !(x.born==e.born)).size=((leftOf es a).toList.filter fun x=> !(x.born==e.born)).length:=by rw[←YbO,YbI]
 rw[b,c,←YbI];exact List.length_filter_lt_length_iff_exists.2 ⟨e,d,by simp⟩
theorem AeP(g:Ej P t kt et z)(h:FQ Ok enc H b m){K:v_→Aa→Prop}
  (k:∀r n H',r=H.size→H'.size=r+1→Hw Ok enc H' b r m (fun _=>False) none n→A_ (fun k=>k<H.size) H H'→K (H_ r) H'):Ba P (Instr.range t (.map (some b))) H K:=by
 obtain⟨⟨f,c,d,j,l,p⟩,e⟩:=h;refine Ba.mk fun w q=>?_;subst q;have u:b<w.heap.size:=(Yaa.1 d).1;refine⟨_,w.alloc (.mapIter (some b) c #[] c),by simp[Instr.range,run_underlying g.under,Go.MapKept.run_getObj_map d],⟨rfl,rfl,rfl⟩,k w.heap.size (leftOf f #[]).size _ rfl (by rw[Fd];simp) ⟨⟨f,c, #[],?_,j,l,p,by rw[Fd];simp,fun i x a y A=>by simp,rfl,fun a h=>by cases h⟩,e⟩ (Do _ _)⟩;rw[Fd,YbK,G_ (by omega)];exact d
theorem AhA{ty:x_}(hi:∀a b,enc a=enc b→a=b)(h:Hw Ok enc H b r m D last n){K:v_→Aa→Prop}(W:(∀a,(m a).isSome=true→D a)→K (.tuple #[.bool false]) H)
  (X:∀a v H' S,m a=some v→¬D a→S<n→Hw Ok enc H' b r m (fun x=>D x∨x=a) (some a) S→A_ (fun k=>k≠r) H H'→H'.size=H.size→K (.tuple #[.bool true,enc a,v]) H'):Ba P (Instr.next (H_ r) false ty) H K:=by
 obtain⟨⟨t,c,d,J,F,T,U,G,L,Y,h8⟩,M⟩:=h;refine Ba.mk fun w Z=>?_;subst Z;have N:b≠r:=by
  rintro rfl;rw[J]at G;cases G
 have z:∀x,x∈(leftOf t d).toList↔x∈t.toList∧d.contains x.born=false:=fun x=>by
  unfold leftOf;rw[YbO,YbV,Yap]
 rcases run_next_at (P:=P) w ty r b c c d t c G J F.1 (J_ _)with⟨e1,e2⟩ | ⟨e,V,I,A,e2⟩
 ·refine⟨_,w,e2,Y_.refl w,W fun a ha=>?_⟩;have⟨v,hv⟩:=YcG.1 ha;obtain⟨i,x,q,u,-⟩:=U a v hv;refine(L i x a q u).1 ?_;cases hs:d.contains x.born with
  | true=>rfl
  | false=>
    have:=(z x).2 ⟨d_ (i:=i) (by simpa using q),hs⟩;have h0:(leftOf t d).toList=[]:=YaA (by rw[YbI];exact e1);rw[h0]at this;cases this
 ·have⟨B,C⟩:=(z e).1 V;have⟨j,hj⟩:=YaT B;have g:t[j]?=some e:=by simpa using hj
  have⟨a,l,O⟩:=T j e g;have Q:¬D a:=fun hd=>by
   rw[(L j e a g l).2 hd]at C;cases C
  have E:I.heap=w.heap:=by rcases A with rfl | rfl<;>rfl
  have p:Y_ w I:=by rcases A with rfl | rfl<;>exact⟨rfl,rfl,rfl⟩
  have R:r<w.heap.size:=(Yaa.1 G).1;have f:(Go.ChangeMaps.setBlock I r (.mapIter (some b) c (d.push e.born) c)).heap=w.heap.setIfInBounds r (.mapIter (some b) c (d.push e.born) c):=by
   show I.heap.setIfInBounds r _=_;rw[E]
  refine⟨_,_,e2,⟨p.os,p.tape,p.output⟩,?_⟩;rw[l];refine X a e.val _ _ O Q (Y ▸ Vq t d V) ⟨⟨t,c,d.push e.born,?_,F,T,U,?_,fun i x a' q u=>?_,rfl,fun a' y=>?_⟩,M⟩ ?_ ?_
  ·rw[f,YbJ (Ne.symm N)];exact J
  ·rw[f,Array.getElem?_setIfInBounds_self_of_lt R]
  ·rw[YbN,Yar,L i x a' q u,beq_iff_eq];refine or_congr Iff.rfl ⟨fun hb=>?_,fun y=>?_⟩
   ·obtain rfl:=ET F q g hb;rw[g]at q;cases q;exact hi _ _ (u.symm.trans l)
   ·subst y;obtain rfl:=Cy F q g (u.trans l.symm);rw[g]at q;cases q;rfl
  ·cases y;exact⟨e,d,B,l,rfl⟩
  ·rw[f];exact fun k u=>YbJ (Ne.symm u)
  ·rw[f];simp
theorem AcR{a:α}{v:v_}(h:Hw Ok enc H b r m D (some a) n)(hi:∀a b,enc a=enc b→a=b)(z:m a=some v){K:v_→Aa→Prop}(k:K (.tuple #[enc a,v]) H):Ba P (Instr.entry (H_ r)) H K:=by
 obtain⟨⟨p,c,q,A,t,L,B,C,M,N,E⟩,F⟩:=h;obtain⟨e,G,u,y,rfl⟩:=E a rfl;refine Ba.mk fun w I=>?_;subst I;have⟨i,x,f,g,l⟩:=B a v z;have⟨j,J⟩:=YaT u;have d:p[j]?=some e:=by simpa using J
 obtain rfl:=Cy t f d (g.trans y.symm);rw[d]at f;cases f;refine⟨_,w,run_entry_at w r b c G p c e C A u t.2.1,Y_.refl w,?_⟩;rw[y,l];exact k
theorem mlen{vt:x_}(n:Ej P t kt et z)(h:FQ Ok enc H b m)(p:S b){K:v_→Prop}(k:∀c:Nat,(c=0↔∀a,m a=none)→K (.int .i64 (c:Int))):A7 P (Builtin.len_ #[t] vt [.map (some b)].toArray) S H K:=by
 obtain⟨⟨j,d,q,D,r,u⟩,y⟩:=h;refine A7.mk _ (fun w A=>?_) (k j.size ⟨fun l a=>?_,fun l=>?_⟩)
 ·have f:=(A b p).trans q;simp[Builtin.len_,run_underlying n.under,Go.MapKept.run_getObj_map f,goInt]
 ·cases g:m a with
  | none=>rfl
  | some v=>
    obtain⟨i,x,B,-⟩:=u a v g;have:=(Yaa.1 B).1;omega
 ·apply Classical.byContradiction;intro C;obtain⟨a,-,e⟩:=r 0 j[0] (Yad (by omega));rw[l a]at e;cases e
end
section
variable{α:Type}{Ok:α→Prop}{enc:α→v_}{b r n:Nat}{m m':α→Option v_}{D:α→Prop}{last:Option α}{B:Nat→Prop}{H0 H H':Aa}{ps:List Pc}{P:w_}{t kt et:x_}{z:v_}
def pMW(Ok:α→Prop)(enc:α→v_)(b:Nat)(m:α→Option v_):Pc:=⟨fun k=>k=b,fun H=>FQ Ok enc H b m,fun h hp=>hp.agr h rfl⟩
def pIW(Ok:α→Prop)(enc:α→v_)(b r:Nat)(m:α→Option v_)(D:α→Prop)(last:Option α)(n:Nat):Pc:=⟨fun k=>k=b∨k=r,fun H=>Hw Ok enc H b r m D last n,fun h hp=>hp.agr h (.inl rfl) (.inr rfl)⟩
theorem E_.mapW(a:E_ B H0 H ps)(i:Nat)(c:ps[i]?=some (pMW Ok enc b m)):FQ Ok enc H b m:=a.at_ i c
theorem E_.iterW(a:E_ B H0 H ps)(i:Nat)(c:ps[i]?=some (pIW Ok enc b r m D last n)):Hw Ok enc H b r m D last n:=a.at_ i c
theorem E_.mapNewW(c:E_ B H0 H ps)(d:b=H.size)(hs:H'.size=b+1)(e:FQ Ok enc H' b (fun _=>none))(f:A_ (fun k=>k<b) H H'):E_ B H0 H' (ps++[pMW Ok enc b fun _=>none]):=by
 subst d;exact c.add (f.mono fun k a=>a) _ e fun k a=>by have:k=H.size:=a;omega
theorem IV{v:v_}{a:α}{K:Aa→Prop}(d:E_ B H0 H ps)(i:Nat)(l:Ej P t kt et z)(c:GF P kt Ok enc)(n:Ok a)(e:ps[i]?=some (pMW Ok enc b m))(p:put m a (some v)=m')
  (k:∀H',E_ B H0 H' (ps.set i (pMW Ok enc b m'))→K H'):By P (Instr.mapUpdate t (.map (some b)) (enc a) v) H K:=by
 refine AhI l c n (d.mapW i e) ?_;intro H' f g h;subst p;exact k H' (d.upd i e (g.mono fun k c j=>c.2 j) _ f (fun k c=>.inl c) (fun k c=>by rw[h];exact(d.in_ i e c).2) (by omega))
theorem Ur{K:v_→Aa→Prop}(c:E_ B H0 H ps)(i:Nat)(e:Ej P t kt et z)(d:ps[i]?=some (pMW Ok enc b m))
  (k:∀r n H',E_ B H0 H' (ps.set i (pIW Ok enc b r m (fun _=>False) none n))→K (H_ r) H'):Ba P (Instr.range t (.map (some b))) H K:=by
 refine AeP e (c.mapW i d) fun r n H' f hs g h=>?_;subst f;have j:=(c.in_ i d (k:=b) rfl).2;refine k _ n H' (c.upd i d (h.mono fun k a=>a.1) _ g (fun k a=>?_) (fun k a=>?_) (by omega))
 ·rcases a with a | a
  ·exact .inl a
  ·exact .inr (by omega)
 ·rcases a with rfl | rfl<;>omega
theorem XA{ty:x_}{K:v_→Aa→Prop}(e:E_ B H0 H ps)(i:Nat)(hi:∀a b,enc a=enc b→a=b)(f:ps[i]?=some (pIW Ok enc b r m D last n))(h:(∀a,(m a).isSome=true→D a)→K (.tuple #[.bool false]) H)
  (j:∀a v H' d,m a=some v→¬D a→d<n→E_ B H0 H' (ps.set i (pIW Ok enc b r m (fun x=>D x∨x=a) (some a) d))→K (.tuple #[.bool true,enc a,v]) H'):Ba P (Instr.next (H_ r) false ty) H K:=by
 refine AhA hi (e.iterW i f) h fun a v H' d l p q t u w=>j a v H' d l p q (e.upd i f (u.mono fun k c g=>c.2 (.inr g)) _ t (fun k c=>.inl c) (fun k c=>by rw[w];exact(e.in_ i f c).2) (by omega))
theorem E_.iterEnd(a:E_ B H0 H ps)(i:Nat)(c:ps[i]?=some (pIW Ok enc b r m D last n)):E_ B H0 H (ps.set i (pMW Ok enc b m)):=
 a.upd i c (A_.refl _ _) _ (a.iterW i c).map (fun k d=>.inl (.inl d)) (fun k d=>(a.in_ i c (.inl d)).2) (J_ _)
end
section
variable{α:Type}{T:Ty α}{e:x_}{a:Option Addr}{n cap:Nat}{xs:List α}{B:Nat→Prop}{H0 H:Aa}{ps:List Pc}
theorem OC{P:w_}{t ty q o m g by_:Nat}{z:v_}{ys:List α}{ds:List v_}{K:v_→Aa→Prop}(r:E_ B H0 H ps)(i:Nat)(x:SlT P t e T.size by_ z)(w:ps[i]?=some (pS T e a n cap xs))
  (hd:AL H q o ds) (y:T.reps none_ H ds ys) (A:m=ys.length) (C:∀u∈ds,u.oneCell'=true) (l:xs.length+ys.length≤maxLen) (hby:(xs.length+ys.length)*by_≤140737488355328)
  (k:∀a' c H',E_ B H0 H' (ps.set i (pS T e a' (xs.length+ys.length) c (xs++ys)))→A_ (fun k=>k<H.size∧¬N_ (.slice a n cap) k) H H'→K (.slice a' (xs.length+ys.length) c) H'):
  Ba P (Builtin.append_ #[t,t] ty [.slice a n cap,.slice (some ⟨q,o,none⟩) m g].toArray) H K:=by
 refine BG (T:=T) (S:=none_) (lo:=0) x (r.at_ i w).1 (l_ _) (fun k b=>b.elim) hd y A C l hby ?_;intro E H' d f p j;obtain⟨a',c,rfl⟩:=d.hull;rw[Q_]at d j ⊢;refine k a' c H' (r.upd i w (f.mono fun k b=>⟨b.1,fun D=>b.2 (.inl D)⟩) _ ⟨d,fun k b=>b.elim⟩ (fun k b=>?_) (fun k b=>?_) p) f
 ·rcases b with b | b
  ·rcases j k b with h | h
   ·exact .inl (.inl h)
   ·exact .inr h
  ·exact b.elim
 ·rcases b with b | b
  ·exact(d.lt b).2
  ·exact b.elim
end
section
variable{α β:Type}{Ok:α→Prop}{enc:α→v_}{T:Ty β}{e:x_}{b:Nat}{m:α→Option v_}{xs:α→List β}{B:Nat→Prop}{H0 H H':Aa}{ps:List Pc}{P:w_}{t kt et:x_}{a:α}
def pMQ(Ok:α→Prop)(enc:α→v_)(T:Ty β)(e:x_)(b:Nat)(m:α→Option v_)(xs:α→List β):Pc where
 foot k:=k=b∨∃a,N_ (Cl m a) k
 ok H:=FQ Ok enc H b m∧(∀a,M_ T none_ H 0 e (Cl m a) (xs a))∧(∀a a' k,a≠a'→N_ (Cl m a) k→¬N_ (Cl m a') k)∧∀a,¬N_ (Cl m a) b
 fr h hp:=⟨hp.1.agr h (.inl rfl),fun a=>(hp.2.1 a).agr h (fun k hk=>.inr ⟨a,hk⟩) (fun _ hk=>hk.elim),hp.2.2⟩
theorem E_.mqMap(a:E_ B H0 H ps)(i:Nat)(c:ps[i]?=some (pMQ Ok enc T e b m xs)):FQ Ok enc H b m:=(a.at_ i c).1
theorem E_.mqView(f:E_ B H0 H ps)(i:Nat)(g:ps[i]?=some (pMQ Ok enc T e b m xs))(a:α):∃c cap,Cl m a= .slice c (xs a).length cap∧S_ T (D_ H) H c cap (xs a):=by
 obtain⟨c,cap,h,j,-⟩:=((f.at_ i g).2.1 a).view (S':=D_ H) (fun k d=>(f.in_ i g (.inr ⟨a,d⟩)).2) (fun _ d=>d.elim);exact⟨c,cap,h,j⟩
def VB(Ok:α→Prop)(enc:α→v_)(T:Ty β)(e:x_)(b:Nat)(m:α→Option v_)(xs:α→List β)(a:α)(v':v_)(x':List β):Pc where
 foot k:=k=b∨N_ v' k∨∃c,c≠a∧N_ (Cl m c) k
 ok H:=FQ Ok enc H b m∧(m a).isSome=true∧M_ T none_ H 0 e v' x'∧(∀c,c≠a→M_ T none_ H 0 e (Cl m c) (xs c))∧(∀c c' k,c≠a→c'≠a→c≠c'→N_ (Cl m c) k→¬N_ (Cl m c') k)∧(∀c k,c≠a→N_ (Cl m c) k→¬N_ v' k)∧(∀c,c≠a→¬N_ (Cl m c) b)∧¬N_ v' b
 fr h hp:=⟨hp.1.agr h (.inl rfl),hp.2.1,hp.2.2.1.agr h (fun k hk=>.inr (.inl hk)) (fun _ hk=>hk.elim),fun c hc=>(hp.2.2.2.1 c hc).agr h (fun k hk=>.inr (.inr ⟨c,hc,hk⟩)) (fun _ hk=>hk.elim),hp.2.2.2.2⟩
theorem AaK(l:E_ B H0 H ps)(i:Nat)(x:Ej P t kt et (.slice none 0 0))(d:GF P kt Ok enc)(y:Ok a)(n:ps[i]?=some (pMQ Ok enc T e b m xs)){K:v_→Aa→Prop}
  (k:∀s m' H',FR enc H' b a s→A_ (fun k=>k≠b) H H'→(∀c,(m' c).isSome=true↔(m c).isSome=true∨c=a)→E_ B H0 H' (ps.set i (VB Ok enc T e b m' xs a (Cl m a) (xs a)))→K (.tuple #[Cl m a,C_ s]) H'):Ba P (Instr.mapEntry t (.map (some b)) (enc a)) H K:=by
 have⟨p,h,q,r⟩:=l.at_ i n;refine AaL x d y p fun H' s z A u C=>?_;have j:∀c,Cl (put m a (some ((m a).getD (.slice none 0 0)))) c=Cl m c:=fun c=>by
  by_cases f:c=a
  ·subst f;rw[Fw];rfl
  ·rw[ES f]
 refine k s _ H' A u (fun c=>?_) (l.upd i n (u.mono fun k d g=>d.2 (.inl g)) (VB Ok enc T e b (put m a (some ((m a).getD (.slice none 0 0)))) xs a (Cl m a) (xs a)) ⟨z,by rw[Bw];rfl,?_,fun c f=>?_,fun c D k f E w=>?_,fun c k f=>?_,fun c f=>?_,r a⟩ (fun k d=>?_) (fun k d=>?_) (by omega))
 ·by_cases f:c=a
  ·subst f;rw[Bw];simp
  ·rw[C4 f];simp[f]
 ·exact(h a).agr u (fun k d g=>r a (g ▸ d)) (fun _ d=>d.elim)
 ·rw[j];exact(h c).agr u (fun k d g=>r c (g ▸ d)) (fun _ d=>d.elim)
 ·rw[j,j];exact q c D k w
 ·rw[j];exact q c a k f
 ·rw[j];exact r c
 ·refine .inl ?_;rcases d with d | d | ⟨c,-,d⟩
  ·exact .inl d
  ·exact .inr ⟨a,d⟩
  ·rw[j]at d;exact .inr ⟨c,d⟩
 ·rw[C];rcases d with d | d | ⟨c,-,d⟩
  ·exact(l.in_ i n (.inl d)).2
  ·exact(l.in_ i n (.inr ⟨a,d⟩)).2
  ·rw[j]at d;exact(l.in_ i n (.inr ⟨c,d⟩)).2
theorem AgD{ty q o l t by_:Nat}{z v:v_}{x:List β}{ys:List β}{ds:List v_}{tt:x_}{K:v_→Aa→Prop}(D:E_ B H0 H ps)(i:Nat)(O:SlT P tt e T.size by_ z)(E:ps[i]?=some (VB Ok enc T e b m xs a v x))
  (hd:AL H q o ds) (Q:T.reps none_ H ds ys) (R:l=ys.length) (U:∀u∈ds,u.oneCell'=true) (F:x.length+ys.length≤maxLen) (hby:(x.length+ys.length)*by_≤140737488355328)
  (k:∀w H',E_ B H0 H' (ps.set i (VB Ok enc T e b m xs a w (x++ys)))→A_ (fun k=>k<H.size∧¬N_ v k) H H'→¬N_ v b→K w H'):
  Ba P (Builtin.append_ #[tt,tt] ty [v,.slice (some ⟨q,o,none⟩) l t].toArray) H K:=by
 have⟨y,G,V,A,I,j,J,n⟩:=D.at_ i E;have p:∀c,c≠a→∀k,N_ (Cl m c) k→k<H.size:=fun c g k d=>(D.in_ i E (.inr (.inr ⟨c,g,d⟩))).2;have L:b<H.size:=(D.in_ i E (.inl rfl)).2;refine BG (T:=T) (S:=none_) (lo:=0) O V (l_ _) (fun k d=>d.elim) hd Q R U F hby ?_;intro w H' C f M r;refine k w H' (D.upd i E (f.mono fun k d=>⟨d.1,fun J=>d.2 (.inr (.inl J))⟩) (VB Ok enc T e b m xs a w (x++ys)) ⟨y.agr f ⟨L,n⟩,G,C,fun c g=>(A c g).agr f (fun k d=>⟨p c g k d,j c k g d⟩) (fun _ d=>d.elim),I,fun c k g d N=>?_,J,fun d=>?_⟩ (fun k d=>?_) (fun k d=>?_) M) f n
 ·rcases r k N with h | h
  ·exact j c k g d h
  ·have:=p c g k d;omega
 ·rcases r b d with h | h
  ·exact n h
  ·omega
 ·rcases d with d | d | d
  ·exact .inl (.inl d)
  ·rcases r k d with h | h
   ·exact .inl (.inr (.inl h))
   ·exact .inr h
  ·exact .inl (.inr (.inr d))
 ·rcases d with d | d | ⟨c,g,d⟩
  ·have:k=b:=d;omega
  ·exact(C.lt d).2
  ·have:=p c g k d;omega
theorem AaO{u:x_}{s:Nat}{v:v_}{x:List β}{K:Aa→Prop}(p:E_ B H0 H ps)(i:Nat)(d:GF P kt Ok enc)(F:Ok a)(q:ps[i]?=some (VB Ok enc T e b m xs a v x))(hs:FR enc H b a s)
  (k:∀m' H',(∀c,(m' c).isSome=true↔(m c).isSome=true)→E_ B H0 H' (ps.set i (pMQ Ok enc T e b m' (upd xs a x)))→K H'):By P (Instr.entryStore u (.map (some b)) (.int .i64 (s:Int)) v) H K:=by
 have⟨r,t,G,w,C,h,E,y⟩:=p.at_ i q;refine AaP d F r hs t ?_;intro H' D z I;have n:Cl (put m a (some v)) a=v:=Fw m a v;have e2:∀c,c≠a→Cl (put m a (some v)) c=Cl m c:=fun c f=>ES f;refine k _ H' (fun c=>?_) (p.upd i q (z.mono fun k d g=>d.2 (.inl g)) (pMQ Ok enc T e b (put m a (some v)) (upd xs a x)) ⟨D,fun c=>?_,fun c A k j=>?_,fun c=>?_⟩ (fun k d=>?_) (fun k d=>?_) (by omega))
 ·by_cases f:c=a
  ·subst f;rw[Bw];simp[t]
  ·rw[C4 f]
 ·by_cases f:c=a
  ·subst f;rw[n,Ib];exact G.agr z (fun k d g=>y (g ▸ d)) (fun _ d=>d.elim)
  ·rw[e2 c f,No f];exact(w c f).agr z (fun k d g=>E c f (g ▸ d)) (fun _ d=>d.elim)
 ·by_cases f:c=a
  ·subst f;rw[n,e2 A (Ne.symm j)];exact fun D z=>h A _ (Ne.symm j) z D
  ·by_cases l:A=a
   ·subst l;rw[n,e2 c f];exact h c _ f
   ·rw[e2 c f,e2 A l];exact C c A k f l j
 ·by_cases f:c=a
  ·subst f;rw[n];exact y
  ·rw[e2 c f];exact E c f
 ·refine .inl ?_;rcases d with d | ⟨c,d⟩
  ·exact .inl d
  ·by_cases f:c=a
   ·subst f;rw[n]at d;exact .inr (.inl d)
   ·rw[e2 c f]at d;exact .inr (.inr ⟨c,f,d⟩)
 ·rw[I];rcases d with d | ⟨c,d⟩
  ·exact(p.in_ i q (.inl d)).2
  ·by_cases f:c=a
   ·subst f;rw[n]at d;exact(p.in_ i q (.inr (.inl d))).2
   ·rw[e2 c f]at d;exact(p.in_ i q (.inr (.inr ⟨c,f,d⟩))).2
end
structure Slot where
 ok:Aa→v_→Prop
 fr:∀{S:Nat→Prop} {H H':Aa} {v:v_},A_ S H H'→(∀k,N_ v k→S k)→ok H v→ok H' v
 lt:∀{H:Aa} {v:v_} {k:Nat},ok H v→N_ v k→k<H.size
section
variable{α:Type}{T:Ty α}{B:Nat→Prop}{H0 H H1:Aa}{ps:List Pc}{e te:x_}{b:Nat}{vs:List v_}{ss:Nat→Slot}{xs:List α}{v:v_}{j:Nat}
theorem L9{k:Nat}:¬N_ (.slice none 0 0) k:=fun⟨_,_,_,h⟩=>by cases h
end
theorem ixvN{P:w_}{t len e sz:Nat}{k:IntKind}{i:Int}{cs:Array v_}{S:Nat→Prop}{H:Aa}{K:v_→Prop}(a:O6 P t len e sz) [hc:AggT P e sz](d:0≤i)(f:i<len)
  (g:K (.agg (cs.extract (i.toNat*sz) (i.toNat*sz+sz)))):A7 P (Instr.index t (.agg cs) (.int k i)) S H K:=by
 refine A7.mk _ (fun w _=>?_) g;cases b:P.info? e with
 | none=>have:=a.size;simp[b]at this
 | some c=>
   have hs:c.size=sz:=by have:=a.size;simpa [b]using this
   simp[Instr.index,asIntOf,run_underlying a.under,d,f,sizeOf,typeInfo,b,hs,VP]
theorem YZ{x:Nat}(h:x<18446744073709551616):18446744073709551615 ^^^ x=18446744073709551615-x:=by
 have a:(BitVec.ofNat 64 x ^^^ Al6 64).toNat=(~~~(BitVec.ofNat 64 x)).toNat:=by rw[BitVec.xor_allOnes]
 rw[YbR,YbS,Yam,BitVec.toNat_allOnes,Ybs (by simpa using h),Nat.xor_comm]at a;simpa using a
theorem UN{P:w_}{x:Nat}{S:Nat→Prop}{H:Aa}{K:v_→Prop}(b:x<18446744073709551616)(k:K (.int .u64 ((18446744073709551615-x:Nat):Int))):A7 P (Op.unary .xor (.int .u64 (x:Int))) S H K:=by
 refine A7.mk _ (fun w _=>?_) k;have c:IntKind.u64.max=18446744073709551615:=rfl;have d:IntKind.u64.signed=false:=rfl;have e:(Am3 IntKind.u64.bits (18446744073709551615:Int) ^^^ Am3 IntKind.u64.bits (x:Int)).toNat=18446744073709551615-x:=by
  show(Am3 64 ((18446744073709551615:Nat):Int) ^^^ Am3 64 (x:Int)).toNat=_;rw[Yal,Yal,YbR,Yam,Yam,Ybs (a:=x) b];exact YZ b
 have e2:IntKind.wrap .u64 ((18446744073709551615-x:Nat):Int)=((18446744073709551615-x:Nat):Int):=Iz ⟨by show(0:Int)≤_;omega,by rw[c];omega⟩;show(pure (Value.int .u64 (IntKind.wrap .u64 ((Am3 IntKind.u64.bits (if IntKind.u64.signed=true then(-1:Int)else IntKind.u64.max) ^^^ Am3 IntKind.u64.bits (x:Int)).toNat:Int))):Sem v_).run P w=_;rw[d,c];simp only[Yao,if_false];rw[e,e2];rfl
theorem PY(a:BitVec 256)(i:Nat)(hi:i<4):wd (~~~a) i=18446744073709551615-wd a i:=by
 have b:=a.isLt;unfold wd;rw[YbS]
 match i,hi with
 | 0,_=>simp only[AmQ,AmR]at*;omega
 | 1,_=>simp only[AmQ,AmR]at*;omega
 | 2,_=>simp only[AmQ,AmR]at*;omega
 | 3,_=>simp only[AmQ,AmR]at*;omega
theorem XI(a:BitVec 256)(H:Aa):AZ prog 183 #[Bf a] H (Bf (~~~a)):=by
 have d:∀i,wd a i<18446744073709551616:=fun i=>IC a i;refine Al.of_vc func183 rfl (call183 _) (BC (An a) rfl ?_);intro p H1 t l b e;refine Aw (Bf 0) (An 0) rfl rfl ?_;intro r H3 u m f c;replace b:=b.agr c (show p<r by omega);refine ixa BK (by decide) (by decide) (B_ ((b.cell _).trans rfl) trivial (UN (d _) (ixa BK (by decide) (by decide) (B_ ((b.cell _).trans rfl) trivial (UN (d _) (ixa BK (by decide) (by decide) (B_ ((b.cell _).trans rfl) trivial (UN (d _) (ixa BK (by decide) (by decide) (B_ ((b.cell _).trans rfl) trivial (UN (d _) ?_)))))))))));rw[←PY a 0 (by decide),←PY a 1 (by decide),←PY a 2 (by decide),←PY a 3 (by decide)];refine EU BK (Bf 0) rfl (An (~~~a)) rfl (Zaa rfl f (show 0+4≤4 by decide) rfl ?_);intro H4 g h n;refine lN (cs:=An (~~~a)) (g.cells (fun j v q=>by simpa [As,An]using q)) ?_;exact⟨rfl,fun k w=>by rw[h k (by omega),c k (by omega),e k (by omega)]⟩
theorem AaN(a b:BitVec 256)(H:Aa):AZ prog 174 #[Bf a,Bf b] H (Bf (a &&& ~~~b)):=by
 refine Al.of_vc func174 rfl (call174 _) (BL (St.nil H) (An a) rfl fun p H1 st1=>(BL st1 (An b) rfl fun q H2 m=>(BV m (Bf 0) (An 0) rfl rfl fun r H3 c=>(Au.held (D_ H3) 4 (sq [0,1] (.f 2 (.f 3 (.f 4 .e)))) rfl (by kernel_rfl) ?_))));refine L_ (cs:=An a) ((c.blk 0 rfl).cells fun j v g=>by rw[P_];exact g) (c.blk 0 rfl).lt ?_;refine L_ (cs:=An b) ((c.blk 1 rfl).cells fun j v g=>by rw[P_];exact g) (c.blk 1 rfl).lt ?_;refine Ak (XI b H3) fun H4 d=>?_;have n:=c.call d;refine⟨d,?_⟩;refine Ak (SF a (~~~b) H4) fun H5 h=>?_;have t:=n.call h;refine⟨d.trans (h.mono fun k u=>Ae d u),?_⟩;refine AD (cs:=An (a &&& ~~~b)) t 2 rfl rfl (show 0+4≤4 by decide) rfl fun H6 l=>(L_ (cs:=An (a &&& ~~~b)) ((l.blk 2 rfl).cells (fun j v g=>by simpa [As,An]using g)) trivial ?_);exact⟨rfl,l.old⟩
def bA(w:List Nat):ByteArray:=⟨(w.map UInt8.ofNat).toArray⟩
def byN(s:ByteArray):List Nat:=s.data.toList.map UInt8.toNat
theorem Lv(s:ByteArray):(byN s).length=s.size:=by unfold byN;rw[Z_];exact YbI
theorem OH{s:ByteArray}{i:Nat}{b:UInt8}(h:s.data[i]?=some b):(byN s)[i]?=some b.toNat:=by
 unfold byN;rw[t_,Yag,h];rfl
theorem Ae9{s:ByteArray}{k:Nat}(h:k<s.size):∃b,s.data[k]?=some b:=⟨s.data[k]'h,Yad h⟩
theorem Bx{l c:List v_}(h:c.length=l.length):As l 0 c=c:=by
 unfold As;rw[Ycr,Ybj,P_,h,List.drop_length,Yba]
def ofB(x:BitVec 256)(l:List Nat):BitVec 256:=l.foldl (fun x b=>x ||| AnY 256 b) x
theorem of_p(s:ByteArray)(hs:s.size≤1048576)(H:Aa):AZ prog 118 #[.string s] H (Bf (ofB 0#256 (byN s))):=by
 refine Al.of_vc func118 rfl (call118 _) (BV (St.nil H) (Bf 0) (An 0) rfl rfl fun r H1 st1=>(BV st1 (Bf 0) (An 0) rfl rfl fun p H2 t=>?_));(conv=>whnf);refine A8.mk [7] (fun i:Nat=>[C_ i]) (fun i H3=>i≤s.size∧St H H3 [pB 227 r (An 0),pB 227 p (An (ofB 0#256 ((byN s).take i)))]) (fun i _=>s.size-i) ?_ ?_
 ·(conv=>whnf);exact⟨0,rfl,l_ _,t⟩
 ·rintro i H3 A ⟨D,d⟩;refine Ag.m2 (fun h=>?_) (fun h=>?_)
  ·have⟨c,u⟩:=Ae9 (s:=s) (k:=i) (by omega);obtain⟨b,q⟩:∃b,b=c.toNat:=⟨_,rfl⟩;have l:b<256:=by rw[q];exact UInt8.toNat_lt c
   obtain⟨x,B⟩:∃x,x=ofB 0#256 ((byN s).take i):=⟨_,rfl⟩;have m:ofB 0#256 ((byN s).take (i+1))=x ||| AnY 256 b:=by
    rw[Ai (OH u),B,q];unfold ofB;rw[Yca];rfl
   rw[←B]at d;have w:=d.blk 1 rfl;have y:=(d.in_ 1 rfl rfl).2;refine Au.heldZ (D_ H3) [13] (sq [0,1,2,3,4,5,6,7,8,9,10,11,12] (.f 13 .e)) rfl (by kernel_rfl) (Ci underlying9 rfl u ?_);rw[←q];refine AbV (b:=6) (by decide) (ixa BK (by omega) (by omega) ?_);refine B_ (v:=.int .u64 (wd x (b / 64))) (by rw[w.cell,P_,Yb3];exact Rv x b (by omega)) y ?_;refine Ci underlying9 rfl u ?_;rw[←q];refine RH (b:=63) (Lo l) (Lo (by decide)) ?_;have C:2^(b % 64)<2^64:=Nat.pow_lt_pow_right (by decide) (by omega);rw[Ac0];have n:inK .u64 ((1*2^(b % 64):Nat):Int):=AcE (by omega);refine AfY (a:=1) (by simp[IntKind.bits];omega) n ?_;refine vor (D7 x _) n (ixa BK (by omega) (by omega) ?_);refine Bh d 1 rfl (by simp[An];omega) rfl fun H4 g=>?_;(conv=>whnf);rw[R_ i (by omega)];refine⟨rfl,i+1,by simp,⟨by omega,?_⟩,by omega⟩;rw[m,←Rw x b (by omega)];rw[P_,Yb3,YcE]at g;exact g
  ·obtain rfl:i=s.size:=by omega
   rw[Ycy (by rw[Lv];exact J_ _)]at d;generalize ofB 0#256 (byN s)=x at*;refine L_ (cs:=An x) ((d.blk 1 rfl).cells fun j v z=>by rw[P_];exact z) trivial ?_;refine AD (cs:=An x) d 0 rfl rfl (J_ _) rfl fun H4 g=>?_;rw[Bx (show(An x).length=(An 0).length from rfl)]at g;refine L_ (cs:=An x) ((g.blk 0 rfl).cells fun j v z=>by rw[P_];exact z) trivial ?_;exact⟨rfl,g.old⟩
def RZ(x:BitVec 256)(k:Nat):List v_:=(Ah8 256).map fun b=>.bool (decide (b<k)&&x.getLsbD b)
def AgG(x:BitVec 256):List v_:=RZ x 256
theorem Sa(x:BitVec 256)(k:Nat):(RZ x k).length=256:=by simp[RZ]
def tB:Ty (BitVec 256) where
 size:=256
 rep _ _ cs s:=cs=AgG s
 len h:=by rw[h];exact Sa _ _
 frame h _:=h
 mono h _:=h
section
attribute [local irreducible] AN
def cnt(cells:List (BitVec 256))(b:Nat):Nat:=(cells.filter fun x=>x.getLsbD b).length
def ind(x:BitVec 256)(b:Nat):Nat:=if x.getLsbD b then 1 else 0
theorem Mj(c:BitVec 256)(cs:List (BitVec 256))(b:Nat):cnt (c::cs) b=ind c b+cnt cs b:=by
 unfold cnt ind;rw[Yci];split<;>simp<;>omega
theorem Qm{a c:BitVec 256}:a &&& c=0#256↔∀b,b<256→ind a b+ind c b≤1:=by
 constructor
 ·intro h b e;have d:(a &&& c).getLsbD b=false:=by rw[h];simp
  rw[YbP]at d;unfold ind;cases f:a.getLsbD b<;>cases g:c.getLsbD b<;>simp_all
 ·intro h;apply Yah;intro b e;have d:=h b e;rw[YbP];unfold ind at d;cases f:a.getLsbD b<;>cases g:c.getLsbD b<;>simp_all
theorem Xp{a c:BitVec 256}(h:a &&& c=0#256){b:Nat}(d:b<256):ind (a ||| c) b=ind a b+ind c b:=by
 have e:=Qm.1 h b d;unfold ind at e ⊢;rw[BitVec.getLsbD_or];cases f:a.getLsbD b<;>cases g:c.getLsbD b<;>simp_all
theorem HE:∀(cs:List (BitVec 256)) (all:BitVec 256),(∃x,Dj all cs=some x)↔∀b,b<256→ind all b+cnt cs b≤1
 | [],all=>by
   simp only[Dj,cnt,YcA,J'];refine⟨fun _ b _=>?_,fun _=>⟨_,rfl⟩⟩;unfold ind;split<;>omega
 | c::cs,all=>by
   simp only[Dj];split
   ·rename_i h;rw[HE cs (all ||| c)];constructor
    ·intro d b a;have:=d b a;rw[Xp h a]at this;rw[Mj];omega
    ·intro d b a;have:=d b a;rw[Mj]at this;rw[Xp h a];omega
   ·rename_i h;refine⟨fun⟨x,e⟩=>(by cases e),fun d=>absurd (Qm.2 fun b a=>?_) h⟩;have:=d b a;rw[Mj]at this;omega
theorem TK{cs:List (BitVec 256)}{b:Nat}:(cs.any fun c=>c.getLsbD b)=true↔1≤cnt cs b:=by
 unfold cnt;rw[Yc8];constructor
 ·rintro⟨x,a,d⟩;exact Ycz (YbV.2 ⟨a,d⟩)
 ·intro h;have⟨x,a⟩:=List.exists_mem_of_length_pos h;exact⟨x,(YbV.1 a).1,(YbV.1 a).2⟩
theorem Tf{cells:List (BitVec 256)}{next:List (List Int)}{g:Nat}:Bp cells next g=true↔(1≤next.length∧next.length≤65536∧next.length=g)∧(∀b,b<256→cnt cells b=1)∧∀row∈next,Hk next.length cells.length row=true:=by
 have j:∀b,ind 0#256 b=0:=fun b=>by simp[ind]
 constructor
 ·intro h;have e:=E4 h;unfold Bp at h;split at h
  ·cases h
  ·rename_i all a;simp only[h_,beq_iff_eq,Zzj,Ycc]at h;refine⟨⟨e.1,e.2.1,e.2.2.1⟩,fun b c=>?_,h.2⟩;have f:=(HE cells 0#256).1 ⟨all,a⟩ b c;rw[j]at f;have d:=HD a b;rw[h.1.1.1.1,Yaj]at d;simp only[c,decide_true,BitVec.getLsbD_zero,Bool.false_or]at d;have k:=TK.1 d.symm;omega
 ·rintro⟨⟨f,d,k⟩,l,m⟩;have⟨all,a⟩:=(HE cells 0#256).2 fun b c=>by rw[j,l b c];omega
  unfold Bp;rw[a];simp only[h_,beq_iff_eq,Zzj,Ycc];refine⟨⟨⟨⟨Yah fun b c=>?_,f⟩,d⟩,k⟩,m⟩;rw[HD a b,Yaj,TK.2 (by rw[l b c];omega)];simp[c]
def E3(cells:List (BitVec 256))(a b:Nat):Bool:=cells.all fun c=>c.getLsbD a==c.getLsbD b
def AY(cells:List (BitVec 256)):Nat→List Nat×List Nat
 | 0=>([],[])
 | b+1=>match(AY cells b).1.findIdx? fun g=>E3 cells b g with
   | some k=>((AY cells b).1,(AY cells b).2++[k])
   | none=>((AY cells b).1++[b],(AY cells b).2++[(AY cells b).1.length])
def F8(ps:List Nat)(k:Nat)(b:Nat):Bool:=ps[b]?==some k
theorem Td(cells:List (BitVec 256))(a:Nat):E3 cells a a=true:=by simp[E3]
end
section
attribute [local irreducible] AN AY
section
variable{cell:List Int}{rv nv fv v:v_}
end
end
section
attribute [local irreducible] AN
def Mb(cells:List (BitVec 256))(next:List (List Int))(final:List Bool):Option AM:=if Bp cells next final.length then some (BO cells next final)else none
section
open Classical
end
end
section
attribute [local irreducible] AN AY
structure DM where
 cell:List Int
 reps:List Int
 next:List (List Int)
 final:List Bool
theorem Yt{α:Type}{l:List α}{k:Nat}{x:α}(h:l[k]?=some x):l.set k x=l:=by
 obtain⟨a,rfl⟩:=X_.1 h;exact List.set_getElem_self a
def Gf(D:DM)(u:List Bool)(q:Nat):Prop:=u[q]?=some true∨∀(row:List Int) (t:Nat),D.next[q]?=some row→(t:Int)∈row→u[t]? ≠some true
end
section
section
variable{S:Nat→Prop}{H:Aa}{v:v_}{cells:List (BitVec 256)}{next:List (List Int)}{final:List Bool}
end
structure MOk2(next:List (List Int))(cells:List (BitVec 256))(b:Nat)(st:MS):Prop where
 at_:∀(i p:Nat),st.cell[i]?=some p→∃c,st.cols[p]?=some c∧DU next c (AR cells i)=true
 some_:∀p,p<st.cols.length→∃i,i<b∧st.cell[i]?=some p
theorem Qk(next:List (List Int))(c:Nat):DU next c c=true:=by simp[DU]
theorem QQ{next:List (List Int)}{cells:List (BitVec 256)}{sp:Nat→BitVec 256}(q:∀b,b<256→AR cells b<cells.length):∀b,b≤256→MOk2 next cells b (AN next cells sp b)
 | 0,_=>⟨(fun i p h=>by simp[AN]at h),(fun p h=>by simp[AN]at h)⟩
 | b+1,hb=>by
   have g:=QQ (next:=next) (sp:=sp) q b (by omega);have a:=FE (next:=next) (sp:=sp) q b (by omega);unfold AN M8 FZ;cases r:JF next (AN next cells sp b).cols (AR cells b)with
   | some k=>
     unfold JF at r;obtain⟨t,l,_⟩:=Ycm.1 r;refine⟨fun i p h=>?_,fun p j=>?_⟩
     ·simp only at h ⊢;by_cases d:i<b
      ·rw[YaK (by rw[a.cell];exact d)]at h;exact g.at_ i p h
      ·rw[YaD (by rw[a.cell];omega),a.cell]at h;have m:=(X_.1 h).1;simp only[k_]at m;rw[show i-b=0 by omega,Ycb]at h;cases h;rw[show i=b by omega];exact⟨_,Ya2 t,l⟩
     ·simp only at j ⊢;have⟨i,e,f⟩:=g.some_ p j;exact⟨i,by omega,by rw[YaK (by rw[a.cell];exact e)];exact f⟩
   | none=>
     refine⟨fun i p h=>?_,fun p j=>?_⟩
     ·simp only at h ⊢;by_cases d:i<b
      ·rw[YaK (by rw[a.cell];exact d)]at h;have⟨c,e,f⟩:=g.at_ i p h;exact⟨c,by rw[YaK (X_.1 e).1];exact e,f⟩
      ·rw[YaD (by rw[a.cell];omega),a.cell]at h;have m:=(X_.1 h).1;simp only[k_]at m;rw[show i-b=0 by omega,Ycb]at h;cases h;rw[show i=b by omega];exact⟨AR cells b,by simp,Qk _ _⟩
     ·simp only[Q_,k_]at j ⊢;by_cases n:p<(AN next cells sp b).cols.length
      ·have⟨i,e,f⟩:=g.some_ p n;exact⟨i,by omega,by rw[YaK (by rw[a.cell];exact e)];exact f⟩
      ·exact⟨b,by omega,by rw[YaD (by rw[a.cell];omega),a.cell,YbD,Ycb];congr 1;omega⟩
attribute [local irreducible] AN AY
theorem RU{next:List (List Int)}{c d:Nat}{row:List Int}(h:DU next c d=true)(a:row∈next):row[c]?=row[d]? :=by
 unfold DU at h;simp only[Yar,beq_iff_eq,Ycc]at h;rcases h with h | h
 ·rw[h]
 ·exact h row a
section
variable{cells:List (BitVec 256)}{next:List (List Int)}{final:List Bool}(hs:Bp cells next final.length=true)
include hs
theorem Vv{q b:Nat}{row:List Int}(f:next[q]?=some row)(d:b<256):∃g p,(BO cells next final).next[q]?=some g∧(BO cells next final).cell[b]?=some p∧g[p]?=some (row.getD (AR cells b) 0):=by
 have h:=fun b d=>(Cg hs (b:=b) d).1;have m:=FE (next:=next) (sp:=fun b=>AJ b b) h 256 (J_ _);have n:=QQ (next:=next) (sp:=fun b=>AJ b b) h 256 (J_ _);have⟨p,j⟩:=Am (l:=(AN next cells (fun b=>AJ b b) 256).cell) (k:=b) (by rw[m.cell];exact d);have⟨c,a,e⟩:=n.at_ b p j;refine⟨Fs (AN next cells (fun b=>AJ b b) 256).cols row,p,by simp only[BO];rw[t_,f];rfl,j,?_⟩;unfold Fs;rw[t_,a];simp only[YcH,AlQ.injEq];rw[Ya5,Ya5,RU e (d_ f)]
theorem IT{q b:Nat}{row:List Int}(c:next[q]?=some row)(d:b<256):Ar (some (BO cells next final)) (q:Int) b=row.getD (AR cells b) 0:=by
 have⟨g,p,a,e,f⟩:=Vv hs c d;have:=(X_.1 a).1;unfold Ar;rw[G_ (by simp[e_];omega)];simp only[Yau,a,Ya5,e,Option.getD_some,f]
end
section
variable(cells:List (BitVec 256))(next:List (List Int))(final:List Bool)
end
end
section
attribute [local irreducible] AN AY
def Bz(o:Option AM)(s:ByteArray)(i:Nat)(q:Int):Bool:=AG o ((s.data.toList.drop i).foldl (fun q b=>Ar o q b.toNat) q)
theorem NR(o:Option AM)(s:ByteArray)(q:Int):Bz o s s.size q=AG o q:=by
 unfold Bz;rw[Ycn (by rw[YbI];exact J_ _)];rfl
theorem Sy{o:Option AM}{s:ByteArray}{i:Nat}{b:UInt8}(h:s.data[i]?=some b)(q:Int):Bz o s i q=Bz o s (i+1) (Ar o q b.toNat):=by
 unfold Bz;have a:s.data.toList[i]?=some b:=by rw[Yag];exact h
 have⟨c,d⟩:=X_.1 a;rw[Ycl c,d];rfl
def Fy(o:Option AM)(s:ByteArray)(n:Nat):List Bool:=(Ah8 (s.size+1)).map fun i=>decide (s.size≤i+n)&&Bz o s i 0
theorem Ee(o:Option AM)(s:ByteArray)(n:Nat):(Fy o s n).length=s.size+1:=by simp[Fy]
theorem Hd(o:Option AM)(s:ByteArray)(n:Nat){i:Nat}(h:i<s.size+1):(Fy o s n)[i]?=some (decide (s.size≤i+n)&&Bz o s i 0):=by
 unfold Fy;rw[t_,Ybf h];rfl
theorem Tp(o:Option AM)(s:ByteArray){n:Nat}(h:n+1≤s.size):(Fy o s n).set (s.size-(n+1)) (Bz o s (s.size-(n+1)) 0)=Fy o s (n+1):=by
 apply YaH;intro j;by_cases b:j<s.size+1
 ·rw[Hd o s (n+1) b,YaP,Ee];by_cases a:s.size-(n+1)=j
  ·subst a;rw[I_ rfl,I_ b,s_]<;>rfl
  ·rw[G_ a,Hd o s n b];have:decide (s.size≤j+n)=decide (s.size≤j+(n+1)):=decide_eq_decide.2 (by omega);rw[this]
 ·rw[YaE (by rw[YaF,Ee];omega),YaE (by rw[Ee];omega)]
theorem RC(o:Option AM)(s:ByteArray):(Ah1 (s.size+1) false).set s.size (Bz o s s.size 0)=Fy o s 0:=by
 apply YaH;intro j;by_cases b:j<s.size+1
 ·rw[Hd o s 0 b,YaP,Yc1];by_cases a:s.size=j
  ·subst a;rw[I_ rfl,I_ b,s_]<;>rfl
  ·rw[G_ a,Ya9,I_ b,m_]<;>rfl
 ·rw[YaE (by simp;omega),YaE (by rw[Ee];omega)]
def Dt(o:Option AM)(s:ByteArray)(i:Nat):List Bool:=(Ah8 (e_ o)).map fun(q:Nat)=>Bz o s i (q:Int)
theorem KH(o:Option AM)(s:ByteArray)(i:Nat):(Dt o s i).length=e_ o:=by simp[Dt]
theorem GB(o:Option AM)(s:ByteArray)(i:Nat){q:Nat}(h:q<e_ o):(Dt o s i)[q]?=some (Bz o s i (q:Int)):=by
 unfold Dt;rw[t_,Ybf h];rfl
theorem LG{S:Nat→Prop}{H:Aa}{v:v_}{o:Option AM}(h:Bc S H v o){q b:Nat}(c:q<e_ o)(e:b<256):0≤Ar o (q:Int) b∧Ar o (q:Int) b<e_ o:=by
 cases o with
 | none=>
   have:q=0:=by simp only[e_]at c;omega
   subst this;decide+revert
 | some A=>
   obtain⟨pb,rfl,d,a,_⟩:=h;exact Lf a (by omega) (by simp only[e_]at c;omega) e
theorem AbM{S:Nat→Prop}{H:Aa}{v:v_}{o:Option AM}{s:ByteArray}(hS:∀k,S k→k<H.size)(h:Bc S H v o)(hs:s.size≤4194304):
  Al prog 131 #[v,.string s] H fun v' H'=>A_ (D_ H) H H'∧H.size≤H'.size∧∃b,v'= .slice (b_ b) (s.size+1) (s.size+1)∧M_ Bd (fun _=>False) H' H.size 4 v' (Fy o s s.size):=by
 have⟨c4,c5⟩:=Ng h;have hF:∀{H':Aa},A_ (D_ H) H H'→Bc S H' v o:=fun k=>h.frame (k.mono hS);have hL:∀{H':Aa},A_ (D_ H) H H'→∀k,S k→k<H'.size:=fun h k E=>Ae h (hS k E);refine Al.of_vc func131 rfl (call131 _) ?_;(conv=>whnf);rw[n_ (x:=(s.size:Int)+1) (by omega)];refine D1 Fv rfl (by omega) (by omega) (by omega) (by omega) ?_;intro t H1 b5 c6 a6 b6;rw[show((s.size:Int)+1).toNat=s.size+1 by omega]at a6;rw[show((s.size:Int)+1).toNat=s.size+1 by omega];have O:=b6.new b5;refine Ak (Gz (hF O)) fun H2 P=>?_;have a7:=O.trans (P.mono fun k E=>Ae O E);have c7:=Ap P;refine D1 Fv rfl (by omega) (by omega) (by omega) (by omega) ?_;intro tb H3 c8 c9 a8 a9;rw[Yau]at a8;rw[Yau];have Q:=a7.trans (a9.mono fun k E=>by have:=Ae a7 E;omega);refine Ak (Gz (hF Q)) fun H4 F=>?_;have ab:=Q.trans (F.mono fun k E=>Ae Q E);have cb:=Ap F;refine D1 Fv rfl (by omega) (by omega) (by omega) (by omega) ?_;intro p H5 cd ce ad R;rw[Yau]at ad;rw[Yau];have ae:=ab.trans (R.mono fun k E=>by have:=Ae ab E;omega);have b1:=((a6.agr P (show t<H1.size by omega)).agr a9 (show t<tb by omega)).agr F (show t<H3.size by omega);have b7:=b1.agr R (show t<p by omega);have b8:=(a8.agr F (show tb<H3.size by omega)).agr R (show tb<p by omega);have mk:∀{b n:Nat},K_ H5 b 4 (Ah1 n (.bool false))→H.size≤b→n≤4194305→M_ Bd (fun _=>False) H5 H.size 4 (.slice (b_ b) n n) (Ah1 n false):=fun M N h3=>
  M_.made (T:=Bd) (v:=false) (c:=[.bool false]) N (by simpa using M) rfl (by unfold maxLen;omega)
 have o5:=mk b7 (by omega) (by omega);have t5:=mk b8 (by omega) (by omega);have h5:=mk ad (by omega) (by omega);have d:∀k:Nat,k*Bd.size=k:=fun k=>Yb3 k;have bw:Bd.size=1:=rfl;have ne:t≠tb∧t≠p∧tb≠p:=by omega
 have one:∀{H':Aa} {b c n cap:Nat} {xs:List Bool},M_ Bd (fun _=>False) H' H.size 4 (.slice (b_ b) n cap) xs→∀{H'':Aa},A_ (fun j=>j≠c) H' H''→b≠c→M_ Bd (fun _=>False) H'' H.size 4 (.slice (b_ b) n cap) xs:=fun M _ N h3=>
  M.agr N (fun j a=>by have⟨o,n,c,e⟩:=a;cases e;exact h3) (fun _ f=>f.elim)
 have old:∀{H':Aa} {b n cap:Nat} {xs:List Bool},M_ Bd (fun _=>False) H' H.size 4 (.slice (b_ b) n cap) xs→∀{H'':Aa},A_ (D_ H') H' H''→M_ Bd (fun _=>False) H'' H.size 4 (.slice (b_ b) n cap) xs:=fun M _ N=>
  M.agr N (fun j a=>(M.lt a).2) (fun _ f=>f.elim)
 have e0:Dt o s s.size=(Ah8 (e_ o)).map fun(q:Nat)=>AG o (q:Int):=by
  unfold Dt;exact Ycq fun q _=>NR o s q
 have tl:=KH o s s.size;(conv=>whnf);refine A8.mk [23] (fun k:Nat=>[C_ k]) (fun k H6=>k≤e_ o∧A_ (fun j=>j<H5.size∧j≠tb) H5 H6∧H5.size≤H6.size∧M_ Bd (fun _=>False) H6 H.size 4 (.slice (b_ tb) (e_ o) (e_ o)) ((Dt o s s.size).take k++Ah1 ((Dt o s s.size).length-k) false)) (fun k _=>e_ o-k) ?_ ?_
 ·(conv=>whnf);exact⟨0,rfl,by omega,A_.refl _ _,J_ _,by rw[Ms,tl];exact t5⟩
 ·rintro k H6 b9 ⟨E,G,cg,t6⟩;have ah:=ae.trans (G.mono fun j a=>⟨Ae ae a,by unfold D_ at a;omega⟩);refine Ag.m2 (fun h=>?_) (fun h=>?_)
  ·refine Ak (BU (hF ah)) fun H7 m=>?_;have bd:=Ap m;have u:(Dt o s s.size)[k]?=some (AG o (k:Int)):=by rw[GB o s s.size (by omega),NR]
   obtain⟨-,-,-,l7,U,be,-,V⟩:=(old t6 m).placeS (i:=k) (by rw[Mu (by omega)];omega);have:=d k;refine ix Fv (by omega) (by omega) (st1 U (by omega) rfl ?_);intro H8 W bf bh;rw[show 0+(k:Int).toNat*1=k*Bd.size by rw[d];omega]at W;have t8:=V H8 [.bool (AG o (k:Int))] (AG o (k:Int)) (by rw[←C6 (show k*Bd.size<l7.length by omega)]at W;exact W) (fun j a=>a.elim) rfl;rw[HH u]at t8;(conv=>whnf);rw[R_ k (by omega)];exact⟨rfl,k+1,by simp,⟨by omega,(G.trans (m.mono fun j a=>by unfold D_;omega)).trans (bf.mono fun j a=>a.2),by omega,t8⟩,by omega⟩
  ·obtain rfl:k=e_ o:=by omega
   have ai:=Mt (l:=Dt o s s.size) (z:=false);rw[tl]at ai t6;rw[ai]at t6;have o6:M_ Bd (fun _=>False) H6 H.size 4 (.slice (b_ t) (s.size+1) (s.size+1)) (Ah1 (s.size+1) false):=o5.agr G (fun j a=>by have⟨o,n,c,e⟩:=a;cases e;omega) (fun _ f=>f.elim);have h6:M_ Bd (fun _=>False) H6 H.size 4 (.slice (some ⟨p,0,none⟩) (e_ o) (e_ o)) (Ah1 (e_ o) false):=h5.agr G (fun j a=>by have⟨o,n,c,e⟩:=a;cases e;omega) (fun _ f=>f.elim);have rd:∀{H':Aa} {b n cap i:Nat} {xs:List Bool} {x:Bool},M_ Bd (fun _=>False) H' H.size 4 (.slice (b_ b) n cap) xs→xs[i]?=some x→YtdopnglgekglgaaGreatDoor.cell H' b (0+i*1)=some (.bool x):=fun M N=>by
    obtain⟨-,-,-,_,_,_,hg,_⟩:=M.placeS (i:=_) (X_.1 N).1;obtain⟨c,hc,rfl⟩:=hg _ N;have:=hc.one;rw[d]at this;simpa using this
   have g0:(Dt o s s.size)[0]?=some (Bz o s s.size 0):=GB o s s.size (by omega);obtain⟨-,-,-,l9,X,bj,-,Y⟩:=o6.placeS (i:=s.size) (by simp);have:=d s.size;refine ix Fv (by omega) (by omega) (B_ (v:=.bool (Bz o s s.size 0)) (rd t6 g0) trivial (ix Fv (by omega) (by omega) (st1 X (by omega) rfl ?_)));intro H7 Z m bd;rw[show 0+((s.size:Nat):Int).toNat*1=s.size*Bd.size by rw[d];omega]at Z;have o7:=Y H7 [.bool (Bz o s s.size 0)] (Bz o s s.size 0) (by rw[←C6 (show s.size*Bd.size<l9.length by omega)]at Z;exact Z) (fun j a=>a.elim) rfl;rw[RC]at o7;have t7:=one t6 m (by omega);have h7:=one h6 m (by omega);(conv=>whnf);rw[n_ (x:=(s.size:Int)-1) (by omega)];(conv=>whnf);refine A8.mk [6,7,9] (fun x:Nat×Nat×Nat=>match x with | (n,tb,hb)=>[.slice (b_ tb) (e_ o) (e_ o),.slice (b_ hb) (e_ o) (e_ o),C_ ((s.size:Int)-1-n)])
    (fun x H8=>x.1≤s.size∧A_ (D_ H) H H8∧H7.size≤H8.size∧(x.2.1≠x.2.2∧t≠x.2.1∧t≠x.2.2∧H.size≤x.2.1∧H.size≤x.2.2)∧M_ Bd (fun _=>False) H8 H.size 4 (.slice (b_ t) (s.size+1) (s.size+1)) (Fy o s x.1)∧
     M_ Bd (fun _=>False) H8 H.size 4 (.slice (some ⟨x.2.1,0,none⟩) (e_ o) (e_ o)) (Dt o s (s.size-x.1))∧∃ys:List Bool,ys.length=e_ o∧M_ Bd (fun _=>False) H8 H.size 4 (.slice (some ⟨x.2.2,0,none⟩) (e_ o) (e_ o)) ys) (fun x _=>s.size-x.1) ?_ ?_
   ·(conv=>whnf);exact⟨(0,tb,p),by simp,by simp,ah.trans (m.mono fun j a=>by unfold D_ at a;omega),J_ _,⟨by simp only;omega,by simp only;omega,by simp only;omega,by simp only;omega,by simp only;omega⟩,o7,t7,_,by simp,h7⟩
   ·rintro⟨n,aj,ak⟩ H8 bn ⟨hn,am,bh,w,o8,t8,ys,bo,h8⟩;simp only at hn w t8 h8 o8;refine Ag.m2 (fun h=>?_) (fun h=>?_)
    ·obtain⟨i,hi⟩:∃i:Nat,i=s.size-(n+1):=⟨_,rfl⟩;have bp:(s.size:Int)-1-(n:Int)=(i:Int):=by omega
     rw[show s.size-n=i+1 by omega]at t8;have⟨b,hb⟩:=En (s:=s) (k:=i) (by omega);have y:=UInt8.toNat_lt b;have a0:=KH o s i;rw[bp];(conv=>whnf);refine A8.mk [49] (fun k:Nat=>[C_ k]) (fun k H9=>k≤e_ o∧A_ (D_ H) H H9∧H8.size≤H9.size∧M_ Bd (fun _=>False) H9 H.size 4 (.slice (b_ t) (s.size+1) (s.size+1)) (Fy o s n)∧M_ Bd (fun _=>False) H9 H.size 4 (.slice (b_ aj) (e_ o) (e_ o)) (Dt o s (i+1))∧
      M_ Bd (fun _=>False) H9 H.size 4 (.slice (b_ ak) (e_ o) (e_ o)) ((Dt o s i).take k++ys.drop k)) (fun k _=>e_ o-k) ?_ ?_
     ·(conv=>whnf);exact⟨0,rfl,by omega,am,J_ _,o8,t8,by simpa using h8⟩
     ·rintro k H9 bq ⟨ch,r,ci,o9,t9,h9⟩;refine Ag.m2 (fun h=>?_) (fun h=>?_)
      ·have br:=LG (hF r) (q:=k) (b:=b.toNat) (by omega) y;have⟨q',ao⟩:=Yav br.1;have a5:Bz o s i (k:Int)=Bz o s (i+1) (q':Int):=by rw[Sy hb,ao]
       have u:(Dt o s i)[k]?=some (Bz o s (i+1) (q':Int)):=by rw[GB o s i (by omega),a5]
       refine Ci Hv rfl hb (Ak (Cx (hL r) (hF r) y) fun H10 g=>?_);rw[ao];have ap:=r.trans (g.mono fun j a=>Ae r a);have bx:=Ap g;have bu:=old o9 g;have aq:=old t9 g;have bz:((Dt o s i).take k++ys.drop k).length=e_ o:=by simp[a0,bo];omega
       obtain⟨-,-,-,bv,I,az,-,J⟩:=(old h9 g).placeS (i:=k) (by omega);have:=d k;refine ix Fv (by omega) (by omega) ?_;refine B_ (v:=.bool (Bz o s (i+1) (q':Int))) (by rw[Yau];exact rd aq (GB o s (i+1) (by omega))) trivial ?_;refine ix Fv (by omega) (by omega) (st1 I (by omega) rfl ?_);intro H11 A B c2;rw[show 0+(k:Int).toNat*1=k*Bd.size by rw[d];omega]at A;have au:=J H11 [.bool (Bz o s (i+1) (q':Int))] (Bz o s (i+1) (q':Int)) (by rw[←C6 (show k*Bd.size<bv.length by omega)]at A;exact A) (fun j a=>a.elim) rfl;have aw:((Dt o s i).take k++ys.drop k).set k (Bz o s (i+1) (q':Int))=(Dt o s i).take (k+1)++ys.drop (k+1):=by
        rw[YaS _ _ (by simp;omega),YaN,a0,Ybu (by omega),YbD,Ycl (show k<ys.length by omega),Yc4,Ai u,YaC];rfl
       rw[aw]at au;(conv=>whnf);rw[R_ k (by omega)];exact⟨rfl,k+1,by simp,⟨by omega,ap.trans (B.mono fun j a=>by unfold D_ at a;omega),by omega,one bu B w.2.2.1,one aq B w.1,au⟩,by omega⟩
      ·obtain rfl:k=e_ o:=by omega
       rw[Ycn (by omega),Yba,show(Dt o s i).take (e_ o)=Dt o s i by rw[←a0,YaB]]at h9;have g1:(Dt o s i)[0]?=some (Bz o s i 0):=GB o s i (by omega);obtain⟨-,-,-,l12,K,b4,-,L⟩:=o9.placeS (i:=i) (by rw[Ee];omega);have:=d i;refine ix Fv (by omega) (by omega) (B_ (v:=.bool (Bz o s i 0)) (rd h9 g1) trivial (ix Fv (by omega) (by omega) (st1 K (by omega) rfl ?_)));intro H12 C D c3;rw[show 0+(i:Int).toNat*1=i*Bd.size by rw[d];omega]at C;have ay:=L H12 [.bool (Bz o s i 0)] (Bz o s i 0) (by rw[←C6 (show i*Bd.size<l12.length by omega)]at C;exact C) (fun j a=>a.elim) rfl;have hp:=Tp o s (n:=n) (by omega);rw[←hi]at hp;rw[hp]at ay;(conv=>whnf);rw[n_ (x:=(i:Int)-1) (by omega)];refine⟨rfl,(n+1,ak,aj),?_,⟨by simp only;omega,r.trans (D.mono fun j a=>by unfold D_ at a;omega),by omega,⟨by simp only;omega,by simp only;omega,by simp only;omega,by simp only;omega,by simp only;omega⟩,ay,?_,_,KH o s (i+1),one t9 D (Ne.symm w.2.1)⟩,by simp only;omega⟩
       ·simp only;rw[show(s.size:Int)-1-((n+1:Nat):Int)=(i:Int)-1 by omega]
       ·simp only;rw[show s.size-(n+1)=i by omega];exact one h9 D (Ne.symm w.2.2.1)
    ·obtain rfl:n=s.size:=by omega
     (conv=>whnf);exact⟨am,by omega,t,rfl,o8⟩
def C0(oa ob:Option AM)(s:ByteArray)(n:Nat):List Int:=((Ah8 n).filter fun i=>Bz ob s i 0&&AG oa (HP oa s i)).map fun(i:Nat)=>(i:Int)
def Jv(oa ob:Option AM)(s:ByteArray):List Int:=C0 oa ob s (s.size+1)
theorem HC(a b:Option AM)(s:ByteArray)(n:Nat):C0 a b s (n+1)=if(Bz b s n 0&&AG a (HP a s n))=true then C0 a b s n++[(n:Int)]else C0 a b s n:=by
 unfold C0;rw[Yco,Yce];cases h:(Bz b s n 0&&AG a (HP a s n))<;>simp[h]
theorem Sm(a b:Option AM)(s:ByteArray)(n:Nat):(C0 a b s n).length≤n:=by
 unfold C0;rw[Z_];exact YbC (Ycg _ _) (by simp)
theorem Ae0{S:Nat→Prop}{H:Aa}{va vb:v_}{a d:Option AM}{s:ByteArray}(R:∀k,S k→k<H.size)(ha:Bc S H va a)(g:Bc S H vb d)(hs:s.size≤1048576):
  Al prog 87 #[va,vb,.string s] H fun v' H'=>A_ (D_ H) H H'∧H.size≤H'.size∧∃w,v'= .tuple #[w,C_ 0]∧M_ tI (fun _=>False) H' H.size 3 w (Jv a d s):=by
 have hF:∀{H':Aa},A_ (D_ H) H H'→Bc S H' va a:=fun k=>ha.frame (k.mono R);have hL:∀{H':Aa},A_ (D_ H) H H'→∀k,S k→k<H'.size:=fun h k l=>Ae h (R k l);refine Al.of_vc func87 rfl (call87 _) ?_;have d0:decide ((1048576:Int)<(s.size:Int))=false:=m_;(conv=>whnf);rw[d0];refine Aj.mk (AbM R g (by omega)) ?_;rintro v1 H1 ⟨A,ad,tb,rfl,ht⟩;(conv=>whnf);refine A8.mk [9,10,21] (fun x:Nat×v_=>match x with | (n,w)=>[w,C_ (HP a s (min n s.size)),C_ n]) (fun x H2=>x.1≤s.size+1∧A_ (D_ H1) H1 H2∧H1.size≤H2.size∧M_ tI (fun _=>False) H2 H1.size 3 x.2 (C0 a d s x.1)) (fun x _=>s.size+1-x.1) ?_ ?_
 ·(conv=>whnf);exact⟨(0,.slice none 0 0),by simp[HP],by simp,A_.refl _ _,J_ _,M_.nil⟩
 ·rintro⟨n,w⟩ H2 a7 ⟨hn,m,U,D⟩;simp only at hn D;have J:=A.trans (m.mono fun k l=>Ae A l);refine Ag.m2 (fun h=>?_) (fun h=>?_)
  ·have V:n≤s.size:=by omega
   rw[Ybu V];have L:(Fy d s s.size)[n]?=some (Bz d s n 0):=by rw[Hd d s s.size (by omega),s_];rfl
   have W:=ht.agr m (fun j p=>(ht.lt p).2) (fun _ f=>f.elim);have E:YtdopnglgekglgaaGreatDoor.cell H2 tb (0+n*1)=some (.bool (Bz d s n 0)):=by
    obtain⟨-,-,-,_,_,_,hg,_⟩:=W.placeS (i:=n) (by rw[Ee];omega);obtain⟨c,B,rfl⟩:=hg _ L;have:=B.one;rw[show n*Bd.size=n from Yb3 n]at this;simpa using this
   have a8:=Sm a d s n;have tail:∀{H3:Aa} {w3:v_},A_ (D_ H1) H1 H3→H1.size≤H3.size→M_ tI (fun _=>False) H3 H1.size 3 w3 (C0 a d s (n+1))→
     (n+1≤s.size+1∧A_ (D_ H1) H1 H3∧H1.size≤H3.size∧M_ tI (fun _=>False) H3 H1.size 3 w3 (C0 a d s (n+1))):=fun M h2 h3=>⟨by omega,M,h2,h3⟩
   refine Af.run (ix Fv (by omega) (by omega) ?_);refine B_ (v:=.bool (Bz d s n 0)) (by rw[Yau];exact E) trivial ?_;have e:∀{H3:Aa} {K:v_→Aa→Prop} {b:UInt8},s.data[n]?=some b→A_ (D_ H1) H1 H3→(∀H4,A_ (D_ H1) H1 H4→A_ (D_ H3) H3 H4→H3.size≤H4.size→K (.int .i64 (HP a s (n+1))) H4)→Aj prog 48 #[va,C_ (HP a s n),.int .u8 (b.toNat:Int)] H3 K:=fun g M k=>by
    have h0:=A.trans (M.mono fun k l=>Ae A l);refine Ak (Cx (hL h0) (hF h0) (UInt8.toNat_lt _)) fun H4 q=>?_;rw[←Ot g];exact k H4 (M.trans (q.mono fun k l=>Ae M l)) q (Ap q)
   cases F:Bz d s n 0 with
   | false=>
     have B:C0 a d s (n+1)=C0 a d s n:=by rw[HC,F];rfl
     refine Af.run ?_;by_cases r:n<s.size
     ·have⟨b,g⟩:=En r;have t:decide ((n:Int)<(s.size:Int))=true:=s_;(conv=>whnf);rw[t];refine Ci Hv rfl g (e g m fun H4 G X N=>?_);(conv=>whnf);rw[R_ n (by omega)];exact⟨rfl,(n+1,w),by simp only;rw[Ybu (by omega)];simp,tail G (by omega) (by rw[B];exact D.agr X (fun j p=>(D.lt p).2) (fun _ f=>f.elim)),by simp only;omega⟩
     ·have t:decide ((n:Int)<(s.size:Int))=false:=m_;(conv=>whnf);rw[t];(conv=>whnf);rw[R_ n (by omega)];exact⟨rfl,(n+1,w),by simp only;rw[YcD (by omega),show n=s.size by omega];simp,tail m U (by rw[B];exact D),by simp only;omega⟩
   | true=>
     refine Af.run (Ak (BU (hF J)) fun H3 I=>?_);have y:=m.trans (I.mono fun k l=>Ae m l);have ae:=Ap I;have z:=D.agr I (fun j p=>(D.lt p).2) (fun _ f=>f.elim);cases O:AG a (HP a s n)with
     | false=>
       have B:C0 a d s (n+1)=C0 a d s n:=by rw[HC,F,O];rfl
       by_cases r:n<s.size
       ·have⟨b,g⟩:=En r;have t:decide ((n:Int)<(s.size:Int))=true:=s_;(conv=>whnf);rw[t];refine Ci Hv rfl g (e g y fun H4 G Y N=>?_);(conv=>whnf);rw[R_ n (by omega)];exact⟨rfl,(n+1,w),by simp only;rw[Ybu (by omega)];simp,tail G (by omega) (by rw[B];exact z.agr Y (fun j p=>(z.lt p).2) (fun _ f=>f.elim)),by simp only;omega⟩
       ·have t:decide ((n:Int)<(s.size:Int))=false:=m_;(conv=>whnf);rw[t];(conv=>whnf);rw[R_ n (by omega)];exact⟨rfl,(n+1,w),by simp only;rw[YcD (by omega),show n=s.size by omega];simp,tail y (by omega) (by rw[B];exact z),by simp only;omega⟩
     | true=>
       have B:C0 a d s (n+1)=C0 a d s n++[(n:Int)]:=by rw[HC,F,O];rfl
       refine Az AO [C_ n] rfl rfl (by decide) (by decide) ?_;intro q4 H4 ah ai Z q;have P:=z.agr q (fun j p=>by have:=(z.lt p).2;omega) (fun _ f=>f.elim)
       refine BG (T:=tI) (S:=fun _=>False) (ys:=[(n:Int)]) (ds:=[C_ n]) (lo:=H1.size) (xs:=C0 a d s n) AO P (by omega) (fun j p=>p.elim)
         (Z.cells (fun j v hv=>by simpa using hv)) (Ty.reps_one ⟨rfl,Co (by omega)⟩) rfl (by intro u hu;cases V_.1 hu;rfl) (by simp only[maxLen,k_];omega) (by simp only[k_];omega) ?_
       intro w5 H5 C a0 aj a9;rw[←B]at C;have Q:A_ (D_ H1) H1 H5:=(y.trans (q.mono fun k l=>by have:=Ae y l;omega)).trans (a0.mono fun k l=>⟨by have:=Ae y l;omega,fun g=>by have:=(P.lt g).1;unfold D_ at l;omega⟩);by_cases r:n<s.size
       ·have⟨b,g⟩:=En r;have t:decide ((n:Int)<(s.size:Int))=true:=s_;(conv=>whnf);rw[t];refine Ci Hv rfl g (e g Q fun H6 a5 a6 ab=>?_);(conv=>whnf);rw[R_ n (by omega)];exact⟨rfl,(n+1,w5),by simp only;rw[Ybu (by omega)];simp,tail a5 (by omega) (C.agr a6 (fun j p=>(C.lt p).2) (fun _ f=>f.elim)),by simp only;omega⟩
       ·have t:decide ((n:Int)<(s.size:Int))=false:=m_;(conv=>whnf);rw[t];(conv=>whnf);rw[R_ n (by omega)];exact⟨rfl,(n+1,w5),by simp only;rw[YcD (by omega),show n=s.size by omega];simp,tail Q (by omega) C,by simp only;omega⟩
  ·obtain rfl:n=s.size+1:=by omega
   (conv=>whnf);exact⟨J,by omega,w,rfl,D.lower (by omega)⟩
end
section
def Ai6:AM:=BO [Al6 256] [[1],[1]] [false,true]
attribute [local irreducible] AN AY
def Vd(oa ob:Option AM)(s:ByteArray):Int×Int:=match Jv oa ob s with
 | []=>(0,3)
 | x::_=>(x,0)
theorem Ac7{S:Nat→Prop}{H:Aa}{va vb:v_}{c d:Option AM}{s:ByteArray}(h:∀k,S k→k<H.size)(m:Bc S H va c)(n:Bc S H vb d)(hs:s.size≤1048576):
  AZ prog 51 #[va,vb,.string s] H (.tuple #[C_ (Vd c d s).1,C_ (Vd c d s).2]):=by
 refine Al.of_vc func51 rfl (call51 _) (Aj.mk (Ae0 h m n hs) ?_);rintro y H1 ⟨b,p,w,rfl,e⟩;obtain⟨z,A,rfl,hd,-⟩:=e.view (S':=D_ H1) (fun j q=>(e.lt q).2) (fun _ f=>f.elim);unfold Vd;cases r:Jv c d s with
 | nil=>
   (conv=>whnf);exact⟨rfl,b⟩
 | cons x l=>
   rw[r]at hd;have t:(((x::l).length:Int)==0)=false:=by
    simp only[j_];rw[beq_eq_false_iff_ne];omega
   (conv=>whnf);rw[t];refine u_ (i:=0) AO hd rfl rfl ?_;rintro B C u g a ⟨rfl,-⟩;refine lT a.one ?_;(conv=>whnf);exact⟨rfl,b⟩
end
theorem AiJ{P:w_}{c:Array x_}{t:x_}{k d:IntKind}{a b:Int}{S:Nat→Prop}{H:Aa}{K:v_→Prop}(h:K (.int k (if b<a then b else a))):A7 P (Builtin.min_ c t [.int k a,.int d b].toArray) S H K:=by
 refine A7.mk _ (fun w _=>?_) h;simp[Builtin.min_,Builtin.min2]
section
def wy(o:Option AM)(s:ByteArray):Nat→(Int→Nat)×Nat
 | 0=>(fun q=>if AG o q then 1 else 0,1)
 | n+1=>(fun q=>if AG o q then min 2 ((wy o s n).1 (Ar o q (s.data.toList.getD (s.size-(n+1)) 0).toNat)+(wy o s n).1 (Ar o 0 (s.data.toList.getD (s.size-(n+1)) 0).toNat))else(wy o s n).1 (Ar o q (s.data.toList.getD (s.size-(n+1)) 0).toNat),
    (wy o s n).1 (Ar o 0 (s.data.toList.getD (s.size-(n+1)) 0).toNat))
attribute [local irreducible] Ai6
attribute [local irreducible] AN AY
theorem UQ(o:Option AM)(s:ByteArray):∀n,(∀q,(wy o s n).1 q≤2)∧(wy o s n).2≤2
 | 0=>⟨fun q=>by simp only[wy];split<;>omega,by simp[wy]⟩
 | n+1=>by
   have a:=(UQ o s n).1;refine⟨fun q=>?_,by simp only[wy];exact a _⟩;simp only[wy];split
   ·omega
   ·exact a _
def wyZ(o:Option AM)(s:ByteArray)(n:Nat):List Int:=(Ah8 (e_ o)).map fun(q:Nat)=>((wy o s n).1 (q:Int):Int)
theorem Qd(o:Option AM)(s:ByteArray)(n:Nat):(wyZ o s n).length=e_ o:=by simp[wyZ]
theorem LK(o:Option AM)(s:ByteArray)(n:Nat){q:Nat}(h:q<e_ o):(wyZ o s n)[q]?=some ((wy o s n).1 (q:Int):Int):=by
 unfold wyZ;rw[t_,Ybf h];rfl
def KK(o:Option AM)(s:ByteArray)(n:Nat):List Int:=(Ah8 (s.size+1)).map fun i=>if s.size≤i+n then((wy o s (s.size-i)).2:Int)else 0
theorem GC(o:Option AM)(s:ByteArray)(n:Nat):(KK o s n).length=s.size+1:=by simp[KK]
theorem Ic(o:Option AM)(s:ByteArray)(n:Nat){i:Nat}(h:i<s.size+1):(KK o s n)[i]?=some (if s.size≤i+n then((wy o s (s.size-i)).2:Int)else 0):=by
 unfold KK;rw[t_,Ybf h];rfl
theorem YV(o:Option AM)(s:ByteArray){n:Nat}(h:n+1≤s.size):(KK o s n).set (s.size-(n+1)) ((wy o s (n+1)).2:Int)=KK o s (n+1):=by
 apply YaH;intro j;by_cases b:j<s.size+1
 ·rw[Ic o s (n+1) b,YaP,GC];by_cases a:s.size-(n+1)=j
  ·subst a;rw[I_ rfl,I_ b,I_ (by omega),show s.size-(s.size-(n+1))=n+1 by omega]
  ·rw[G_ a,Ic o s n b];have:(s.size≤j+n)↔(s.size≤j+(n+1)):=by omega
   simp only[this]
 ·rw[YaE (by rw[YaF,GC];omega),YaE (by rw[GC];omega)]
theorem We(o:Option AM)(s:ByteArray):(Ah1 (s.size+1) (0:Int)).set s.size 1=KK o s 0:=by
 apply YaH;intro j;by_cases b:j<s.size+1
 ·rw[Ic o s 0 b,YaP,Yc1];by_cases a:s.size=j
  ·subst a;rw[I_ rfl,I_ b,I_ (by omega),YbD]<;>rfl
  ·rw[G_ a,Ya9,I_ b,G_ (by omega)]
 ·rw[YaE (by simp;omega),YaE (by rw[GC];omega)]
theorem AaD{S:Nat→Prop}{H:Aa}{v:v_}{o:Option AM}{s:ByteArray}(hS:∀k,S k→k<H.size)(h:Bc S H v o)(hs:s.size≤4194304):
  Al prog 89 #[v,.string s] H fun v' H'=>A_ (D_ H) H H'∧H.size≤H'.size∧∃b,v'= .slice (b_ b) (s.size+1) (s.size+1)∧M_ tI (fun _=>False) H' H.size 3 v' (KK o s s.size):=by
 have⟨cz,d0⟩:=Ng h;have R:∀{H':Aa},A_ (D_ H) H H'→Bc S H' v o:=fun k=>h.frame (k.mono hS);have hL:∀{H':Aa},A_ (D_ H) H H'→∀k,S k→k<H'.size:=fun h k A=>Ae h (hS k A);have a9:∀k:Nat,k*tI.size=k:=fun k=>Yb3 k;have cm:tI.size=1:=rfl;have one:∀{H':Aa} {b c n cap:Nat} {xs:List Int},M_ tI (fun _=>False) H' H.size 3 (.slice (b_ b) n cap) xs→∀{H'':Aa},A_ (fun j=>j≠c) H' H''→b≠c→M_ tI (fun _=>False) H'' H.size 3 (.slice (b_ b) n cap) xs:=fun B _ L h3=>
  B.agr L (fun j a=>by have⟨o,n,c,e⟩:=a;cases e;exact h3) (fun _ f=>f.elim)
 have old:∀{H':Aa} {b n cap:Nat} {xs:List Int},M_ tI (fun _=>False) H' H.size 3 (.slice (b_ b) n cap) xs→∀{H'':Aa},A_ (D_ H') H' H''→M_ tI (fun _=>False) H'' H.size 3 (.slice (b_ b) n cap) xs:=fun B _ L=>
  B.agr L (fun j a=>(B.lt a).2) (fun _ f=>f.elim)
 have rd:∀{H':Aa} {b n cap i:Nat} {xs:List Int} {x:Int},M_ tI (fun _=>False) H' H.size 3 (.slice (b_ b) n cap) xs→xs[i]?=some x→YtdopnglgekglgaaGreatDoor.cell H' b (0+i*1)=some (.int .i64 x):=fun B L=>by
  obtain⟨-,-,-,_,_,_,hg,_⟩:=B.placeS (i:=_) (X_.1 L).1;obtain⟨c,hc,rfl,-⟩:=hg _ L;have:=hc.one;rw[a9]at this;simpa using this
 have wr:∀{H':Aa} {b n cap off:Nat} (i:Nat) {xs:List Int} {x:Int} {K:Aa→Prop},M_ tI (fun _=>False) H' H.size 3 (.slice (b_ b) n cap) xs→off=i→i<xs.length→ -9223372036854775808≤x→x≤9223372036854775807→
   (∀H'',M_ tI (fun _=>False) H'' H.size 3 (.slice (b_ b) n cap) (xs.set i x)→A_ (fun j=>j≠b) H' H''→H''.size=H'.size→K H'')→By prog (Instr.storeAt 3 (.pointer (some ⟨b,off,none⟩)) (.int .i64 x)) H' K:=fun i _ _ _ B ab hi bp bq k=>by
  subst ab;obtain⟨-,-,-,l,ad,U,-,V⟩:=B.placeS hi;rw[a9]at U V;refine st1 ad (by omega) rfl ?_;intro H'' ae ah ai;refine k H'' (V H'' [C_ _] _ ?_ (fun j a=>a.elim) ⟨rfl,bp,bq⟩) ah ai;rw[C6 (by omega)];exact ae
 refine Al.of_vc func89 rfl (call89 _) ?_;(conv=>whnf);rw[n_ (x:=(s.size:Int)+1) (by omega)];refine D1 AO rfl (by omega) (by omega) (by omega) (by omega) ?_;intro M H1 br d1 aj bu;rw[show((s.size:Int)+1).toNat=s.size+1 by omega]at aj;rw[show((s.size:Int)+1).toNat=s.size+1 by omega];have bv:=bu.new br;have mk:∀{H':Aa} {b n:Nat},K_ H' b 3 (Ah1 n (.int .i64 0))→H.size≤b→n≤4194305→M_ tI (fun _=>False) H' H.size 3 (.slice (b_ b) n n) (Ah1 n 0):=fun B L h3=>
  M_.made (T:=tI) (v:=(0:Int)) (c:=[C_ 0]) L (by simpa using B) ⟨rfl,Co (x:=0) (by decide)⟩ (by unfold maxLen;omega)
 have o1:=mk aj (by omega) (by omega);refine ix AO (by omega) (by omega) (wr s.size o1 (by omega) (by simp) (by omega) (by omega) fun H2 o2 bw d2=>?_);rw[We o s]at o2;have Y:=bv.trans (bw.mono fun k A=>by unfold D_ at A;omega);refine Ak (Gz (R Y)) fun H3 Z=>?_;have ak:=Y.trans (Z.mono fun k A=>Ae Y A);have d3:=Ap Z;have o3:=old o2 Z;refine D1 AO rfl (by omega) (by omega) (by omega) (by omega) ?_;intro tb H4 d4 d5 am ao;rw[Yau]at am;rw[Yau];have a0:=ak.trans (ao.mono fun k A=>by have:=Ae ak A;omega);have o4:=o3.agr ao (fun j a=>by have:=(o3.lt a).2;omega) (fun _ f=>f.elim);have t4:=mk am (by omega) (by omega);refine Ak (Gz (R a0)) fun H5 N=>?_;have ap:=a0.trans (N.mono fun k A=>Ae a0 A);have d6:=Ap N;refine D1 AO rfl (by omega) (by omega) (by omega) (by omega) ?_;intro O H6 d7 d8 aq a5;rw[Yau]at aq;rw[Yau];have bx:=ap.trans (a5.mono fun k A=>by have:=Ae ap A;omega);have o5:=old o4 N;have t5:=old t4 N;have o6:=o5.agr a5 (fun j a=>by have:=(o5.lt a).2;omega) (fun _ f=>f.elim);have t6:=t5.agr a5 (fun j a=>by have:=(t5.lt a).2;omega) (fun _ f=>f.elim);have h6:=mk aq (by omega) (by omega);have co:=(o1.lt ⟨0,_,_,rfl⟩).2;have cp:=(t4.lt ⟨0,_,_,rfl⟩).2;have ne:M≠tb∧M≠O∧tb≠O:=by omega
 have tl:=Qd o s 0;have au:∀q:Int,(wy o s 0).1 q=if AG o q then 1 else 0:=fun q=>rfl
 (conv=>whnf);refine A8.mk [27] (fun k:Nat=>[C_ k]) (fun k H7=>k≤e_ o∧A_ (D_ H) H H7∧H6.size≤H7.size∧M_ tI (fun _=>False) H7 H.size 3 (.slice (b_ M) (s.size+1) (s.size+1)) (KK o s 0)∧M_ tI (fun _=>False) H7 H.size 3 (.slice (some ⟨O,0,none⟩) (e_ o) (e_ o)) (Ah1 (e_ o) 0)∧
  M_ tI (fun _=>False) H7 H.size 3 (.slice (b_ tb) (e_ o) (e_ o)) ((wyZ o s 0).take k++Ah1 ((wyZ o s 0).length-k) 0)) (fun k _=>e_ o-k) ?_ ?_
 ·(conv=>whnf);exact⟨0,rfl,by omega,bx,J_ _,o6,h6,by rw[Ms,tl];exact t6⟩
 ·rintro k H7 bz ⟨A,P,d9,o7,h7,t7⟩;refine Ag.m2 (fun h=>?_) (fun h=>?_)
  ·refine Af.run (Ak (BU (R P)) fun H8 C=>?_);have p:=P.trans (C.mono fun j a=>Ae P a);have c2:=Ap C;have g:(wyZ o s 0)[k]?=some (((wy o s 0).1 (k:Int):Nat):Int):=LK o s 0 (by omega);have t8:=old t7 C;have o8:=old o7 C;have h8:=old h7 C;cases D:AG o (k:Int)with
   | true=>
     have hv:(((wy o s 0).1 (k:Int):Nat):Int)=1:=by rw[au,D];rfl
     rw[hv]at g;refine ix AO (by omega) (by omega) ?_;refine wr k t8 (by omega) (by rw[Mu (by omega)];omega) (by omega) (by omega) fun H9 t9 d c3=>?_;rw[HH g]at t9;(conv=>whnf);rw[R_ k (by omega)];exact⟨rfl,k+1,by simp,⟨by omega,p.trans (d.mono fun j a=>by unfold D_ at a;omega),by omega,one o8 d ne.1,one h8 d (Ne.symm ne.2.2),t9⟩,by omega⟩
   | false=>
     have hv:(((wy o s 0).1 (k:Int):Nat):Int)=0:=by rw[au,D];rfl
     rw[hv]at g;have e:=HH (z:=(0:Int)) g;have e2:((wyZ o s 0).take k++Ah1 ((wyZ o s 0).length-k) (0:Int)).set k 0=(wyZ o s 0).take k++Ah1 ((wyZ o s 0).length-k) 0:=by
      have⟨B,L⟩:=X_.1 (QA (l:=wyZ o s 0) (z:=(0:Int)) (show k<(wyZ o s 0).length by omega));exact Yt (QA (l:=wyZ o s 0) (z:=(0:Int)) (show k<(wyZ o s 0).length by omega))
     rw[e2]at e;rw[e]at t8;(conv=>whnf);rw[R_ k (by omega)];exact⟨rfl,k+1,by simp,⟨by omega,p,by omega,o8,h8,t8⟩,by omega⟩
  ·obtain rfl:k=e_ o:=by omega
   have aw:=Mt (l:=wyZ o s 0) (z:=(0:Int));rw[tl]at aw t7;rw[aw]at t7;(conv=>whnf);rw[n_ (x:=(s.size:Int)-1) (by omega)];(conv=>whnf);refine A8.mk [6,7,9] (fun x:Nat×Nat×Nat=>match x with | (n,tb,hb)=>[.slice (b_ tb) (e_ o) (e_ o),.slice (b_ hb) (e_ o) (e_ o),C_ ((s.size:Int)-1-n)])
    (fun x H8=>x.1≤s.size∧A_ (D_ H) H H8∧H7.size≤H8.size∧(x.2.1≠x.2.2∧M≠x.2.1∧M≠x.2.2∧H.size≤x.2.1∧H.size≤x.2.2)∧M_ tI (fun _=>False) H8 H.size 3 (.slice (b_ M) (s.size+1) (s.size+1)) (KK o s x.1)∧
     M_ tI (fun _=>False) H8 H.size 3 (.slice (some ⟨x.2.1,0,none⟩) (e_ o) (e_ o)) (wyZ o s x.1)∧∃ys:List Int,ys.length=e_ o∧M_ tI (fun _=>False) H8 H.size 3 (.slice (some ⟨x.2.2,0,none⟩) (e_ o) (e_ o)) ys) (fun x _=>s.size-x.1) ?_ ?_
   ·(conv=>whnf);exact⟨(0,tb,O),by simp,by simp,P,J_ _,⟨by simp only;omega,by simp only;omega,by simp only;omega,by simp only;omega,by simp only;omega⟩,o7,t7,_,by simp,h7⟩
   ·rintro⟨n,ay,az⟩ H8 c4 ⟨hn,p,c2,w,o8,t8,ys,c5,h8⟩;simp only at hn w t8 h8 o8;refine Ag.m2 (fun h=>?_) (fun h=>?_)
    ·obtain⟨i,hi⟩:∃i:Nat,i=s.size-(n+1):=⟨_,rfl⟩;have c6:(s.size:Int)-1-(n:Int)=(i:Int):=by omega
     have⟨b,hb⟩:=En (s:=s) (k:=i) (by omega);have b4:s.data.toList.getD (s.size-(n+1)) 0=b:=by
      rw[←hi,Ya5,Yag,hb];rfl
     have hW:(wy o s (n+1)).2=(wy o s n).1 (Ar o 0 b.toNat):=by simp only[wy,b4]
     have hT:∀q:Int,(wy o s (n+1)).1 q=if AG o q then min 2 ((wy o s n).1 (Ar o q b.toNat)+(wy o s (n+1)).2)else(wy o s n).1 (Ar o q b.toNat):=fun q=>by simp only[wy,b4]
     have r:=UInt8.toNat_lt b;have c7:=(UQ o s n).1;have da:=(UQ o s (n+1)).2;have a6:=Qd o s (n+1);rw[c6];refine Ci Hv rfl hb (Ak (Cx (hL p) (R p) r) fun H9 d=>?_);have c8:=p.trans (d.mono fun j a=>Ae p a);have c3:=Ap d;have b5:=LG (R p) (q:=0) (b:=b.toNat) (by omega) r;have⟨q0,c9⟩:=Yav b5.1;have W:Ar o 0 b.toNat=(q0:Int):=c9;rw[W]at hW;rw[W];refine ix AO (by omega) (by omega) ?_;refine B_ (v:=C_ (((wy o s (n+1)).2:Nat):Int)) (by rw[Yau,hW];exact rd (old t8 d) (LK o s n (by omega))) trivial ?_;refine ix AO (by omega) (by omega) ?_;refine wr i (old o8 d) (by omega) (by rw[GC];omega) (by omega) (by omega) fun H10 b6 E cq=>?_;have hp:=YV o s (n:=n) (by omega);rw[←hi]at hp;rw[hp]at b6;have b7:=c8.trans (E.mono fun j a=>by unfold D_ at a;have:=(o1.lt (b:=M) ⟨0,_,_,rfl⟩).1;omega);have cb:=one (old t8 d) E (Ne.symm w.2.1);have cd:=one (old h8 d) E (Ne.symm w.2.2.1);(conv=>whnf);refine A8.mk [57] (fun k:Nat=>[C_ k]) (fun k H11=>k≤e_ o∧A_ (D_ H) H H11∧H10.size≤H11.size∧M_ tI (fun _=>False) H11 H.size 3 (.slice (b_ M) (s.size+1) (s.size+1)) (KK o s (n+1))∧M_ tI (fun _=>False) H11 H.size 3 (.slice (b_ ay) (e_ o) (e_ o)) (wyZ o s n)∧
      M_ tI (fun _=>False) H11 H.size 3 (.slice (b_ az) (e_ o) (e_ o)) ((wyZ o s (n+1)).take k++ys.drop k)) (fun k _=>e_ o-k) ?_ ?_
     ·(conv=>whnf);exact⟨0,rfl,by omega,b7,J_ _,b6,cb,by simpa using cd⟩
     ·rintro k H11 bo ⟨cr,m,ct,b8,b9,a7⟩;refine Ag.m2 (fun h=>?_) (fun h=>?_)
      ·have ce:=LG (R m) (q:=k) (b:=b.toNat) (by omega) r;have⟨q',bd⟩:=Yav ce.1;have U:((wyZ o s (n+1)).take k++ys.drop k).length=e_ o:=by simp[a6,c5];omega
       have y:=hT (k:Int);rw[bd]at y;have g:(wyZ o s (n+1))[k]?=some (((wy o s (n+1)).1 (k:Int):Nat):Int):=LK o s (n+1) (by omega);have F:((wyZ o s (n+1)).take k++ys.drop k).set k (((wy o s (n+1)).1 (k:Int):Nat):Int)=(wyZ o s (n+1)).take (k+1)++ys.drop (k+1):=by
        rw[YaS _ _ (by simp;omega),YaN,a6,Ybu (by omega),YbD,Ycl (show k<ys.length by omega),Yc4,Ai g,YaC];rfl
       have l2:=c7 (q':Int);refine Af.run (Ci Hv rfl hb (Ak (Cx (hL m) (R m) r) fun H12 t=>?_));rw[bd];have be:=m.trans (t.mono fun j a=>Ae m a);have cu:=Ap t;have cg:=old b8 t;have bf:=old b9 t;refine ix AO (by omega) (by omega) ?_;refine B_ (v:=C_ (((wy o s n).1 (q':Int):Nat):Int)) (by rw[Yau];exact rd bf (LK o s n (by omega))) trivial ?_;refine ix AO (by omega) (by omega) (wr k (old a7 t) (by omega) (by omega) (by omega) (by omega) fun H13 ch G cw=>?_);have I:=be.trans (G.mono fun j a=>by unfold D_ at a;omega);have ci:=one cg G w.2.2.1;have cj:=one bf G w.1;refine Ak (BU (R I)) fun H14 u=>?_;have X:=I.trans (u.mono fun j a=>Ae I a);have cx:=Ap u;have a8:=old ci u;have bh:=old cj u;have Q:=old ch u;cases D:AG o (k:Int)with
       | false=>
         rw[D]at y;simp only[Yao,if_false]at y;rw[y]at F;rw[F]at Q;(conv=>whnf);rw[R_ k (by omega)];exact⟨rfl,k+1,by simp,⟨by omega,X,by omega,a8,bh,Q⟩,by omega⟩
       | true=>
         rw[D]at y;simp only[if_true]at y;have gk:(((wyZ o s (n+1)).take k++ys.drop k).set k (((wy o s n).1 (q':Int):Nat):Int))[k]?=some (((wy o s n).1 (q':Int):Nat):Int):=Ya3 (by omega);have gi:(KK o s (n+1))[i]?=some (((wy o s (n+1)).2:Nat):Int):=by rw[Ic o s (n+1) (by omega),I_ (by omega),show s.size-i=n+1 by omega]
         have bj:(if(((wy o s n).1 (q':Int):Nat):Int)+(((wy o s (n+1)).2:Nat):Int)<2 then(((wy o s n).1 (q':Int):Nat):Int)+(((wy o s (n+1)).2:Nat):Int)else 2)=(((wy o s (n+1)).1 (k:Int):Nat):Int):=by
          rw[y];split<;>omega
         (conv=>whnf);refine Au.tail 13 (sq [0,1,2,3,4,5,6,7,8,9,10,11,12] (.f 13 .e)) rfl (by kernel_rfl) (ix AO (by omega) (by omega) ?_);refine B_ (by rw[Yau];exact rd Q gk) trivial ?_;refine ix AO (by omega) (by omega) ?_;refine B_ (by rw[Yau];exact rd a8 gi) trivial ?_;(conv=>whnf);rw[w64 (x:=(((wy o s n).1 (q':Int):Nat):Int)+(((wy o s (n+1)).2:Nat):Int)) (by omega) (by omega)];refine AiJ ?_;rw[bj];refine ix AO (by omega) (by omega) ?_;have db:=(UQ o s (n+1)).1 (k:Int);refine wr k Q (by omega) (by rw[YaF];omega) (by omega) (by omega) fun H15 bn J cy=>?_;rw[List.set_set,F]at bn;(conv=>whnf);rw[R_ k (by omega)];exact⟨rfl,k+1,by simp,⟨by omega,X.trans (J.mono fun j a=>by unfold D_ at a;omega),by omega,one a8 J w.2.2.1,one bh J w.1,bn⟩,by omega⟩
      ·obtain rfl:k=e_ o:=by omega
       rw[Ycn (by omega),Yba,show(wyZ o s (n+1)).take (e_ o)=wyZ o s (n+1) by rw[←a6,YaB]]at a7;(conv=>whnf);rw[n_ (x:=(i:Int)-1) (by omega)];refine⟨rfl,(n+1,az,ay),?_,⟨by simp only;omega,m,by omega,⟨by simp only;omega,by simp only;omega,by simp only;omega,by simp only;omega,by simp only;omega⟩,b8,a7,_,Qd o s n,b9⟩,by simp only;omega⟩;simp only;rw[show(s.size:Int)-1-((n+1:Nat):Int)=(i:Int)-1 by omega]
    ·obtain rfl:n=s.size:=by omega
     (conv=>whnf);exact⟨p,by omega,M,rfl,o8⟩
end
section
variable{α:Type}{ps qs l:List α}{i j:Nat}{p q:α}
theorem lgL(h:ps[i]?=some p):(ps++qs)[i]?=some p:=by rw[YaK (X_.1 h).1];exact h
theorem lsL(h:ps[i]?=some p):(ps++qs).set i q=ps.set i q++qs:=List.set_append_left _ _ (X_.1 h).1
theorem U_(ps l:List α)(j:Nat):(ps++l)[ps.length+j]?=l[j]? :=by
 rw[YaD (YcF _ _)];congr 1;omega
theorem I'(ps l:List α)(j:Nat)(x:α):(ps++l).set (ps.length+j) x=ps++l.set j x:=by
 rw[YaS _ _ (YcF _ _)];congr 2;omega
theorem lgS(h:ps[i]?=some p):(ps.set i q)[i]?=some q:=Ya3 (X_.1 h).1
theorem lset(h:ps[i]?=some p):ps.set i p=ps:=by
 refine YaH fun j=>?_;by_cases a:i=j
 ·subst a;rw[lgS h,h]
 ·rw[Ya4 a]
theorem EB(ps l:List α):(ps++l)[ps.length]?=l[0]? :=U_ ps l 0
theorem QO(ps l:List α)(x:α):(ps++l).set ps.length x=ps++l.set 0 x:=I' ps l 0 x
end
section
variable{B:Nat→Prop}{H0 H:Aa}{ps qs:List Pc}{e:x_}{b:Nat}{l:List v_}
theorem E_.lft(a:E_ B H0 H (ps++qs)):E_ B H0 H ps:=
 ⟨a.old,a.lt0,a.size,fun p b=>a.oks p (YaU _ b),fun p b=>a.rng p (YaU _ b),(Ycj.1 a.dis).1⟩
theorem E_.subl(a:E_ B H0 H ps)(h:List.Sublist qs ps):E_ B H0 H qs:=
 ⟨a.old,a.lt0,a.size,fun p b=>a.oks p (h.subset b),fun p b=>a.rng p (h.subset b),a.dis.sublist h⟩
theorem AX{P:w_}{t o:Nat}{cs:List v_}{K:Aa→Prop}(f:E_ B H0 H ps)(i:Nat)(m:(P.info? t).map (·.size)=some cs.length)(g:ps[i]?=some (pB e b l))(n:o+cs.length≤l.length)(p:cs.all (·.oneCell')=true)
  (k:∀H',E_ B H0 H' (ps.set i (pB e b (As l o cs)))→A_ (fun k=>k≠b) H H'→H'.size=H.size→K H'):By P (Instr.storeAt t (.pointer (some ⟨b,o,none⟩)) (.agg cs.toArray)) H K:=by
 refine Zaa m (f.at_ i g) n p ?_;intro H' h a c;exact k H' (f.upd i g (a.mono fun k d j=>d.2 j) _ h (fun k d=>.inl d) (fun k d=>by rw[c];exact(f.in_ i g d).2) (by omega)) a c
theorem Nf{P:w_}{t o:Nat}{v:v_}{K:Aa→Prop}(f:E_ B H0 H ps)(i:Nat) [ht:CellT P t](g:ps[i]?=some (pB e b l))(m:o<l.length)(n:v.oneCell'=true)
  (k:∀H',E_ B H0 H' (ps.set i (pB e b (l.set o v)))→A_ (fun k=>k≠b) H H'→H'.size=H.size→K H'):By P (Instr.storeAt t (.pointer (some ⟨b,o,none⟩)) v) H K:=by
 refine Zak (f.at_ i g) m n ?_;intro H' h a c;exact k H' (f.upd i g (a.mono fun k d j=>d.2 j) _ h (fun k d=>.inl d) (fun k d=>by rw[c];exact(f.in_ i g d).2) (by omega)) a c
theorem Bq{l cs:List v_}(h:cs.length=l.length):As l 0 cs=cs:=by unfold As;simp[h]
end
section
variable{α:Type}{T:Ty α}{B:Nat→Prop}{H0 H:Aa}{ps:List Pc}{e:x_}{b n cap:Nat}{xs:List α}
end
section
variable{α:Type}{T:Ty α}{B:Nat→Prop}{H0 H H1:Aa}{ps:List Pc}{e te:x_}{b:Nat}{w0:v_}{vs:List v_}{ss:Nat→Slot}{xs:List α}{v:v_}{j:Nat}
end
structure Z' where
 fr:Int
 to:Int
 sil:Bool
 set:BitVec 256
structure O_ where
 st:Int
 start:Int
 fin:Int
 edges:List Z'
def O_.has(a:O_)(q:Int):Bool:=decide (0≤q)&&decide (q<a.st)&&decide (a.st≤65536)
theorem O_.has_iff{a:O_}{q:Int}:a.has q=true↔0≤q∧q<a.st∧a.st≤65536:=by
 unfold O_.has;simp only[h_,Zzj,and_assoc]
inductive Zi(a:O_):Int→Int→Prop
 | refl (p:Int):Zi a p p
 | step {p:Int} {e:Z'}:Zi a p e.fr→e∈a.edges→e.sil=true→a.has e.to=true→Zi a p e.to
abbrev PS:=Int→Prop
def clS(a:O_)(X:PS):PS:=fun q=>∃p,X p∧Zi a p q
def Mc(a:O_):PS:=clS a fun q=>q=a.start∧a.has a.start=true
def JA(a:O_)(X:PS)(b:Nat):PS:=fun q=>∃e∈a.edges,e.sil=false∧e.set.getLsbD b=true∧X e.fr∧a.has e.to=true∧q=e.to
def goS(a:O_)(X:PS)(b:Nat):PS:=clS a (JA a X b)
def AbY(a:O_)(X:PS):Prop:=∀e∈a.edges,e.sil=true→a.has e.to=true→X e.fr→X e.to
theorem Kl{a:O_}{X:PS}{q:Int}(h:X q):clS a X q:=⟨q,h,.refl q⟩
theorem Ju(a:O_)(X:PS):AbY a (clS a X):=fun e b c d ⟨p,f,hs⟩=>⟨p,f,.step hs b c d⟩
theorem EX{a:O_}{X Y:PS}(h:∀q,X q→Y q)(hs:AbY a Y):∀q,clS a X q→Y q:=by
 rintro q ⟨p,b,c⟩
 induction c with
 | refl=>exact h _ b
 | step _ d e f g=>exact hs _ d e f g
theorem Il{a:O_}{X:PS}(h:∀q,X q→a.has q=true):∀q,clS a X q→a.has q=true:=EX h fun e _ _ b _=>b
theorem HA(a:O_):∀q,Mc a q→a.has q=true:=Il fun q ⟨e,h⟩=>e ▸ h
theorem OZ(a:O_)(X:PS)(b:Nat):∀q,goS a X b q→a.has q=true:=Il fun q ⟨e,_,_,_,_,h,c⟩=>c ▸ h
theorem R2:∀{l m:List Int},l.Pairwise (·<·)→m.Pairwise (·<·)→(∀q,q∈l↔q∈m)→l=m
 | [],[],_,_,_=>rfl
 | [],y::m,_,_,h=>by have:=(h y).2 (by simp);cases this
 | x::l,[],_,_,h=>by have:=(h x).1 (by simp);cases this
 | x::l,y::m,hl,hm,h=>by
   have⟨g,k⟩:=Yct.1 hl;have⟨j,n⟩:=Yct.1 hm;have b:x=y:=by
    have c:=(h x).1 (by simp);have d:=(h y).2 (by simp);rcases Ybe.1 c with e | c
    ·exact e
    ·rcases Ybe.1 d with e | d
     ·exact e.symm
     ·have:=g y d;have:=j x c;omega
   subst b
   congr 1
   refine R2 k n fun q=>⟨fun a=>?_,fun a=>?_⟩
   ·rcases Ybe.1 ((h q).1 (by simp[a]))with e | f
    ·have:=g q a;omega
    ·exact f
   ·rcases Ybe.1 ((h q).2 (by simp[a]))with e | f
    ·have:=j q a;omega
    ·exact f
open Classical in
noncomputable def EE(X:PS):List Int:=((Ah8 65536).map fun(n:Nat)=>(n:Int)).filter fun q=>decide (X q)
theorem X1(X:PS):(EE X).Pairwise (·<·):=by
 unfold EE;refine List.Pairwise.filter _ ?_;rw[Yc6];exact Yc0.imp fun h=>by omega
open Classical in
theorem Fm{X:PS}(h:∀q,X q→0≤q∧q<65536)(q:Int):q∈EE X↔X q:=by
 unfold EE;rw[YbV,Zzj,Ycp];constructor
 ·exact fun⟨_,a⟩=>a
 ·intro a;have⟨b,c⟩:=h q a;exact⟨⟨q.toNat,Ych.2 (by omega),by omega⟩,a⟩
theorem Oa{X:PS}{l:List Int}(h:∀q,X q→0≤q∧q<65536)(hs:l.Pairwise (·<·))(a:∀q,q∈l↔X q):l=EE X:=
 R2 hs (X1 X) fun q=>(a q).trans (Fm h q).symm
theorem JE(X:PS):(EE X).length≤65536:=by
 unfold EE;exact YbC (Ycg _ _) (by simp)
theorem Ei{a:O_}{X:PS}(h:∀q,X q→a.has q=true):∀q,X q→0≤q∧q<65536:=fun q b=>by
 have:=O_.has_iff.1 (h q b);omega
section
variable{B:Nat→Prop}{H0 H:Aa}{ps:List Pc}{p:Pc}
theorem E_.apart2(e:E_ B H0 H ps){i j:Nat}{q:Pc}(f:ps[i]?=some p)(g:ps[j]?=some q)(d:i≠j):Dis p q:=by
 have a:=(X_.1 f).1;have b:=(X_.1 g).1;have l:=(X_.1 f).2;have e2:=(X_.1 g).2;intro k m c;rcases Nat.lt_or_gt_of_ne d with h | h
 ·exact Ya6.1 e.dis i j a b h k (by rw[l];exact m) (by rw[e2];exact c)
 ·exact Ya6.1 e.dis j i b a h k (by rw[e2];exact c) (by rw[l];exact m)
end
section
variable{α β:Type}{Ok:α→Prop}{enc:α→v_}{T:Ty β}{e:x_}{b:Nat}{m:α→Option v_}{xs:α→List β}{B:Nat→Prop}{H0 H:Aa}{ps:List Pc}
end
abbrev Ny{α:Type}(_:α):Prop:=True
theorem GF.ofE{P:w_}{kt:x_}{d:TypeDesc}{α:Type}{enc:α→v_}(hd:P.underlying kt=some d)(c:Nx d enc):GF P kt Ny enc where
 inj:=c.inj
 check w em a _:=Go.MapKept.run_checkKey hd (c.isKey a) em 9999
 find w a _ es hes:=by
  have f:∀x∈es,Go.MapKept.IsKey d x.key:=fun x k=>by
   obtain⟨b,-,e⟩:=hes x k;rw[e];exact c.isKey b
  rcases Go.MapKept.findNow_spec (c.isKey a) es 0 f with⟨g,h⟩ | ⟨j,e,g,h,l⟩
  ·exact .inl ⟨Go.MapKept.run_findKey hd g,h⟩
  ·exact .inr ⟨j,e,by rw[P_]at g;exact Go.MapKept.run_findKey hd g,h,l⟩
 stays w a _:=Go.MapKept.run_keyThatStays (c.isKey a)
section
variable{α β:Type}{Ok:α→Prop}{enc:α→v_}{T:Ty β}{e:x_}{b:Nat}{m:α→Option v_}{xs:α→List β}{B:Nat→Prop}{H0 H H':Aa}{ps:List Pc}{P:w_}{t kt et:x_}{a:α}
end
def edL(e:Z'):List v_:=[C_ e.fr,C_ e.to,.bool e.sil,.int .u64 (wd e.set 0),.int .u64 (wd e.set 1),.int .u64 (wd e.set 2),.int .u64 (wd e.set 3)]
theorem TS(e:Z'):∀(j:Nat) (v:v_),(An e.set)[j]?=some v→(edL e)[3+j]?=some v:=by
 intro j v h;rw[show 3+j=j+3 by omega];exact h
def Z'.Ok(e:Z'):Prop:=inK .i64 e.fr∧inK .i64 e.to
def tEd:Ty Z' where
 size:=7
 rep _ _ cs e:=cs=edL e∧e.Ok
 len h:=by rw[h.1];rfl
 frame h _:=h
 mono h _:=h
theorem OS(e:Z'):(edL e).all (·.oneCell')=true:=rfl
def O_.Rng(a:O_):Prop:=inK .i64 a.st∧inK .i64 a.start∧inK .i64 a.fin
def nfL(a:O_)(v:v_):List v_:=[C_ a.st,C_ a.start,C_ a.fin,v]
def NfV(S:Nat→Prop)(H:Aa)(v:v_)(a:O_):Prop:=a.Rng∧a.edges.length≤33554432∧∃ea ec,v= .agg (nfL a (.slice ea a.edges.length ec)).toArray∧S_ tEd S H ea ec a.edges
section
variable{S S':Nat→Prop}{H H':Aa}{v:v_}{a:O_}
end
theorem Mp:(prog.info? 332).bind (·.zero)=some (.agg #[C_ 0,C_ 0,.bool false,.int .u64 0,.int .u64 0,.int .u64 0,.int .u64 0]):=rfl
theorem XD:(prog.info? 304).bind (·.zero)=some (.agg #[C_ 0,C_ 0,C_ 0,.slice none 0 0]):=rfl
theorem SM{S:Nat→Prop}{H:Aa}{v:v_}{a:O_}{K:v_→Aa→Prop}{t:x_}(h:NfV S H v a)
  (k:∀c d,v= .agg (nfL a (.slice c a.edges.length d)).toArray→S_ tEd S H c d a.edges→New H (fun b H'=>K (H_ b) H') t (nfL a (.slice c a.edges.length d))):Ba prog (Instr.box t v) H K:=by
 obtain⟨f,g,c,d,rfl,e⟩:=h;exact BC (nfL a (.slice c a.edges.length d)) rfl (k c d rfl e)
theorem Uv{S S0:Nat→Prop}{H:Aa}{a:O_}{pb:Nat}{b:Option Addr}{ec:Nat}{K:v_→Prop}{t:x_}(c:a.Rng)(d:a.edges.length≤33554432)(e:K_ H pb t (nfL a (.slice b a.edges.length ec))) [hag:AggT prog t 4](f:S0 pb)(g:S_ tEd S H b ec a.edges)
  (k:∀v,NfV S H v a→K v):A7 prog (Instr.loadAt t (H_ pb)) S0 H K:=
 L_ (cs:=nfL a (.slice b a.edges.length ec)) (e.cells fun j v h=>by rw[P_];exact h) f (k _ ⟨c,d,b,ec,rfl,g⟩)
def Nr(all:List Oper)(o:Oper)(fr:Fr)(yes no:Fr→Prop):Prop:=
 match o.guard with
 | none=>yes fr
 | some (j,want)=>match(all[j]?).bind (·.dst)with
   | none=>False
   | some t=>rdK fr t fun v=>match v with
     | .bool b=>Ag b
       (wrK fr t (.bool true) fun fr1=>match want with
        | true=>yes fr1
        | false=>no fr1)
       (wrK fr t (.bool false) fun fr1=>match want with
        | false=>yes fr1
        | true=>no fr1)
     | .tuple _=>no fr
     | _=>False
theorem Ie{all:List Oper}{o:Oper}{fr:Fr}{a:Act}{d no:Fr→Prop}(e:At fr a)(h:Nr all o fr d no):
  (Region.wanted o (yielded all.toArray a.tmps)=true∧d fr)∨(Region.wanted o (yielded all.toArray a.tmps)=false∧no fr):=by
 unfold Nr at h;split at h
 ·rename_i c;exact .inl ⟨by simp[Region.wanted,c],h⟩
 ·rename_i j f c;split at h
  ·exact h.elim
  ·rename_i t l;rw[Dk]at h;split at h
   ·rename_i b g;have k:=Hg e l g;have hs:fr.set t (.bool b)=fr:=D5 g (by simp[undef]);cases b<;>cases f<;>simp only[Ag,EG,hs]at h
    ·exact .inl ⟨by simp[Region.wanted,c,k],h⟩
    ·exact .inr ⟨by simp[Region.wanted,c,k],h⟩
    ·exact .inr ⟨by simp[Region.wanted,c,k],h⟩
    ·exact .inl ⟨by simp[Region.wanted,c,k],h⟩
   ·rename_i vs g;exact .inr ⟨by simp[Region.wanted,c,Hh e l g],h⟩
   ·exact h.elim
def Le(o:Oper)(H:Aa)(K:Fr→Aa→Prop)(fr:Fr):Prop:=Ck o.dst fr undef fun fr'=>apK K fr' H
def K3(P:w_)(S:Nat→Prop)(o:Oper)(H:Aa)(K:Fr→Aa→Prop)(fr:Fr):Prop:=
 match I7 o&&Eg P o with
 | true=>Jw P S o fr H fun v=>Ck o.dst fr v fun fr'=>apK K fr' H
 | false=>False
def doG(P:w_)(S:Nat→Prop)(z:Bool)(H0:Aa)(o:Oper)(H:Aa)(K:Fr→Aa→Prop)(fr:Fr):Prop:=
 match z with
 | true=>opK P false (fun _=>True) o fr H fun v H'=>Ck o.dst fr v fun fr'=>apK K fr' H'
 | false=>opK P false (fun _=>True) o fr H fun v H'=>A_ S H0 H'∧Ck o.dst fr v fun fr'=>apK K fr' H'
def HT(P:w_)(S:Nat→Prop)(Z:List Nat)(H0:Aa)(all:List Oper)(i:Nat)(fr:Fr)(H:Aa)(next:Fr→Aa→Prop):Prop:=
 match all[i]? with
 | none=>False
 | some o=>Nr all o fr (doG P S (Z.contains i) H0 o H next) (Le o H next)
def heldG(P:w_)(S:Nat→Prop)(Z:List Nat)(H0:Aa)(all:List Oper)(s:Sch):Fr→Aa→(Fr→Aa→Prop)→Prop:=
 Sch.rec (motive:=fun _=>Fr→Aa→(Fr→Aa→Prop)→Prop) (fun fr H K=>K fr H)
  (fun i _ ih fr H K=>match all[i]? with
   | none=>False
   | some o=>Nr all o fr (K3 P S o H fun fr' H'=>ih fr' H' K) (Le o H fun fr' H'=>ih fr' H' K))
  (fun i _ ih fr H K=>HT P S Z H0 all i fr H fun fr' H'=>ih fr' H' K)
  (fun i _ j _ ih ih' fr H K=>(HT P S Z H0 all i fr H fun fr' H'=>ih fr' H' K)∧HT P S Z H0 all j fr H fun fr' H'=>ih' fr' H' K) s
theorem ZW(P:w_)(S:Nat→Prop)(Z:List Nat)(H0:Aa)(all:List Oper)(i:Nat)(s:Sch)(fr:Fr)(H:Aa)(K:Fr→Aa→Prop):heldG P S Z H0 all (.q i s) fr H K=
  (match all[i]? with
   | none=>False
   | some o=>Nr all o fr (K3 P S o H fun a H'=>heldG P S Z H0 all s a H' K) (Le o H fun a H'=>heldG P S Z H0 all s a H' K)):=rfl
theorem Ch{P:w_}{S:Nat→Prop}{Z:List Nat}{w0:y_}{all:List Oper}{Q:Exit→Act→y_→Prop}{i:Nat}{fr:Fr}{a:Act}{w:y_}{next:Fr→Aa→Prop}{N:Act→y_→Prop}
  (d:At fr a) (m:Y_ w0 w) (n:Z.contains i=false→Cls w0 S w) (h:HT P S Z w0.heap all i fr w.heap next)
  (p:∀f a' e,At f a'→Y_ w0 e→(Z.contains i=false→Cls w0 S e)→next f e.heap→N a' e):wpOp P all.toArray Q i N a w:=by
 unfold HT at h;split at h
 ·exact h.elim
 ·rename_i o q;have g:all.toArray[i]?=some o:=by simpa using q
  rcases Ie d h with⟨b,h⟩ | ⟨b,h⟩
  ·unfold wpOp;rw[g];dsimp only;rw[I_ b];unfold doG at h;split at h
   ·rename_i r;refine .inl (Oper.wp_mono ?_ (Cc d h _));rintro a' e ⟨v,rfl,c,j⟩;rw[Bi]at j;exact p _ _ _ (d.put o.dst v) (m.trans c) (fun k=>by rw[r]at k;cases k) j
   ·refine .inl (Oper.wp_mono ?_ (Cc d h _));rintro a' e ⟨v,rfl,c,l,j⟩;rw[Bi]at j;exact p _ _ _ (d.put o.dst v) (m.trans c) (fun _=>⟨m.trans c,l⟩) j
  ·unfold wpOp;rw[g];dsimp only;rw[G_ (by rw[b];exact Bool.false_ne_true)];unfold Le at h;rw[Bi]at h;exact p _ _ _ (d.put o.dst undef) m n h
theorem D3{P:w_}{S:Nat→Prop}{Z:List Nat}{w0:y_}{all:List Oper}{Q:Exit→Act→y_→Prop}(hs:Region.noSelect all.toArray=true)
  (B:∀c a w,¬Q (.panic c) a w):∀(l:Sch) (d:Array Bool) (fr:Fr) (a:Act) (w:y_) (K:Fr→Aa→Prop),At fr a→Y_ w0 w→(Ls Z l=false→Cls w0 S w)→Zaf all.toArray d→
  (∀u a' p,At u a'→Y_ w0 p→K u p.heap→Q .normal a' p)→BZ all.toArray Z l d=true→l.even=true→
  heldG P S Z w0.heap all l fr w.heap K→Ig P all.toArray Q (Cls w0 S) Z l.len d a w
 | .e,d,fr,a,w,K,hat,he,_,_,hq,hB,_,h=>⟨by simpa [BZ]using hB,hq fr a w hat he h⟩
 | .q i s,d,fr,a,w,K,hat,he,t,hsh,hq,hB,hev,h=>by
   have t:=t rfl;simp only[BZ,h_,Yap,Ycc]at hB;obtain⟨⟨⟨⟨C,g⟩,O⟩,R⟩,r⟩:=hB;rw[ZW]at h;split at h
   ·exact h.elim
   ·rename_i o T;have y:all.toArray[i]?=some o:=by simpa using T
    have z:i∈Region.ready .any all.toArray d:=by simpa using C
    rcases Ie hat h with⟨m,h⟩ | ⟨m,h⟩
    ·unfold K3 at h;split at h
     ·have⟨v,U,x⟩:=C2 h;rw[Bi]at x;refine Dc (v:=v) (f:=all.toArray.size) y (Region.noSelect_spec hs) (fun c a' p J=>(B _ _ _ J).elim) O (fun j D=>R j (by simpa using D)) s.len d a w hsh (Region.free_spec y g) z
       (.inl ⟨m,fun p L=>?_⟩) t ?_
      ·rw[hat.evalF];exact U p fun k x=>(L.2 k x).trans (t.2 k x).symm
      ·exact D3 hs B s _ _ _ w K (hat.put o.dst v) he (fun _=>t) (hsh.put z) hq r hev x
     ·exact h.elim
    ·unfold Le at h;rw[Bi]at h;exact Dc (v:=undef) (f:=all.toArray.size) y (Region.noSelect_spec hs) (fun c a' p J=>(B _ _ _ J).elim) O (fun j D=>R j (by simpa using D)) s.len d a w hsh (Region.free_spec y g) z
      (.inr ⟨m,rfl⟩) t (D3 hs B s _ _ _ w K (hat.put o.dst undef) he (fun _=>t) (hsh.put z) hq r hev h)
 | .f i s,d,fr,a,w,K,hat,he,t,hsh,hq,hB,hev,h=>by
   simp only[BZ,h_,Yar,Yap,beq_iff_eq]at hB;obtain⟨⟨C,g⟩,r⟩:=hB;refine⟨(fun E=>by rw[C]at E;cases E),fun j D=>?_⟩;have M:=D;rw[C]at D;obtain rfl:j=i:=by simpa using D
   refine Ch hat he (fun n=>t (by simp only[Ls,n,Yas])) h fun u a' p F G A H=>⟨A,D3 hs B s _ _ _ p K F G (fun n=>?_) (hsh.put M) hq r hev H⟩;rcases g with g | g
   ·exact A g
   ·rw[g]at n;cases n
 | .b i s j s',d,fr,a,w,K,hat,he,t,hsh,hq,hB,hev,h=>by
   simp only[BZ,h_,Yar,Yap,beq_iff_eq]at hB;obtain⟨⟨⟨C,g⟩,r⟩,N⟩:=hB;simp only[Sch.even,h_,beq_iff_eq]at hev;obtain⟨⟨V,e2⟩,W⟩:=hev;refine⟨(fun E=>by rw[C]at E;cases E),fun k x=>?_⟩;have I:=x;rw[C]at x;rcases Ybe.1 x with rfl | x
   ·refine Ch hat he (fun n=>t (by simp only[Ls,n,Yas])) h.1 fun u a' p F G A H=>⟨A,D3 hs B s _ _ _ p K F G (fun n=>?_) (hsh.put I) hq r V H⟩;rcases g with g | g
    ·exact A g.1
    ·rw[g.1]at n;cases n
   ·obtain rfl:k=j:=by simpa using x
    rw[W];refine Ch hat he (fun n=>t (by simp only[Ls,n,YbT,Yas])) h.2 fun u a' p F G A H=>⟨A,D3 hs B s' _ _ _ p K F G (fun n=>?_) (hsh.put I) hq N e2 H⟩;rcases g with g | g
    ·exact A g.2
    ·rw[g.2]at n;cases n
theorem Au.heldG{P:w_}{l:List Oper}{fr:Fr}{H:Aa}{K:Fr→Aa→Prop}(S:Nat→Prop)(Z:List Nat)(b:Sch)(g:P.follows .mixedOrders=true)
  (c:(Region.noSelect l.toArray&&(b.len==l.length)&&b.even&&BZ l.toArray Z b (AlK l.length false))=true)
  (h:YtdopnglgekglgaaGreatDoor.heldG P S Z H l b fr H K):Au P l fr H K:=by
 refine⟨?_⟩;intro id Q a w d k m n;subst k;simp only[h_,beq_iff_eq]at c;refine wp_region_any g (Fz (S:=Cls w S) (Z:=Z) _ _ _ _ ?_);have e:Zaf l.toArray (AlK l.length false):=fun j o _ f=>by
  rw[YbL,YbM]at f;split at f<;>simp at f
 have:=D3 (P:=P) (S:=S) (Z:=Z) (w0:=w) (Q:=Q) c.1.1.1 m b (AlK l.length false) fr a {w with drawn:=w.drawn+1} K d ⟨rfl,rfl,rfl⟩ (fun _=>⟨⟨rfl,rfl,rfl⟩,A_.refl _ _⟩) e n c.2 c.1.2 h;rw[c.1.1.2]at this;simpa using this
section
open Go.Sort
structure Wk(P:w_)(f:FuncId):Prop where
 call:∀(args:Array v_) (w:y_),(callFunc f args).run P w= .ok (.enter f args) w
 some_:∀(blk off cap:Nat) (zs:List Int) (w:y_),Holds (Value.int .i64) w blk off zs.toArray→blk<w.heap.size→zs.length<4611686018427387904→
  Calls P f #[.slice (some ⟨blk,off,none⟩) zs.length cap] w fun e w'=>e= .returned (.tuple #[])∧∃n os,w'=grow (putRow (Value.int .i64) (Sort.ahead w n) blk off (zs.mergeSort fun x y=>decide (x≤y)).toArray) os
 none_:∀(p:Option Addr) (cap:Nat) (w:y_),Calls P f #[.slice p 0 cap] w fun e w'=>e= .returned (.tuple #[])∧w'=w
theorem Oo{S:Nat→Prop}{H:Aa}:∀{xs:List Int} {cs:List v_},(DB .i64).reps S H cs xs→cs=xs.map (Value.int .i64)∧∀x∈xs,inK .i64 x
 | [],_,h=>by cases h;exact⟨rfl,fun x b=>by cases b⟩
 | x::xs,_,h=>by
   obtain⟨c,r,rfl,⟨rfl,d⟩,e⟩:=h;obtain⟨rfl,f⟩:=Oo e;refine⟨rfl,fun y a=>?_⟩;rcases Ybe.1 a with rfl | a
   ·exact d
   ·exact f y a
theorem NX{S:Nat→Prop}{H:Aa}:∀{xs:List Int},(∀x∈xs,inK .i64 x)→(DB .i64).reps S H (xs.map (Value.int .i64)) xs
 | [],_=>rfl
 | x::xs,h=>⟨[C_ x],xs.map (Value.int .i64),rfl,⟨rfl,h x (by simp)⟩,NX fun y a=>h y (by simp[a])⟩
theorem Ai7{P:w_}{f:FuncId}{B:Nat→Prop}{H0 H:Aa}{ps:List Pc}{e:x_}{a:Option Addr}{n cap:Nat}{xs:List Int}{K:v_→Aa→Prop}(F:Wk P f)(q:E_ B H0 H ps)(i:Nat)(r:ps[i]?=some (pS (DB .i64) e a n cap xs))(t:xs.length<4611686018427387904)
  (k:∀H',E_ B H0 H' (ps.set i (pS (DB .i64) e a n cap (xs.mergeSort fun x y=>decide (x≤y))))→K (.tuple #[]) H'):Aj P f #[.slice a n cap] H K:=by
 obtain⟨u,-⟩:=q.at_ i r;obtain⟨W,⟨R,d⟩,h⟩:=u;obtain⟨rfl,z⟩:=Oo h;refine⟨fun w S=>⟨F.call _ w,?_⟩⟩;subst S;rcases d with⟨G,I⟩ | ⟨b,c,l,G,-,J,L,M,m,A⟩
 ·injection G with e1 e2 e3
  subst e1;subst e2;subst e3;obtain rfl:=YaA I;refine(F.none_ none 0 w).mono ?_;rintro _ _ ⟨rfl,rfl⟩;exact⟨_,rfl,Y_.refl _,k _ (by rw[show([]:List Int).mergeSort (fun x y=>decide (x≤y))=[] by simp];exact q.say i r _ (q.at_ i r) (fun k p=>p))⟩
 ·injection G with e1 e2 e3
  subst e1;subst e2;subst e3;rw[show xs.length*(DB .i64).size=xs.length from Yb3 _]at A;rw[show cap*(DB .i64).size=cap from Yb3 _]at m;have N:=(Yaa.1 J).1;have C:(xs.mergeSort fun x y=>decide (x≤y)).length=xs.length:=List.length_mergeSort _;have T:Holds (Value.int .i64) w b 0 xs.toArray:=holds_of_blockI (e:=e) (cur:=l.toArray) J (by simpa using A);refine(F.some_ b 0 cap xs w T N t).mono ?_;rintro _ X ⟨rfl,n,os,rfl⟩;have O:=heap_sortedI (n:=n) (os:=os) (xs.mergeSort fun x y=>decide (x≤y)).toArray J;obtain⟨-,-,-,D,E⟩:=grownBy_sortedI (w:=w) (g:=b) (n:=n) (os:=os) (xs.mergeSort fun x y=>decide (x≤y)).toArray;refine⟨_,rfl,⟨rfl,rfl,rfl⟩,k _ (q.upd i r (fun j Q=>E j Q.1 fun e=>?_) _ ⟨⟨_,⟨?_,.inr ⟨b,cap,(putCells (Value.int .i64) 0 (xs.mergeSort fun x y=>decide (x≤y)).toArray l.toArray).toList,?_,l_ _,?_,by omega,M,?_,?_⟩⟩,NX fun x U=>z x (List.mem_mergeSort.1 U)⟩,fun k p=>p.elim⟩ (fun k p=>.inl p) (fun k p=>?_) D)⟩
  ·cases e;exact Q.2 (.inl ⟨0,_,_,rfl⟩)
  ·rw[Z_];exact(Yb3 _).symm
  ·rw[C]
  ·show _=_;rw[O]
  ·rw[YbI];unfold putCells;rw[Array.size_mapIdx];simp only[Yc7,m];exact(Yb3 _).symm
  ·rw[show(xs.mergeSort fun x y=>decide (x≤y)).length*(DB .i64).size=(xs.mergeSort fun x y=>decide (x≤y)).length from Yb3 _];exact take_putCellsI l.toArray _ (by rw[C];simpa [m]using L)
  ·have V:=(q.in_ i r p).2;exact Nat.lt_of_lt_of_le V D
end
def Y3:Go.Shelf.Ren:=⟨fun | 189=>230 | 125=>242 | 257=>241 | 128=>255 | 129=>256 | 294=>246 | 295=>247 | 296=>248 | 297=>249 | 298=>250 | 299=>251 | 216=>252 | 300=>253 | 301=>254 | 328=>258 | 329=>259 | 330=>260 | 331=>261 | 332=>262 | 215=>263 | 343=>268 | n=>n,fun | 28=>23 | 3=>3 | 46=>261 | 0=>0 | 51=>310 | 53=>225 | 4=>4 | 183=>370 | 182=>369 | 131=>270 | 5=>5 | 9=>9 | 218=>379 | 222=>383 | 228=>390 | 229=>322 | n=>n,fun | n=>n⟩
theorem Um:Go.Proofs.Lays.n189 prog Y3:={
 mixed:=by kernel_rfl
 f125:=func242.trans (congrArg some (by kernel_rfl))
 f128:=func255.trans (congrArg some (by kernel_rfl))
 f129:=func256.trans (congrArg some (by kernel_rfl))
 f189:=func230.trans (congrArg some (by kernel_rfl))
 f215:=func263.trans (congrArg some (by kernel_rfl))
 f216:=func252.trans (congrArg some (by kernel_rfl))
 f257:=func241.trans (congrArg some (by kernel_rfl))
 f294:=func246.trans (congrArg some (by kernel_rfl))
 f295:=func247.trans (congrArg some (by kernel_rfl))
 f296:=func248.trans (congrArg some (by kernel_rfl))
 f297:=func249.trans (congrArg some (by kernel_rfl))
 f298:=func250.trans (congrArg some (by kernel_rfl))
 f299:=func251.trans (congrArg some (by kernel_rfl))
 f300:=func253.trans (congrArg some (by kernel_rfl))
 f301:=func254.trans (congrArg some (by kernel_rfl))
 f328:=func258.trans (congrArg some (by kernel_rfl))
 f329:=func259.trans (congrArg some (by kernel_rfl))
 f330:=func260.trans (congrArg some (by kernel_rfl))
 f331:=func261.trans (congrArg some (by kernel_rfl))
 f332:=func262.trans (congrArg some (by kernel_rfl))
 f343:=func268.trans (congrArg some (by kernel_rfl))
 t0:=underlying0
 a0:=isAgg0
 z0:=sizeOf0
 v0:=zeroValue0
 t3:=underlying3
 a3:=isAgg3
 z3:=sizeOf3
 v3:=zeroValue3
 t4:=underlying4
 a4:=isAgg4
 z4:=sizeOf4
 v4:=zeroValue4
 t5:=underlying5
 a5:=isAgg5
 z5:=sizeOf5
 v5:=zeroValue5
 t9:=underlying9
 a9:=isAgg9
 z9:=sizeOf9
 v9:=zeroValue9
 t28:=underlying23
 a28:=isAgg23
 z28:=sizeOf23
 v28:=zeroValue23
 t46:=underlying261
 a46:=isAgg261
 z46:=sizeOf261
 v46:=zeroValue261
 t51:=underlying310
 a51:=isAgg310
 z51:=sizeOf310
 v51:=zeroValue310
 t53:=underlying225
 a53:=isAgg225
 z53:=sizeOf225
 v53:=zeroValue225
 t131:=underlying270
 a131:=isAgg270
 z131:=sizeOf270
 v131:=zeroValue270
 t182:=underlying369
 a182:=isAgg369
 z182:=sizeOf369
 v182:=zeroValue369
 t183:=underlying370
 a183:=isAgg370
 z183:=sizeOf370
 v183:=zeroValue370
 t218:=underlying379
 a218:=isAgg379
 z218:=sizeOf379
 v218:=zeroValue379
 t222:=underlying383
 a222:=isAgg383
 z222:=sizeOf383
 v222:=zeroValue383
 t228:=underlying390
 a228:=isAgg390
 z228:=sizeOf390
 v228:=zeroValue390
 t229:=underlying322
 a229:=isAgg322
 z229:=sizeOf322
 v229:=zeroValue322}
theorem AfH:Wk prog 230 where
 call:=call230
 some_:=fun blk off cap c w d a b=>Any.slices_Sort_int Um blk off cap c w d a b
 none_:=fun p cap w=>Any.slices_Sort_int_none Um p cap w
abbrev KD:=Fr→List Nat→Aa→Prop
section
variable(P:w_)(ro:Option Nat)(a b:Code)(fr:Fr)(ds:List Nat)(H:Aa)(kn:KD)(X:List (Nat×KD))(kr:KD)
end
theorem Zah(w:y_)(r:Nat)(o:Obj):Y_ w (w.putObj r o):=⟨rfl,rfl,rfl⟩
section
variable{B:Nat→Prop}{H0 H:Aa}{ps qs:List Pc}{p:Pc}
theorem E_.perm(a:E_ B H0 H ps)(h:ps.Perm qs):E_ B H0 H qs:=
 ⟨a.old,a.lt0,a.size,fun p b=>a.oks p (h.mem_iff.2 b),fun p b=>a.rng p (h.mem_iff.2 b),(h.pairwise_iff fun{x y} c k e d=>c k d e).1 a.dis⟩
theorem E_.sub(a:E_ B H0 H ps)(h:qs.Sublist ps):E_ B H0 H qs:=
 ⟨a.old,a.lt0,a.size,fun p b=>a.oks p (h.subset b),fun p b=>a.rng p (h.subset b),a.dis.sublist h⟩
end
section
variable{α:Type}{T:Ty α}{e:x_}{a:Option Addr}{n cap:Nat}{xs:List α}{B:Nat→Prop}{H0 H:Aa}{p1 p2:Pc}{rest:List Pc}
end
section
variable{B:Nat→Prop}{H0 H:Aa}{ps rest:List Pc}
theorem E_.pickN(b:E_ B H0 H ps)(n:Nat)(is:List Nat)(f:is.Nodup):E_ B H0 H ((is.filterMap fun i=>(ps.take n)[i]?)++ps.drop n):=by
 have e:=Ybb n ps;rw[←e]at b;generalize ps.take n=qs at*;generalize ps.drop n=p at*;have⟨t,g,h⟩:=Ycj.1 b.dis;have st1:E_ B H0 H qs:=b.sub (List.sublist_append_left _ _);have c:=st1.pick is f;have j:∀q,q∈is.filterMap (fun i=>qs[i]?)→q∈qs:=fun q a=>by
  obtain⟨i,-,l⟩:=List.mem_filterMap.1 a;exact d_ l
 refine⟨b.old,b.lt0,b.size,fun q a=>?_,fun q a k d=>?_,Ycj.2 ⟨c.dis,g,fun q a r m=>h q (j q a) r m⟩⟩
 ·rcases q_.1 a with a | a
  ·exact c.oks q a
  ·exact b.oks q (q_.2 (.inr a))
 ·rcases q_.1 a with a | a
  ·exact c.rng q a k d
  ·exact b.rng q (q_.2 (.inr a)) k d
end
abbrev kI:Int→v_:=Value.int .i64
theorem Ui:GF prog 3 (Ny (α:=Int)) kI:=GF.ofE underlying3 (keyI .i64)
theorem Uo:Ej prog 344 3 3 (.int .i64 0):=⟨rfl,rfl⟩
abbrev Dom(mm:Int→Option v_):Int→Prop:=fun q=>(mm q).isSome=true
abbrev tIk:Ty Int:=DB .i64
theorem IW:∀(n:Nat) (l:List Int),l.Nodup→(∀x∈l,0≤x∧x<(n:Int))→l.length≤n
 | 0,l,_,h=>by
   cases l with
   | nil=>exact J_ _
   | cons x l=>have:=h x YbZ;omega
 | n+1,l,hd,h=>by
   have c:=IW n (l.filter fun x=>decide (x<(n:Int))) (hd.filter _) (fun x a=>by
    have⟨c,d⟩:=YbV.1 a;exact⟨(h x c).1,by simpa using d⟩)
   have d:l.length≤(l.filter fun x=>decide (x<(n:Int))).length+1:=by
    clear c
    induction l with
    | nil=>simp
    | cons x l f=>
      rw[List.nodup_cons]at hd;by_cases a:x<(n:Int)
      ·rw[YbU (by simpa using a)];have:=f hd.2 (fun y b=>h y (YbX _ b));simp only[j_];omega
      ·rw[YbW (by simpa using a)];have g:x=(n:Int):=by have:=h x YbZ;omega
       have:l.filter (fun x=>decide (x<(n:Int)))=l:=List.filter_eq_self.2 fun y b=>by
        have j:=h y (YbX _ b);have:y≠x:=fun e=>hd.1 (e ▸ b);rw[Zzj];omega
       rw[this];simp
   omega
theorem Aa8{x:Int}(h:0≤x∧x<65536):inK .i64 x:=⟨by simp[IntKind.min,IntKind.signed,IntKind.bits];omega,by simp[IntKind.max,IntKind.signed,IntKind.bits];omega⟩
theorem Te{ks:List Int}(h:ks.Nodup):(ks.mergeSort fun x y=>decide (x≤y)).Pairwise (·<·):=by
 have d:(ks.mergeSort fun x y=>decide (x≤y)).Pairwise (·≤·):=(List.pairwise_mergeSort (fun a b c d e=>by simp only[Zzj]at*;omega) (fun a b=>by simp only[Yar,Zzj];omega) _).imp fun h=>of_decide_eq_true h;have e:(ks.mergeSort fun x y=>decide (x≤y)).Nodup:=(List.mergeSort_perm _ _).nodup_iff.2 h;exact(d.and e).imp fun⟨f,g⟩=>by omega
open Classical in
noncomputable def mss(X:PS):Nat:=(EE fun p=>¬X p).length
theorem Xh{p q:Int→Bool}:∀(l:List Int),(∀x,p x=true→q x=true)→(l.filter p).length≤(l.filter q).length
 | [],_=>J_ _
 | x::l,h=>by
   have c:=Xh l h;cases a:p x with
   | true=>rw[YbU a,YbU (h x a),j_,j_];omega
   | false=>
     rw[YbW (by rw[a];decide)];cases b:q x with
     | true=>rw[YbU b,j_];omega
     | false=>rw[YbW (by rw[b];decide)];exact c
theorem Xi{p q:Int→Bool}{y:Int}:∀(l:List Int),(∀x,p x=true→q x=true)→y∈l→p y=false→q y=true→(l.filter p).length<(l.filter q).length
 | [],_,hy,_,_=>by cases hy
 | x::l,h,hy,h1,h2=>by
   have le:=Xh l h;by_cases a:x=y
   ·subst a;rw[YbW (by rw[h1];decide),YbU h2,j_];omega
   ·have b:y∈l:=by
     rcases Ybe.1 hy with e | e
     ·exact absurd e.symm a
     ·exact e
    have f:=Xi l h b h1 h2;cases c:p x with
    | true=>rw[YbU c,YbU (h x c),j_,j_];omega
    | false=>
      rw[YbW (by rw[c];decide)];cases d:q x with
      | true=>rw[YbU d,j_];omega
      | false=>rw[YbW (by rw[d];decide)];exact f
theorem AeR{X Y:PS}{q:Int}(h:∀p,X p→Y p)(d:0≤q)(e:q<65536)(a:¬X q)(c:Y q):mss Y<mss X:=by
 unfold mss EE;refine Xi (y:=q) _ (fun p b=>?_) (Ycp.2 ⟨q.toNat,Ych.2 (by omega),by omega⟩) ?_ ?_
 ·simp only[Zzj]at b ⊢;exact fun a=>b (h p a)
 ·simp[c]
 ·simp[a]
theorem EO{a:Int→Option v_}{q:Int}{v:v_}(p:Int):Dom (put a q (some v)) p↔Dom a p∨p=q:=by
 unfold Dom;by_cases h:p=q
 ·subst h;rw[Bw];simp
 ·rw[C4 h];simp[h]
open Go.Lib
section
open Go.RowKit
abbrev Rj:String:= "internal/strconv.uint64pow10"
def GG(P:w_)(H:Aa):Prop:=∀w:y_,w.heap=H→TabIs P w Rj .u64 pow10Tab
theorem UM{P:w_}{w w':y_}{a:String}{cs:Array v_}(h:w.var? P a=some cs)(e:A_ (D_ w.heap) w.heap w'.heap):w'.var? P a=some cs:=by
 unfold World.var? at*;cases d:P.globalNamed a with
 | none=>simp[d]at h
 | some g=>
   simp only[d,YbG]at h ⊢;have b:g<w.heap.size:=by
    rcases Nat.lt_or_ge g w.heap.size with c | c
    ·exact c
    ·rw[Yae c]at h;simp at h
   rw[e g b];exact h
theorem GG.agr{P:w_}{H H':Aa}(h:GG P H)(a:A_ (D_ H) H H'):GG P H':=by
 intro w b;subst b;have:=h {w with heap:=H} rfl;exact UM (w:={w with heap:=H}) (w':=w) this a
structure Wf(P:w_)(f:FuncId)(e:x_):Prop where
 call:∀(args:Array v_) (w:y_),(callFunc f args).run P w= .ok (.enter f args) w
 run_:∀(B n:Nat) (i:Int) (sv:v_) (xs:List v_) (w:y_),-9223372036854775808≤i→i≤9223372036854775807→w.ownsRow B e 1 sv n xs→B≤w.heap.size→n+21≤140737488355328→TabBelow P B w Rj .u64 pow10Tab→
  Calls P f #[sv,C_ i,C_ 10] w fun e' w'=>∃v',e'= .returned v'∧w'.ownsRow B e 1 v' (n+(itoa i).length) (xs++Go.Lib.byteCells (itoa i))∧Below B w w'∧OthersKept e none w w'
abbrev tU8:Ty Int:=DB .u8
def I1(i:Int):List Int:=(itoa i).map fun b=>(b.toNat:Int)
theorem WW(i:Int):(I1 i).length=(itoa i).length:=Z_ _
theorem LE{S:Nat→Prop}{H:Aa}:∀{xs:List Int} {cs:List v_},tU8.reps S H cs xs→cs=xs.map (Value.int .u8)∧∀x∈xs,inK .u8 x
 | [],_,h=>by cases h;exact⟨rfl,fun x b=>by cases b⟩
 | x::xs,_,h=>by
   obtain⟨c,r,rfl,⟨rfl,d⟩,e⟩:=h;obtain⟨rfl,f⟩:=LE e;refine⟨rfl,fun y a=>?_⟩;rcases Ybe.1 a with rfl | a
   ·exact d
   ·exact f y a
theorem PR{S:Nat→Prop}{H:Aa}:∀{xs:List Int},(∀x∈xs,inK .u8 x)→tU8.reps S H (xs.map (Value.int .u8)) xs
 | [],_=>rfl
 | x::xs,h=>⟨[.int .u8 x],xs.map (Value.int .u8),rfl,⟨rfl,h x (by simp)⟩,PR fun y a=>h y (by simp[a])⟩
theorem So(i:Int):Go.Lib.byteCells (itoa i)=(I1 i).map (Value.int .u8):=by
 unfold Go.Lib.byteCells I1;rw[Ycv];rfl
theorem AcF(b:UInt8):inK .u8 (b.toNat:Int):=Lo (UInt8.toNat_lt b)
theorem appI{P:w_}{f:FuncId}{H0 H:Aa}{e:x_}{a:Option Addr}{n cap:Nat}{xs:List Int}{i:Int}{K:v_→Aa→Prop}(W:Wf P f e)(D:St H0 H [pS tU8 e a n cap xs])(E:GG P H0)(X: -9223372036854775808≤i)(Y:i≤9223372036854775807)(Z:xs.length+21≤140737488355328)
  (k:∀a' d H',St H0 H' [pS tU8 e a' (xs++I1 i).length d (xs++I1 i)]→K (.slice a' (xs++I1 i).length d) H'):Aj P f #[.slice a n cap,C_ i,C_ 10] H K:=by
 obtain⟨F,-⟩:=D.at_ 0 rfl;obtain⟨cs,⟨a0,m⟩,t⟩:=F;obtain⟨rfl,G⟩:=LE t;refine⟨fun w hw=>⟨W.call _ w,?_⟩⟩;subst hw;have a5:n=xs.length:=by
  rcases m with⟨h,p⟩ | ⟨b,c,l,h,-⟩
  ·injection h with e1 e2 e3;omega
  ·injection h
 have I:w.ownsRow H0.size e 1 (.slice a n cap) xs.length (xs.map (Value.int .u8)):=by
  refine⟨by rw[Z_,Yb3],?_⟩;rcases m with⟨h,p⟩ | ⟨b,c,l,h,-,J,u,y,z,A⟩
  ·exact .inl ⟨h,p⟩
  ·have B:H0.size≤b:=by
    have:=(D.in_ 0 rfl (k:=b) (.inl ⟨0,n,cap,by rw[h];injection h with e1 e2 e3;subst e1;subst e2;subst e3;rfl⟩)).1;unfold D_ at this;omega
   exact .inr ⟨b,c,l.toArray,h,B,J,u,y,by rw[Yc7];exact z,A⟩
 have L:TabBelow P H0.size w Rj .u64 pow10Tab:=fun q J=>(E.agr (D.old.trans (show A_ (D_ H0) w.heap q.heap from fun j R=>J.block j R))) q rfl;refine(W.run_ H0.size xs.length i _ _ w X Y I (Ap D.old) Z L).mono ?_;rintro _ q ⟨S,rfl,C,g,-⟩;have⟨M,N⟩:=C;have O:xs.length+(itoa i).length=(xs++I1 i).length:=by rw[Q_,WW]
 rw[O]at N M;have T:A_ (D_ H0) H0 q.heap:=D.old.trans (show A_ (D_ H0) w.heap q.heap from fun j R=>g.block j R);have r:tU8.reps none_ q.heap (xs.map (Value.int .u8)++Go.Lib.byteCells (itoa i)) (xs++I1 i):=by
  rw[So,←Ybk];refine PR fun x Q=>?_;rcases q_.1 Q with Q | Q
  ·exact G x Q
  ·obtain⟨b,-,rfl⟩:=Ycp.1 Q;exact AcF b
 have mk:∀a' d,S= .slice a' (xs++I1 i).length d→M_ tU8 none_ q.heap H0.size e S (xs++I1 i)→∃H',H'=q.heap∧St H0 H' [pS tU8 e a' (xs++I1 i).length d (xs++I1 i)]:=fun a' d hv hs=>by
  subst hv;refine⟨_,rfl,?_⟩;have⟨a2,c2,e2,U⟩:=(St.nil H0).got T hs;injection e2 with e21 e22 e23
  subst e21;subst e23;exact U
 have hs:M_ tU8 none_ q.heap H0.size e S (xs++I1 i):=by
  refine⟨_,⟨M,?_⟩,r⟩;rcases N with⟨h,p⟩ | ⟨b,c,l,h,B,J,u,y,z,A⟩
  ·exact .inl ⟨h,p⟩
  ·exact .inr ⟨b,c,l.toList,h,B,J,u,y,by rw[YbI];exact z,A⟩
 obtain⟨a',d,rfl⟩:=hs.hull;obtain⟨_,rfl,V⟩:=mk a' d rfl hs;exact⟨_,rfl,⟨g.os.symm ▸ rfl,g.tape.symm ▸ rfl,g.output.symm ▸ rfl⟩,k a' d _ V⟩
end
def Pe:Go.Shelf.Ren:=⟨fun | 176=>231 | 249=>243 | 288=>257 | 283=>264 | 284=>265 | 285=>266 | 286=>267 | 129=>256 | 317=>269 | 318=>270 | 319=>271 | 320=>272 | 337=>273 | 338=>274 | n=>n,fun | 37=>47 | 2=>2 | 3=>3 | 53=>225 | 4=>4 | 9=>9 | 171=>386 | 0=>0 | 173=>388 | 212=>393 | 51=>310 | 5=>5 | 20=>20 | 213=>394 | 46=>261 | 232=>395 | 233=>396 | n=>n,fun | 17=>3 | 18=>4 | 19=>5 | n=>n⟩
theorem Xz:Go.Proofs.LaysM.n176 prog Pe:={
 mixed:=by kernel_rfl
 f129:=func256.trans (congrArg some (by kernel_rfl))
 f176:=func231.trans (congrArg some (by kernel_rfl))
 f249:=func243.trans (congrArg some (by kernel_rfl))
 f283:=func264.trans (congrArg some (by kernel_rfl))
 f284:=func265.trans (congrArg some (by kernel_rfl))
 f285:=func266.trans (congrArg some (by kernel_rfl))
 f286:=func267.trans (congrArg some (by kernel_rfl))
 f288:=func257.trans (congrArg some (by kernel_rfl))
 f317:=func269.trans (congrArg some (by kernel_rfl))
 f318:=func270.trans (congrArg some (by kernel_rfl))
 f319:=func271.trans (congrArg some (by kernel_rfl))
 f320:=func272.trans (congrArg some (by kernel_rfl))
 f337:=func273.trans (congrArg some (by kernel_rfl))
 f338:=func274.trans (congrArg some (by kernel_rfl))
 t0:=underlying0
 a0:=isAgg0
 z0:=sizeOf0
 v0:=zeroValue0
 t2:=underlying2
 a2:=isAgg2
 z2:=sizeOf2
 v2:=zeroValue2
 t3:=underlying3
 a3:=isAgg3
 z3:=sizeOf3
 v3:=zeroValue3
 t4:=underlying4
 a4:=isAgg4
 z4:=sizeOf4
 v4:=zeroValue4
 t5:=underlying5
 a5:=isAgg5
 z5:=sizeOf5
 v5:=zeroValue5
 t9:=underlying9
 a9:=isAgg9
 z9:=sizeOf9
 v9:=zeroValue9
 t20:=underlying20
 a20:=isAgg20
 z20:=sizeOf20
 v20:=zeroValue20
 t37:=underlying47
 a37:=isAgg47
 z37:=sizeOf47
 v37:=zeroValue47
 t46:=underlying261
 a46:=isAgg261
 z46:=sizeOf261
 v46:=zeroValue261
 t51:=underlying310
 a51:=isAgg310
 z51:=sizeOf310
 v51:=zeroValue310
 t53:=underlying225
 a53:=isAgg225
 z53:=sizeOf225
 v53:=zeroValue225
 t171:=underlying386
 a171:=isAgg386
 z171:=sizeOf386
 v171:=zeroValue386
 t173:=underlying388
 a173:=isAgg388
 z173:=sizeOf388
 v173:=zeroValue388
 t212:=underlying393
 a212:=isAgg393
 z212:=sizeOf393
 v212:=zeroValue393
 t213:=underlying394
 a213:=isAgg394
 z213:=sizeOf394
 t232:=underlying395
 a232:=isAgg395
 z232:=sizeOf395
 v232:=zeroValue395
 t233:=underlying396
 a233:=isAgg396
 z233:=sizeOf396
 v233:=zeroValue396
 g17:=by kernel_rfl
 g18:=by kernel_rfl
 g19:=by kernel_rfl
 i0:=by kernel_rfl
 i2:=by kernel_rfl
 i3:=by kernel_rfl
 i4:=by kernel_rfl
 i5:=by kernel_rfl
 i9:=by kernel_rfl
 i20:=by kernel_rfl
 i37:=by kernel_rfl
 i46:=by kernel_rfl
 i51:=by kernel_rfl
 i53:=by kernel_rfl
 i171:=by kernel_rfl
 i173:=by kernel_rfl
 i212:=by kernel_rfl
 i232:=by kernel_rfl
 i233:=by kernel_rfl
 m17:=by kernel_rfl
 m18:=by kernel_rfl
 m19:=by kernel_rfl}
theorem Zm:Wf prog 231 5 where
 call:=call231
 run_ B n i sv xs w h0 h1 hown hB hlim htab:=Go.Proofs.Any.strconv_AppendInt_10 Xz B n i h0 h1 sv xs w hown hB hlim htab
def Dn(q:Int):List Nat:=(Go.Lib.itoa q).map UInt8.toNat
theorem Ae1(q:Int):I1 q=(Dn q).map fun(x:Nat)=>(x:Int):=by
 unfold I1 Dn;rw[Ycv];rfl
def Np(n:Nat)(l:List Nat):Nat:=l.foldl (fun n b=>10*n+(b-48)) n
theorem Q5(u:Nat):(∀b∈(Go.Lib.decDigits u).map UInt8.toNat,48≤b∧b≤57)∧Np 0 ((Go.Lib.decDigits u).map UInt8.toNat)=u:=by
 induction u using Nat.strongRecOn with
 | _ u ih=>
   rw[Go.Lib.decDigits];by_cases h:u<10
   ·rw[dif_pos h];have e:(UInt8.ofNat (48+u)).toNat=48+u:=by rw[UInt8.toNat_ofNat'];omega
    refine⟨fun b a=>?_,?_⟩
    ·simp only[YaQ,Ycw,V_,e]at a;omega
    ·simp only[YaQ,Ycw,e,Np,Ycf,Ycs];omega
   ·rw[dif_neg h];have⟨d,c⟩:=ih (u / 10) (by omega);have e:(UInt8.ofNat (48+u % 10)).toNat=48+u % 10:=by rw[UInt8.toNat_ofNat'];omega
    refine⟨fun b a=>?_,?_⟩
    ·rw[Ybk,q_]at a;rcases a with a | a
     ·exact d b a
     ·simp only[YaQ,Ycw,V_,e]at a;omega
    ·unfold Np at c ⊢;rw[Ybk,Yca,c];simp only[YaQ,Ycw,e,Ycf,Ycs];omega
theorem OR{q:Int}(h:0≤q):Dn q=(Go.Lib.decDigits q.toNat).map UInt8.toNat:=by
 unfold Dn Go.Lib.itoa;rw[G_ (by omega)]
theorem Jx{q:Int}(h:0≤q):∀b∈Dn q,48≤b∧b≤57:=by rw[OR h];exact(Q5 _).1
theorem TQ{q:Int}(h:0≤q):(Np 0 (Dn q):Int)=q:=by rw[OR h,(Q5 _).2];omega
theorem TN:∀(k u:Nat),u<10^(k+1)→(Go.Lib.decDigits u).length≤k+1
 | 0,u,h=>by
   rw[Go.Lib.decDigits,dif_pos (by simpa using h)];simp
 | k+1,u,h=>by
   rw[Go.Lib.decDigits];by_cases a:u<10
   ·rw[dif_pos a];simp
   ·rw[dif_neg a,Q_];have:=TN k (u / 10) (by rw[Nat.div_lt_iff_lt_mul (by decide)];rw[Nat.pow_succ]at h;omega);simp only[j_,J'];omega
theorem TP{q:Int}(h:0≤q∧q<65536):(Dn q).length≤5:=by
 rw[OR h.1,Z_];exact TN 4 _ (by omega)
theorem YL:∀(l:List Nat) (n:Nat),(∀b∈l,48≤b)→n≤Np n l
 | [],n,_=>J_ _
 | b::l,n,h=>by
   have a:=YL l (10*n+(b-48)) fun x c=>h x (YbX _ c);unfold Np at a ⊢;rw[Ycf];omega
theorem AbR{p r:List Nat}{q:Int}(c:0≤q)(h:Dn q=p++r):(Np 0 p:Int)≤q:=by
 have d:=Jx c;have a:=TQ c;rw[h]at d a;have e:=YL r (Np 0 p) fun b f=>(d b (List.mem_append_right _ f)).1;unfold Np at a e ⊢;rw[Yca]at a;omega
def AT(l:List Int):List Nat:=l.flatMap fun q=>Dn q++[44]
theorem MA(l:List Int)(q:Int):AT (l++[q])=AT l++Dn q++[44]:=by
 unfold AT;rw[Yck];simp
theorem XB{l:List Int}(h:∀q∈l,0≤q∧q<65536):∀b∈AT l,b<256:=by
 intro b a;have⟨q,c,a⟩:=Ycd.1 a;rcases q_.1 a with a | a
 ·have:=Jx (h q c).1 b a;omega
 ·rw[V_]at a;omega
theorem Ir:∀{l:List Int},(∀q∈l,0≤q∧q<65536)→(AT l).length≤l.length*6
 | [],_=>l_ _
 | q::l,h=>by
   have c:=Ir (l:=l) fun x a=>h x (YbX _ a);have d:=TP (h q (YbZ ..));have b:AT (q::l)=(Dn q++[44])++AT l:=by unfold AT;rw[YbY]
   rw[b];simp only[Q_,j_,J'];omega
def mst(s:List Int×Nat)(b:Nat):List Int×Nat:=if b=44 then(s.1++[(s.2:Int)],0)else(s.1,10*s.2+(b-48))
theorem M9:∀(p:List Nat) (acc:List Int) (n:Nat),(∀b∈p,48≤b∧b≤57)→p.foldl mst (acc,n)=(acc,Np n p)
 | [],_,_,_=>rfl
 | b::p,acc,n,h=>by
   have c:=h b (YbZ ..);rw[Ycf,show mst (acc,n) b=(acc,10*n+(b-48)) by unfold mst;rw[G_ (by omega)],M9 p acc _ fun x a=>h x (YbX _ a)];rfl
theorem Us{q:Int}(h:0≤q)(acc:List Int):(Dn q++[44]).foldl mst (acc,0)=(acc++[q],0):=by
 rw[Yca,M9 _ _ _ (Jx h)];show mst (acc,Np 0 (Dn q)) 44=_;unfold mst;rw[I_ rfl];simp only[TQ h]
theorem L8:∀(l:List Int) (acc:List Int),(∀q∈l,0≤q)→(AT l).foldl mst (acc,0)=(acc++l,0)
 | [],acc,_=>by simp[AT]
 | q::l,acc,h=>by
   have a:AT (q::l)=(Dn q++[44])++AT l:=by unfold AT;rw[YbY]
   rw[a,Yca,Us (h q (YbZ ..)),L8 l _ fun x b=>h x (YbX _ b)];simp
theorem XC{l m:List Int}(b:∀q∈l,0≤q)(c:∀q∈m,0≤q)(h:AT l=AT m):l=m:=by
 have a:=L8 l [] b;rw[h,L8 m [] c]at a;simpa using a.symm
theorem Ut:∀(l:List Int) (acc:List Int) (i:Nat),(∀q∈l,0≤q∧q<65536)→(((AT l).take i).foldl mst (acc,0)).2<65536∧∃k,k≤l.length∧(((AT l).take i).foldl mst (acc,0)).1=acc++l.take k
 | [],acc,i,_=>by simp[AT]
 | q::l,acc,i,h=>by
   have a:=h q (YbZ ..);have c:AT (q::l)=(Dn q++[44])++AT l:=by unfold AT;rw[YbY]
   rw[c];by_cases d:i≤(Dn q).length
   ·have e:((Dn q++[44])++AT l).take i=(Dn q).take i:=by
     rw[YaC,List.take_append_of_le_length d]
    rw[e,M9 _ _ _ fun b f=>Jx a.1 b (List.mem_of_mem_take f)];have:=AbR a.1 (Ybb i (Dn q)).symm;exact⟨by simp only;omega,0,l_ _,by simp⟩
   ·have e:((Dn q++[44])++AT l).take i=(Dn q++[44])++(AT l).take (i-(Dn q).length-1):=by
     rw[List.take_append,Ycy (by simp only[Q_,j_,J'];omega)];simp only[Q_,j_,J'];rw[show i-((Dn q).length+(0+1))=i-(Dn q).length-1 by omega]
    rw[e,Yca,Us a.1];have⟨g,k,n,j⟩:=Ut l (acc++[q]) (i-(Dn q).length-1) fun x m=>h x (YbX _ m);exact⟨g,k+1,by simp only[j_];omega,by rw[j];simp⟩
def nmB(l:List Int):ByteArray:=⟨((AT l).map UInt8.ofNat).toArray⟩
theorem Zu{l:List Nat}(h:∀x∈l,x<256):byN ⟨(l.map UInt8.ofNat).toArray⟩=l:=by
 unfold byN;rw[Ycv];refine(Ycq fun x a=>?_).trans (List.map_id _);show(UInt8.ofNat x).toNat=x;rw[UInt8.toNat_ofNat'];exact Ybs (h x a)
theorem OI{l:List Int}(h:∀q∈l,0≤q∧q<65536):byN (nmB l)=AT l:=Zu (XB h)
theorem AaU{l m:List Int}(b:∀q∈l,0≤q∧q<65536)(c:∀q∈m,0≤q∧q<65536)(h:nmB l=nmB m):l=m:=by
 have:=congrArg byN h;rw[OI b,OI c]at this;exact XC (fun q a=>(b q a).1) (fun q a=>(c q a).1) this
theorem Rc{l:List Int}(h:∀q∈l,0≤q∧q<65536):(nmB l).size=(AT l).length:=by
 rw[←Lv,OI h]
section
variable{K:Type} [DecidableEq K]
def atF(most:Nat)(f:List K)(k:K):Option (List K×Nat):=match f.findIdx? (·=k)with
 | some i=>some (f,i)
 | none=>if f.length<most then some (f++[k],f.length)else none
def Dq(most:Nat)(step:K→Nat→K)(x:K)(s:Option (List K×List Nat))(b:Nat):Option (List K×List Nat):=
 s.bind fun p=>(atF most p.1 (step x b)).map fun r=>(r.1,p.2++[r.2])
def Br(most:Nat)(step:K→Nat→K)(bs:List Nat)(start:K):Nat→Option (List K×List (List Nat))
 | 0=>some ([start],[])
 | n+1=>(Br most step bs start n).bind fun p=>match p.1[n]? with
   | none=>some p
   | some x=>(bs.foldl (Dq most step x) (some (p.1,[]))).map fun r=>(r.1,p.2++[r.2])
variable{most:Nat}{step:K→Nat→K}{bs:List Nat}{start:K}
theorem Gw(x:K):∀l:List Nat,l.foldl (Dq most step x) none=none
 | []=>rfl
 | b::l=>by rw[Ycf];exact Gw x l
theorem Jq{f c:List K}{k:K}{i:Nat}(h:atF most f k=some (c,i))(p:f.length≤most)(m:f.Nodup):c[i]?=some k∧c.length≤most∧c.Nodup∧f <+: c:=by
 unfold atF at h;cases d:f.findIdx? (·=k)with
 | some j=>
   rw[d]at h;injection h with h
   injection h with h1 h2
   subst h1;subst h2;obtain⟨q,g,-⟩:=Ycm.1 d;have g:f[j]=k:=by simpa using g
   exact⟨by rw[Ya2 q,g],p,m,Yc9 _⟩
 | none=>
   rw[d]at h;simp only at h;split at h
   ·rename_i r;injection h with h
    injection h with h1 h2
    subst h1;subst h2;have l:k∉f:=fun t=>by
     have:=List.findIdx?_eq_none_iff.1 d k t;simp at this
    refine⟨by simp,by simp only[Q_,j_,J'];omega,?_,List.prefix_append _ _⟩;rw[List.nodup_append];exact⟨m,by simp,fun a u b n=>by rw[V_]at n;subst n;intro e;subst e;exact l u⟩
   ·cases h
omit [DecidableEq K]in
theorem FI{f a:List K}{i:Nat}{k:K}(h:f <+: a)(hi:f[i]?=some k):a[i]?=some k:=by
 obtain⟨t,rfl⟩:=h;rw[YaK (X_.1 hi).1];exact hi
structure RS(most:Nat)(step:K→Nat→K)(bs:List Nat)(start:K)(n:Nat)(f:List K)(rows:List (List Nat)):Prop where
 len:f.length≤most
 nd:f.Nodup
 zero:f[0]?=some start
 rl:rows.length=n
 cols:∀row∈rows,row.length=bs.length
 ok:∀(i k:Nat) (row:List Nat) (b t:Nat) (x:K),rows[i]?=some row→bs[k]?=some b→row[k]?=some t→f[i]?=some x→f[t]?=some (step x b)
theorem Sv{f:List K}{x:K}(y:f.length≤most)(z:f.Nodup):∀(k:Nat),k≤bs.length→∀(a:List K) (row:List Nat),(bs.take k).foldl (Dq most step x) (some (f,[]))=some (a,row)→
  a.length≤most∧a.Nodup∧f <+: a∧row.length=k∧∀(j b t:Nat),bs[j]?=some b→row[j]?=some t→a[t]?=some (step x b):=by
 intro k
 induction k with
 | zero=>
   intro _ a row h;simp only[Ycr,Ycs,AlQ.injEq,Prod.mk.injEq]at h;obtain⟨rfl,rfl⟩:=h;exact⟨y,z,Yc9 _,rfl,fun j b t _ h=>by simp at h⟩
 | succ k A=>
   intro G a row h;have⟨b,q⟩:=Am (l:=bs) (k:=k) (by omega);rw[Ai q,Yca]at h;cases g:(bs.take k).foldl (Dq most step x) (some (f,[]))with
   | none=>rw[g]at h;cases h
   | some p=>
     have⟨u,B⟩:=p;have⟨C,D,E,w,F⟩:=A (by omega) u B g;rw[g]at h;simp only[Ycf,Ycs,Dq,YbG]at h;cases m:atF most u (step x b)with
     | none=>rw[m]at h;cases h
     | some r=>
       have⟨H,I⟩:=r;rw[m]at h;simp only[YcH,AlQ.injEq,Prod.mk.injEq]at h;obtain⟨rfl,rfl⟩:=h;have⟨a1,a2,a3,a4⟩:=Jq m C D;refine⟨a2,a3,E.trans a4,by simp[w],fun j c t e d=>?_⟩;by_cases J:j<k
       ·rw[YaK (by omega)]at d;exact FI a4 (F j c t e d)
       ·have n:=(X_.1 d).1;simp only[Q_,j_,J']at n;obtain rfl:j=k:=by omega
        rw[q]at e;injection e with e
        subst e;rw[YaD (by omega),w,YbD]at d;simp only[Ycb,AlQ.injEq]at d;subst d;exact a1
theorem KU{f:List K}{x:K}(c:f.length≤most)(d:f.Nodup){a:List K}{row:List Nat}(h:bs.foldl (Dq most step x) (some (f,[]))=some (a,row)):
  a.length≤most∧a.Nodup∧f <+: a∧row.length=bs.length∧∀(j b t:Nat),bs[j]?=some b→row[j]?=some t→a[t]?=some (step x b):=
 Sv c d bs.length (J_ _) a row (by rw[YaB];exact h)
theorem MR(C:1≤most):∀(n:Nat) (f:List K) (rows:List (List Nat)),Br most step bs start n=some (f,rows)→(∀j,j<n→j<f.length)→RS most step bs start n f rows
 | 0,f,rows,h,_=>by
   simp only[Br,AlQ.injEq,Prod.mk.injEq]at h;obtain⟨rfl,rfl⟩:=h;exact⟨C,by simp,rfl,rfl,(fun row h=>by cases h),fun i k row b t x h=>by simp at h⟩
 | n+1,f,rows,h,hlt=>by
   simp only[Br]at h;cases w:Br most step bs start n with
   | none=>rw[w]at h;cases h
   | some p=>
     have⟨q,d⟩:=p;rw[w]at h;simp only[YbG]at h;cases g:q[n]? with
     | none=>
       rw[g]at h;simp only[AlQ.injEq,Prod.mk.injEq]at h;obtain⟨rfl,rfl⟩:=h;have:=hlt n (by omega);rw[List.getElem?_eq_none_iff]at g;omega
     | some x=>
       rw[g]at h;simp only at h;cases z:bs.foldl (Dq most step x) (some (q,[]))with
       | none=>rw[z]at h;cases h
       | some r=>
         have⟨J,row⟩:=r;rw[z]at h;simp only[YcH,AlQ.injEq,Prod.mk.injEq]at h;obtain⟨rfl,rfl⟩:=h;have G:=(X_.1 g).1;have c:=MR C n q d w fun j L=>by omega
         have⟨g1,g2,u,H,I⟩:=KU c.len c.nd z;refine⟨g1,g2,FI u c.zero,by simp[c.rl],fun r a=>?_,fun i k r b t y e D E F=>?_⟩
         ·rcases q_.1 a with a | a
          ·exact c.cols r a
          ·rw[V_]at a;subst a;exact H
         ·by_cases A:i<n
          ·rw[YaK (by rw[c.rl];exact A)]at e;have⟨M,m⟩:=Am (l:=q) (k:=i) (by omega);have:=FI u m;rw[F]at this;injection this with this
           subst this;exact FI u (c.ok i k r b t y e D E m)
          ·have B:=(X_.1 e).1;simp only[Q_,j_,J',c.rl]at B;obtain rfl:i=n:=by omega
           rw[YaD (by rw[c.rl];exact J_ _),c.rl,YbD]at e;simp only[Ycb,AlQ.injEq]at e;subst e;have:=FI u g;rw[F]at this;injection this with this
           subst this;exact I k b t D E
theorem Jb{n:Nat}{f:List K}{rows:List (List Nat)}(h:Br most step bs start n=some (f,rows))(c:f.length≤n):∀m,n≤m→Br most step bs start m=some (f,rows):=by
 intro m d
 induction m with
 | zero=>obtain rfl:n=0:=by omega
         exact h
 | succ m a=>
   by_cases b:n=m+1
   ·subst b;exact h
   ·have:=a (by omega);simp only[Br,this,YbG];rw[YaE (by omega)]
theorem SZ{n:Nat}(h:Br most step bs start n=none):∀m,n≤m→Br most step bs start m=none:=by
 intro m c
 induction m with
 | zero=>obtain rfl:n=0:=by omega
         exact h
 | succ m a=>
   by_cases b:n=m+1
   ·subst b;exact h
   ·have:=a (by omega);simp only[Br,this,Option.bind_none]
def Gj(most:Nat)(step:K→Nat→K)(bs:List Nat)(start:K):Option (List K×List (List Nat)):=Br most step bs start most
theorem Ve{n:Nat}{f:List K}{rows:List (List Nat)}(h:Br most step bs start n=some (f,rows))(a:f.length=n)(b:f.length≤most):Gj most step bs start=some (f,rows):=
 Jb h (by omega) most (by omega)
theorem Vg{n:Nat}(h:Br most step bs start (n+1)=none)(a:n<most):Gj most step bs start=none:=SZ h most a
end
section
variable{α:Type}{T:Ty α}{e te:x_}{nb:Nat}{vs:List v_}{xs:List (List α)}{B:Nat→Prop}{H0 H H1:Aa}{ps:List Pc}
theorem Ac1{P:w_}{tt ty q by_ t f:Nat}{z:v_}{a:Option Addr}{n cap:Nat}{ds:List v_}{x:List α}{y:α}{K:v_→Aa→Prop}(m:E_ B H0 H ps)(i:Nat)(w:SlT P tt e T.size by_ z)(p:ps[i]?=some (pT T e te nb vs xs))(r:vs[t]?=some (.slice a n cap))(A:xs[t]?=some x)
  (hd:AL H q 0 ds) (C:T.rep none_ H ds y) (D:ds.all (·.oneCell')=true) (j:x.length+1≤34359738368) (hby:by_≤1024)
  (k:∀a' c H1,Mid T B H0 H H1 ps i e te nb vs xs t (.slice a' (x.length+1) c) (x++[y])→A_ (fun k=>k<H.size∧¬N_ (.slice a n cap) k) H H1→K (.slice a' (x.length+1) c) H1):Ba P (Builtin.append_ #[tt,tt] ty [.slice a n cap,.slice (b_ q) 1 f].toArray) H K:=by
 have tab:=m.tab i p;have g:=tab.own t _ _ r A;refine BG (T:=T) (S:=none_) (lo:=nb+1) (ys:=[y]) w g tab.blk.lt (fun k E=>E.elim) hd (Ty.reps_one C) rfl (fun u F=>Ycc.1 D u F) (by unfold maxLen;simp only[k_];omega) (by have:=Nat.mul_le_mul j hby;simp only[k_];omega) ?_;intro G H1 b d l h;obtain⟨a',c,rfl⟩:=b.hull;rw[Q_,k_]at b h ⊢;exact k a' c H1 ⟨m,p,b,⟨_,r,d,h⟩,l⟩ d
theorem E_.rowNe(b:E_ B H0 H ps)(i:Nat)(c:ps[i]?=some (pT T e te nb vs xs)){t:Nat}{v:v_}{x:List α}(d:vs[t]?=some v)(f:xs[t]?=some x):¬N_ v nb:=fun h=>by
 have a:=(b.tab i c).own t _ _ d f;have:=(a.lt h).1;omega
end
section
variable{β:Type}
def grp(n:Nat)(key:Z'→Option (Nat×β))(l:List Z'):List (List β):=(Ah8 n).map fun q=>l.filterMap fun e=>(key e).bind fun p=>if p.1=q then some p.2 else none
theorem CK(n:Nat)(a:Z'→Option (Nat×β))(l:List Z'):(grp n a l).length=n:=by simp[grp]
theorem GQ{n q:Nat}(a:Z'→Option (Nat×β))(l:List Z')(h:q<n):(grp n a l)[q]?=some (l.filterMap fun e=>(a e).bind fun p=>if p.1=q then some p.2 else none):=by
 unfold grp;rw[t_,Ybf h];rfl
theorem Pa(n:Nat)(a:Z'→Option (Nat×β)):grp n a []=Ah1 n []:=by
 unfold grp;simp[List.map_const']
theorem Fi{n:Nat}{a:Z'→Option (Nat×β)}{l:List Z'}{e:Z'}(h:a e=none):grp n a (l++[e])=grp n a l:=by
 unfold grp;refine Ycq fun q _=>?_;rw[Yc2];simp[h]
theorem Mz{n q:Nat}{a:Z'→Option (Nat×β)}{l:List Z'}{e:Z'}{y:β}{row:List β}(h:a e=some (q,y))(c:(grp n a l)[q]?=some row):grp n a (l++[e])=(grp n a l).set q (row++[y]):=by
 have f:q<n:=by have:=(X_.1 c).1;rwa [CK]at this
 rw[GQ a l f]at c;injection c with c
 apply YaH;intro j;by_cases d:j<n
 ·rw[GQ a _ d,Yc2,YaP,CK,GQ a _ d];by_cases b:q=j
  ·subst b;rw[I_ rfl,I_ d,←c];simp[h]
  ·rw[G_ b];simp[h,b]
 ·rw[YaE (by rw[CK];omega),YaE (by rw[YaF,CK];omega)]
end
def Ez(a:O_):Nat:=if 0≤a.st∧a.st≤65536 then a.st.toNat else 0
theorem Pt(a:O_):Ez a≤65536:=by unfold Ez;split<;>omega
theorem QE(a:O_)(q:Int):a.has q=(decide (0≤q)&&decide (q<(Ez a:Int))):=by
 rw[Bool.eq_iff_iff,O_.has_iff];unfold Ez;simp only[h_,Zzj];split<;>omega
def okE(a:O_)(e:Z'):Bool:=a.has e.fr&&a.has e.to
def keyS(a:O_)(e:Z'):Option (Nat×Int):=if okE a e&&e.sil then some (e.fr.toNat,e.to)else none
def IR(a:O_)(e:Z'):Option (Nat×Z'):=if okE a e&& !e.sil then some (e.fr.toNat,e)else none
def AfF(a:O_):List (List Int):=grp (Ez a) (keyS a) a.edges
def Nk(a:O_):List (List Z'):=grp (Ez a) (IR a) a.edges
abbrev tNt:x_:=330
def ntL(sv tv:v_)(n:Nat):List v_:=[sv,tv,C_ n]
def Lk(S:Nat→Prop)(H:Aa)(v:v_)(a:O_):Prop:=∃nb sa sc ta tc,v= H_ nb∧S nb∧AL H nb 0 (ntL (.slice sa (Ez a) sc) (.slice ta (Ez a) tc) (Ez a))∧S_ (tSl tIk) S H sa sc (AfF a)∧S_ (tSl tEd) S H ta tc (Nk a)
theorem Lk.frame{S:Nat→Prop}{H H':Aa}{v:v_}{a:O_}(h:Lk S H v a)(k:A_ S H H'):Lk S H' v a:=by
 have⟨nb,sa,sc,c,d,e,b,f,g,j⟩:=h;exact⟨nb,sa,sc,c,d,e,b,f.eq (k nb b),g.frame k,j.frame k⟩
theorem Lk.mono{S S':Nat→Prop}{H:Aa}{v:v_}{a:O_}(h:Lk S H v a)(k:∀i,S i→S' i):Lk S' H v a:=by
 have⟨nb,sa,sc,b,c,d,e,f,g,j⟩:=h;exact⟨nb,sa,sc,b,c,d,k _ e,f,g.mono k,j.mono k⟩
theorem SN{H:Aa}{nb:Nat}{d e:v_}{a:O_}{q:Int}(h:AL H nb 0 (ntL d e (Ez a))):AZ prog 213 #[H_ nb,C_ q] H (.bool (a.has q)):=by
 refine Al.of_vc func213 rfl (call213 _) ?_;by_cases c:0≤q
 ·have b:decide ((0:Int)≤q)=true:=g_ c;(conv=>whnf);rw[b];refine fa ?_;refine lT (v:=C_ (Ez a:Int)) (h 2 _ rfl) ?_;(conv=>whnf);exact⟨by rw[QE,b,Yaq],A_.refl _ _⟩
 ·have b:decide ((0:Int)≤q)=false:=a_ c;(conv=>whnf);rw[b];(conv=>whnf);exact⟨by rw[QE,b,Yas],A_.refl _ _⟩
theorem nt_z:(prog.info? 330).bind (·.zero)=some (.agg #[.slice none 0 0,.slice none 0 0,C_ 0]):=rfl
theorem AbA{S:Nat→Prop}{H:Aa}{v:v_}{a:O_}(hS:∀k,S k→k<H.size)(h:NfV S H v a):
  Al prog 212 #[v] H fun r H'=>A_ (D_ H) H H'∧Lk (D_ H') H' r a:=by
 have hr:=h.1;have hl:=h.2.1;refine Al.of_vc func212 rfl (call212 _) (SM h fun ea ec aj h1=>?_);subst aj;intro p H1 hp ak am ao;have st1:=(St.nil H).box hp ak am ao;refine Ah underlying330 rfl _ nt_z (ntL (.slice none 0 0) (.slice none 0 0) 0) rfl (BL st1 (ntL (.slice none 0 0) (.slice none 0 0) 0) rfl fun nb H2 K=>?_);have a0:=Pt a;obtain⟨n,T⟩:∃n,n=Ez a:=⟨_,rfl⟩;rw[←T]at a0;have U:=K.blk 0 rfl;have A:∀c:Bool,c=(decide ((0:Int)≤a.st)&&decide (a.st≤65536))→(c=true→(n:Int)=a.st)∧(c=false→n=0):=by
  intro c hc;rw[hc,T];unfold Ez;constructor
  ·intro h;simp only[h_,Zzj]at h;rw[I_ h];omega
  ·intro h;rw[G_ fun h2=>by simp[h2.1,h2.2]at h]
 (conv=>whnf);refine Af.cut (α:=Unit) [] (fun _=>[]) (fun _ H3=>St H H3 [pB 304 p (nfL a (.slice ea a.edges.length ec)),pB tNt nb (ntL (.slice none 0 0) (.slice none 0 0) n)]) ?_ ?_
 ·refine fa ?_;refine lT (U.cellE rfl) ?_;by_cases h0:0≤a.st
  ·have d0:decide ((0:Int)≤a.st)=true:=g_ h0;(conv=>whnf);rw[d0];refine fa ?_;refine lT (U.cellE rfl) ?_;by_cases h6:a.st≤65536
   ·have d6:decide (a.st≤(65536:Int))=true:=g_ h6;have ap:(n:Int)=a.st:=(A true (by rw[d0,d6];rfl)).1 rfl;(conv=>whnf);rw[d6];refine fa ?_;refine B_ (U.cellE rfl) trivial (fa ?_);refine Bh K 1 rfl (show 2<3 by decide) rfl fun H3 L=>(⟨rfl,(),rfl,?_⟩);unfold ntL;rw[ap];exact L
   ·have d6:decide (a.st≤(65536:Int))=false:=a_ h6;obtain rfl:n=0:=(A false (by rw[d0,d6];rfl)).2 rfl;(conv=>whnf);rw[d6];(conv=>whnf);exact⟨rfl,(),rfl,K⟩
  ·have d0:decide ((0:Int)≤a.st)=false:=a_ h0;obtain rfl:n=0:=(A false (by rw[d0];rfl)).2 rfl;(conv=>whnf);rw[d0];(conv=>whnf);exact⟨rfl,(),rfl,K⟩
 ·rintro⟨⟩ H3 aq L;refine fa ?_;refine B_ ((L.blk 1 rfl).cellE rfl) trivial (D1 DS rfl (by omega) (by omega) (by omega) (by omega) ?_);intro V H4 au aw a5 ay;rw[Yau]at a5 ⊢;have az:=L.tabNew tIk 3 au aw a5 ay;refine fa ?_;refine Bh az 1 rfl (show 0<3 by decide) rfl fun H5 a6=>(fa ?_);refine B_ ((a6.blk 1 rfl).cellE rfl) trivial (D1 R0 rfl (by omega) (by omega) (by omega) (by omega) ?_);intro tb H6 b4 b5 a7 b7;rw[Yau]at a7 ⊢;have b8:=a6.tabNew tEd 332 b4 b5 a7 b7;refine fa ?_;refine Bh b8 1 rfl (show 1<3 by decide) rfl fun H7 a8=>?_;have b9:=a8.blk 0 rfl;refine fa ?_;refine lT (b9.cellE rfl) ?_;(conv=>whnf);refine A8.mk [40] (fun i:Nat=>[C_ i]) (fun i H8=>i≤a.edges.length∧∃vs vt,St H H8 [pB 304 p (nfL a (.slice ea a.edges.length ec)),pB tNt nb (ntL (.slice (b_ V) n n) (.slice (b_ tb) n n) n),pT tIk 3 23 V vs (grp n (keyS a) (a.edges.take i)),pT tEd 332 302 tb vt (grp n (IR a) (a.edges.take i))]) (fun i _=>a.edges.length-i) ?_ ?_
  ·(conv=>whnf);refine⟨0,rfl,l_ _,Ah1 n (.slice none 0 0),Ah1 n (.slice none 0 0),?_⟩;rw[Ycr,Pa,Pa];exact a8
  ·rintro i H8 bd ⟨hi,vs,vt,q⟩;refine Ag.m2 (fun hz=>?_) (fun hz=>?_)
   ·have⟨e,he⟩:=Am (l:=a.edges) (k:=i) (by omega);refine Af.run (u_ (i:=i) JT (h1.frame (q.old.mono hS)) he rfl ?_);rintro b6 o6 c6 bj be ⟨rfl,a9⟩;refine L_ (cs:=edL e) be trivial (Aw _ [C_ 0,C_ 0,.bool false,.int .u64 0,.int .u64 0,.int .u64 0,.int .u64 0] Mp rfl ?_);intro x H9 hx ab ad ae;have P:=q.box hx ab ad ae;refine AD (cs:=edL e) P 4 rfl rfl (J_ _) rfl fun H10 Q=>?_;rw[Bx (show(edL e).length=7 from rfl)]at Q;clear P ab ad ae;obtain⟨H9,rfl⟩:∃H9,H9=H10:=⟨_,rfl⟩;have M:=Q;have hX:=M.blk 4 rfl;have z:AL H9 nb 0 (ntL (.slice (b_ V) n n) (.slice (b_ tb) n n) (Ez a)):=by
     rw[←T];exact(M.blk 1 rfl).cells fun j v N=>by rw[P_];exact N
    refine fa ?_;refine B_ (hX.cellE rfl) trivial (Ak (SN z) fun H14 R=>?_);have B:=M.call R;cases J:a.has e.fr with
    | false=>
      have k1:keyS a e=none:=by unfold keyS okE;rw[J,Yas,Yas];rfl
      have k2:IR a e=none:=by unfold IR okE;rw[J,Yas,Yas];rfl
      have g1:=Fi (n:=n) (l:=a.edges.take i) k1;have g2:=Fi (n:=n) (l:=a.edges.take i) k2;rw[←Ai he]at g1 g2;(conv=>whnf);rw[R_ i (by omega)];refine⟨rfl,i+1,by simp,⟨by omega,vs,vt,?_⟩,by omega⟩;rw[g1,g2];exact B.pick [0,1,2,3] (by decide)
    | true=>
      refine fa ?_;refine B_ ((B.blk 4 rfl).cellE rfl) trivial (Ak (SN (z.eq (R nb (M.in_ 1 rfl rfl).2))) fun Hq ah=>?_);have d:=B.call ah;cases ht:a.has e.to with
      | false=>
        have k1:keyS a e=none:=by unfold keyS okE;rw[J,ht,YbT,Yas];rfl
        have k2:IR a e=none:=by unfold IR okE;rw[J,ht,YbT,Yas];rfl
        have g1:=Fi (n:=n) (l:=a.edges.take i) k1;have g2:=Fi (n:=n) (l:=a.edges.take i) k2;rw[←Ai he]at g1 g2;(conv=>whnf);rw[R_ i (by omega)];refine⟨rfl,i+1,by simp,⟨by omega,vs,vt,?_⟩,by omega⟩;rw[g1,g2];exact d.pick [0,1,2,3] (by decide)
      | true=>
        have bn:=O_.has_iff.1 J;have bo:0≤e.fr∧e.fr<(n:Int):=by
         have:=QE a e.fr;rw[J,←T]at this;simpa using this.symm
        have bp:e.fr.toNat<n:=by omega
        refine fa ?_;refine lT ((d.blk 4 rfl).cellE rfl) ?_;cases O:e.sil with
        | true=>
          (conv=>whnf);have⟨row,b⟩:=Am (l:=grp n (keyS a) (a.edges.take i)) (k:=e.fr.toNat) (by rw[CK];omega);have bf:row.length≤i:=by
           rw[GQ _ _ (show e.fr.toNat<n by omega)]at b;injection b with b
           rw[←b];exact YbC (Ycx _ _) (Yc3 _ _)
          obtain⟨ra,rc,m,-⟩:=d.row 2 rfl b;have W:=d.rowNe 2 rfl m b;have t:∀k,N_ (.slice ra row.length rc) k→(pT tIk 3 23 V vs (grp n (keyS a) (a.edges.take i))).foot k:=fun k u=>.inr ⟨e.fr.toNat,_,m,u⟩;have d1:=d.apart2 (i:=1) (j:=2) rfl rfl (by decide);have d4:=d.apart2 (i:=4) (j:=2) rfl rfl (by decide);have qn:nb<Hq.size∧¬N_ (.slice ra row.length rc) nb:=⟨(d.in_ 1 rfl rfl).2,fun h=>d1 nb rfl (t nb h)⟩;have X:x<Hq.size∧¬N_ (.slice ra row.length rc) x:=⟨(d.in_ 4 rfl rfl).2,fun h=>d4 x rfl (t x h)⟩;have qt:V<Hq.size∧¬N_ (.slice ra row.length rc) V:=⟨(d.in_ 2 rfl (.inl rfl)).2,W⟩;have C:=d.blk 1 rfl;have w:=d.blk 4 rfl;refine Au.heldZ (fun k=>k<Hq.size∧¬N_ (.slice ra row.length rc) k) [19] (sq [0,1,2,3,4,5,6,7,8,9,10,11,12,13,14,15] (.f 16 (.f 17 (sq [18] (.f 19 .e))))) rfl (by kernel_rfl) (fa ?_);refine B_ (C.cellE rfl) qn (fa ?_);refine B_ (w.cellE rfl) X (fa ?_);refine B_ (C.cellE rfl) qn (fa ?_);refine B_ (w.cellE rfl) X (ix DS (by omega) (by omega) (B_ (d.tcell 2 rfl m (by rw[P_,Yb3])) qt (fa ?_)));refine B_ (w.cellE rfl) X (Az AO [C_ e.to] rfl rfl (by decide) (by decide) ?_);intro bh H11 D ai E g;have F:=d.skip D g;refine⟨g.mono fun k u=>by have:=u.1;omega,?_⟩;refine Ac1 (ds:=[C_ e.to]) (y:=e.to) F 2 AO rfl m b (E.cells fun j v N=>by rw[P_];exact N) ⟨rfl,a9.2⟩ rfl (by omega) (by decide) fun wa wc H12 mid G=>?_;refine⟨(g.mono fun k u=>by have:=u.1;omega).trans (G.mono fun k u=>⟨by have:=u.1;omega,u.2⟩),?_⟩;refine ix DS (by omega) (by omega) (Zac mid (by rw[P_,Yb3]) fun H13 I=>?_);have Y:keyS a e=some (e.fr.toNat,e.to):=by unfold keyS okE;rw[J,ht,O];rfl
          have Z:IR a e=none:=by unfold IR okE;rw[J,ht,O];rfl
          have g1:=Mz Y b;have g2:=Fi (n:=n) (l:=a.edges.take i) Z;rw[←Ai he]at g1 g2;(conv=>whnf);rw[R_ i (by omega)];refine⟨rfl,i+1,by simp,⟨by omega,vs.set e.fr.toNat (.slice wa (row.length+1) wc),vt,?_⟩,by omega⟩;rw[g1,g2];exact I.pick [0,1,2,3] (by decide)
        | false=>
          (conv=>whnf);have⟨row,b⟩:=Am (l:=grp n (IR a) (a.edges.take i)) (k:=e.fr.toNat) (by rw[CK];omega);have bf:row.length≤i:=by
           rw[GQ _ _ (show e.fr.toNat<n by omega)]at b;injection b with b
           rw[←b];exact YbC (Ycx _ _) (Yc3 _ _)
          obtain⟨ra,rc,m,-⟩:=d.row 3 rfl b;have W:=d.rowNe 3 rfl m b;have t:∀k,N_ (.slice ra row.length rc) k→(pT tEd 332 302 tb vt (grp n (IR a) (a.edges.take i))).foot k:=fun k u=>.inr ⟨e.fr.toNat,_,m,u⟩;have d1:=d.apart2 (i:=1) (j:=3) rfl rfl (by decide);have d4:=d.apart2 (i:=4) (j:=3) rfl rfl (by decide);have qn:nb<Hq.size∧¬N_ (.slice ra row.length rc) nb:=⟨(d.in_ 1 rfl rfl).2,fun h=>d1 nb rfl (t nb h)⟩;have X:x<Hq.size∧¬N_ (.slice ra row.length rc) x:=⟨(d.in_ 4 rfl rfl).2,fun h=>d4 x rfl (t x h)⟩;have qt:tb<Hq.size∧¬N_ (.slice ra row.length rc) tb:=⟨(d.in_ 3 rfl (.inl rfl)).2,W⟩;have C:=d.blk 1 rfl;have w:=d.blk 4 rfl;refine Au.heldZ (fun k=>k<Hq.size∧¬N_ (.slice ra row.length rc) k) [18] (sq [0,1,2,3,4,5,6,7,8,9,10,11,12,13,14] (.f 15 (.f 16 (sq [17] (.f 18 .e))))) rfl (by kernel_rfl) (fa ?_);refine B_ (C.cellE rfl) qn (fa ?_);refine B_ (w.cellE rfl) X (fa ?_);refine B_ (C.cellE rfl) qn (fa ?_);refine B_ (w.cellE rfl) X (ix R0 (by omega) (by omega) (B_ (d.tcell 3 rfl m (by rw[P_,Yb3])) qt ?_));refine L_ (cs:=edL e) (w.cells fun j v N=>by rw[P_];exact N) X ?_;refine Az JT (edL e) rfl rfl (by decide) (by decide) ?_;intro bh H11 D ai E g;have F:=d.skip D g;refine⟨g.mono fun k u=>by have:=u.1;omega,?_⟩;refine Ac1 (ds:=edL e) (y:=e) F 3 JT rfl m b (E.cells fun j v N=>by rw[P_];exact N) ⟨rfl,a9⟩ (OS e) (by omega) (by decide) fun wa wc H12 mid G=>?_;refine⟨(g.mono fun k u=>by have:=u.1;omega).trans (G.mono fun k u=>⟨by have:=u.1;omega,u.2⟩),?_⟩;refine ix R0 (by omega) (by omega) (Zac mid (by rw[P_,Yb3]) fun H13 I=>?_);have Y:IR a e=some (e.fr.toNat,e):=by unfold IR okE;rw[J,ht,O];rfl
          have Z:keyS a e=none:=by unfold keyS okE;rw[J,ht,O];rfl
          have g1:=Mz Y b;have g2:=Fi (n:=n) (l:=a.edges.take i) Z;rw[←Ai he]at g1 g2;(conv=>whnf);rw[R_ i (by omega)];refine⟨rfl,i+1,by simp,⟨by omega,vs,vt.set e.fr.toNat (.slice wa (row.length+1) wc),?_⟩,by omega⟩;rw[g1,g2];exact I.pick [0,1,2,3] (by decide)
   ·obtain rfl:i=a.edges.length:=by omega
    rw[YaB]at q;(conv=>whnf);refine⟨q.old,nb,some ⟨V,0,none⟩,n,some ⟨tb,0,none⟩,n,rfl,(q.in_ 1 rfl rfl).2,?_,?_,?_⟩
    ·rw[←T];exact(q.blk 1 rfl).cells fun j v N=>by rw[P_];exact N
    ·have:=q.tview 2 rfl (by rw[CK];unfold maxLen;omega);unfold AfF;rw[←T];rw[CK]at this;exact this
    ·have:=q.tview 3 rfl (by rw[CK];unfold maxLen;omega);unfold Nk;rw[←T];rw[CK]at this;exact this
section
attribute [local irreducible] AN
theorem Z0{S:Nat→Prop}{H:Aa}{v:v_}{o:Option AM}(x:∀k,S k→k<H.size)(h:Bc S H v o):
  Al prog 151 #[v] H fun y H'=>A_ (D_ H) H H'∧H.size≤H'.size∧M_ CP (fun _=>False) H' H.size 227 y (CB o):=by
 refine Al.of_vc func151 rfl (call151 _) ?_;cases o with
 | none=>
   obtain rfl:=h;refine XU P1 (Ak (Jf 0 255 (by decide) (by decide) H) fun H1 f=>?_);rw[Je];have z:=Ap f;refine Az Dg (An (Al6 256)) rfl rfl (by decide) (by decide) ?_;intro b H2 m g p d;(conv=>whnf);exact⟨f.trans (d.mono fun k j=>by unfold D_ at j;omega),by omega,M_.ofBlk (by omega) p (Ty.reps_one rfl) rfl (by decide)⟩
 | some A=>
   obtain⟨pb,rfl,t,l,E,F,G,I,J,K,L,M,al,m,e,q,u,B,w,r⟩:=h;have C:A.cell.length≤256:=Yb2 l.cell;have D:=l.sl;refine Px P1 (F_ ?_);refine B_ (by rw[m.cell];exact Lu) trivial ?_;refine Nq (T:=CP) (S:=S) (lo:=H.size) (xs:=[]) Dg O2 M_.nil (J_ _) (fun k j=>⟨x k j,?_⟩) e (by simp only[maxLen,J'];omega) (by simp only[J'];omega) ?_
   ·rintro⟨o,n,c,h⟩;cases h
   intro N H2 a d g _;rw[Ybj]at a;(conv=>whnf);exact⟨d.mono fun k j=>⟨j,fun m=>by have⟨o,n,c,h⟩:=m;cases h⟩,g,a.free Wa⟩
end
def IK(s b:BitVec 256):List (BitVec 256):=[b &&& s,b &&& ~~~s].filter fun x=> !decide (x=0)
def KZ(bl:List (BitVec 256))(s:BitVec 256):List (BitVec 256):=bl.flatMap (IK s)
def BT(sets:List (BitVec 256)):List (BitVec 256):=sets.foldl KZ [Al6 256]
def B0(bl:List (BitVec 256))(b:Nat):List (BitVec 256):=bl.filter fun s=>(AP s 0).1==b
def BA(sets:List (BitVec 256)):List (BitVec 256):=(Ah8 256).flatMap (B0 (BT sets))
def De(sets:List (BitVec 256)):List Nat:=(BA sets).map fun c=>(AP c 0).1
theorem UY(x:BitVec 256)(h:∀b,b<256→x.getLsbD b=false):x=0:=by
 apply Yah;intro i a;rw[h i a];simp
theorem Gp{x:BitVec 256}(h:x≠0):x.getLsbD (AP x 0).1=true∧∀b,b<(AP x 0).1→x.getLsbD b=false:=by
 unfold AP;cases e:(Ah8 256).find? fun b=>decide (0≤b)&&x.getLsbD b with
 | none=>
   exfalso;apply h;apply UY;intro b f;have:=List.find?_eq_none.1 e b (Ych.2 f);simpa using this
 | some c=>
   have g:=List.find?_some e;simp only[l_,decide_true,Yaq]at g;refine⟨g,fun b f=>?_⟩;have j:c<256:=by simpa using Ycu e
   obtain⟨_,i,k,a,d⟩:=List.find?_eq_some_iff_getElem.1 e;simp only[List.getElem_range]at a;subst a;have:=d b f;simpa using this
theorem AdZ(s b:BitVec 256):∀x∈IK s b,x≠0:=fun x a=>by
 have:=(YbV.1 a).2;simpa using this
theorem AdY(s b:BitVec 256){c:Nat}(h:b.getLsbD c=true):∃x∈IK s b,x.getLsbD c=true:=by
 have f:c<256:=by
  apply Classical.byContradiction;intro j;rw[BitVec.getLsbD_of_ge _ _ (by omega)]at h;cases h
 have a:∀x:BitVec 256,x.getLsbD c=true→x≠0:=fun x e g=>by rw[g]at e;simp at e
 cases hs:s.getLsbD c with
 | true=>
   have d:(b &&& s).getLsbD c=true:=by rw[YbP,h,hs];rfl
   exact⟨b &&& s,YbV.2 ⟨by simp,by rw[a_ (a _ d)];rfl⟩,d⟩
 | false=>
   have d:(b &&& ~~~s).getLsbD c=true:=by rw[YbP,YbQ,h,hs];simp[f]
   exact⟨b &&& ~~~s,YbV.2 ⟨by simp,by rw[a_ (a _ d)];rfl⟩,d⟩
theorem TM(s b:BitVec 256){x:BitVec 256}(a:x∈IK s b){c:Nat}(h:x.getLsbD c=true):b.getLsbD c=true:=by
 have:=(YbV.1 a).1;rcases Ybe.1 this with rfl | this
 ·rw[YbP,h_]at h;exact h.1
 ·rw[V_]at this;subst this;rw[YbP,h_]at h;exact h.1
theorem WP(s b:BitVec 256){x:BitVec 256}(f:x∈IK s b){c d:Nat}(h:x.getLsbD c=true)(k:x.getLsbD d=true):s.getLsbD c=s.getLsbD d:=by
 have:=(YbV.1 f).1;rcases Ybe.1 this with rfl | this
 ·rw[YbP,h_]at h k;rw[h.2,k.2]
 ·rw[V_]at this;subst this;rw[YbP,h_,YbQ]at h k;have a:=h.2;have e:=k.2;simp only[h_,Yap]at a e;rw[a.2,e.2]
theorem Vc{x:BitVec 256}(h:x≠0):1≤DH x:=by
 have b:=(Gp h).1;have c:=Ew x 0;unfold DH;exact Ycz (a:=(AP x 0).1) (YbV.2 ⟨Ych.2 c,b⟩)
theorem Mw(p q r:Nat→Bool):∀l:List Nat,(∀c∈l,(p c=true∧q c=false∧r c=true)∨(p c=false∧q c=true∧r c=true)∨(p c=false∧q c=false∧r c=false))→(l.filter p).length+(l.filter q).length=(l.filter r).length
 | [],_=>rfl
 | c::l,h=>by
   have f:=Mw p q r l fun d hd=>h d (YbX _ hd);rcases h c YbZ with⟨a,b,e⟩ | ⟨a,b,e⟩ | ⟨a,b,e⟩<;>simp only[Yci,a,b,e,if_true,Yao,if_false,j_]<;>omega
theorem Vb(s b:BitVec 256):DH (b &&& s)+DH (b &&& ~~~s)=DH b:=by
 unfold DH;refine Mw _ _ _ _ fun c a=>?_;have a:=Ych.1 a;have d:(b &&& s).getLsbD c=(b.getLsbD c&&s.getLsbD c):=YbP;have e2:(b &&& ~~~s).getLsbD c=(b.getLsbD c&& !s.getLsbD c):=by rw[YbP,YbQ];simp[a]
 rw[d,e2];cases b.getLsbD c<;>cases s.getLsbD c<;>simp
theorem Sk:DH 0=0:=by
 unfold DH;simp
theorem ZB(s b:BitVec 256):((IK s b).map DH).sum=DH b:=by
 rw[←Vb s b];unfold IK;have a:∀x:BitVec 256,(([x].filter fun x=> !decide (x=0)).map DH).sum=DH x:=fun x=>by
  by_cases h:x=0
  ·subst h;rw[Sk];rfl
  ·rw[YbU (by rw[a_ h];rfl)];simp
 rw[show [b &&& s,b &&& ~~~s]=[b &&& s]++[b &&& ~~~s]from rfl,Yce,Ybk,YcB,a,a]
structure Hy(bl sets:List (BitVec 256)):Prop where
 ne:∀x∈bl,x≠0
 all:∀c,c<256→∃x∈bl,x.getLsbD c=true
 same:∀x∈bl,∀c d,x.getLsbD c=true→x.getLsbD d=true→∀s∈sets,s.getLsbD c=s.getLsbD d
 sum:(bl.map DH).sum=256
theorem Hy.len{a sets:List (BitVec 256)}(h:Hy a sets):a.length≤256:=by
 refine YbC ?_ (Yb2 h.sum);have b:∀l:List (BitVec 256),(∀x∈l,x≠0)→l.length≤(l.map DH).sum:=by
  intro l
  induction l with
  | nil=>intro _;exact J_ _
  | cons x l c=>
    intro h;have:=c fun y d=>h y (YbX _ d);have:=Vc (h x YbZ);simp only[j_,YaQ,YcC];omega
 exact b a h.ne
theorem Hy.cut{j sets:List (BitVec 256)}(h:Hy j sets)(s:BitVec 256):Hy (KZ j s) (sets++[s]):=by
 refine⟨fun x a=>?_,fun c m=>?_,fun x a c d e g t f=>?_,?_⟩
 ·have⟨b,k,a⟩:=Ycd.1 a;exact AdZ s b x a
 ·have⟨b,k,l⟩:=h.all c m;have⟨x,a,e⟩:=AdY s b l;exact⟨x,Ycd.2 ⟨b,k,a⟩,e⟩
 ·have⟨b,k,a⟩:=Ycd.1 a;rcases q_.1 f with f | f
  ·exact h.same b k c d (TM s b a e) (TM s b a g) t f
  ·rw[V_]at f;subst f;exact WP t b a e g
 ·refine Eq.trans ?_ h.sum;unfold KZ;clear h
  induction j with
  | nil=>rfl
  | cons b j n=>
    rw[YbY,Ybk,YcB,n,ZB,YaQ,YcC]
theorem Iw(sets:List (BitVec 256)):Hy (BT sets) sets:=by
 have b:∀(rest done a:List (BitVec 256)),Hy a done→Hy (rest.foldl KZ a) (done++rest):=by
  intro rest
  induction rest with
  | nil=>intro done a h;simpa using h
  | cons s rest f=>
    intro done a h;have:=f (done++[s]) (KZ a s) (h.cut s);simpa using this
 refine b sets [] [Al6 256] ⟨fun x e=>?_,fun c g=>⟨_,V_.2 rfl,by rw[Yaj];exact g_ g⟩,fun x e c d _ _ s hs=>(by cases hs),by kernel_rfl⟩;rw[V_]at e;subst e;decide
theorem Lb(sets:List (BitVec 256)):(De sets).Pairwise (·≤·):=by
 unfold De BA;rw[Yc6];have a:∀b x,x∈B0 (BT sets) b→(AP x 0).1=b:=fun b x c=>by
  have:=(YbV.1 c).2;simpa using this
 have e:∀l:List Nat,l.Pairwise (·<·)→(l.flatMap (B0 (BT sets))).Pairwise fun x y=>(AP x 0).1≤(AP y 0).1:=by
  intro l
  induction l with
  | nil=>intro _;exact List.Pairwise.nil
  | cons b l g=>
    intro h;have⟨j,k⟩:=Yct.1 h;rw[YbY,Ycj];refine⟨?_,g k,fun x c y d=>?_⟩
    ·refine List.pairwise_of_forall_mem_list fun x c y d=>?_;rw[a b x c,a b y d];exact J_ _
    ·have⟨b',f,d⟩:=Ycd.1 d;rw[a b x c,a b' y d];exact Nat.le_of_lt (j b' f)
 exact e _ Yc0
theorem P6(sets:List (BitVec 256)):∀r∈De sets,r<256:=fun r a=>by
 obtain⟨x,-,rfl⟩:=Ycp.1 a;exact Ew x 0
theorem Yj(sets:List (BitVec 256)){c:Nat}(d:c<256):∃r∈De sets,r≤c∧∀s∈sets,s.getLsbD r=s.getLsbD c:=by
 have h:=Iw sets;have⟨x,b,a⟩:=h.all c d;have⟨l1,l2⟩:=Gp (h.ne x b);refine⟨(AP x 0).1,Ycp.2 ⟨x,Ycd.2 ⟨(AP x 0).1,Ych.2 (Ew x 0),YbV.2 ⟨b,by simp⟩⟩,rfl⟩,?_,fun s hs=>h.same x b _ _ l1 a s hs⟩;apply Classical.byContradiction;intro e;have:=l2 c (by omega);rw[a]at this;cases this
theorem Mv(k:Nat):∀n,((Ah8 n).filter fun b=>k==b).length=if k<n then 1 else 0
 | 0=>rfl
 | n+1=>by
   rw[Yco,Yce,Q_,Mv k n,Yci,YcA];cases a:(k==n)with
   | true=>
     have h:=beq_iff_eq.1 a;subst h;simp
   | false=>
     have h:k≠n:=fun h=>by rw[h]at a;simp at a
     rw[G_ (show¬(false=true) by decide)];by_cases c:k<n
     ·rw[I_ c,I_ (show k<n+1 by omega)]<;>rfl
     ·rw[G_ c,G_ (show¬k<n+1 by omega)]<;>rfl
theorem reps_len(sets:List (BitVec 256)):(BA sets).length≤256:=by
 have h:=(Iw sets).len;have c:∀(a:List (BitVec 256)),((Ah8 256).flatMap (B0 a)).length=a.length:=by
  intro a
  induction a with
  | nil=>
    have:∀l:List Nat,l.flatMap (B0 [])=[]:=fun l=>by simp[B0]
    rw[this]
  | cons x a d=>
    have e:∀l:List Nat,(l.flatMap (B0 (x::a))).length=(l.flatMap (B0 a)).length+(l.filter fun b=>(AP x 0).1==b).length:=by
     intro l
     induction l with
     | nil=>rfl
     | cons b l d=>
       rw[YbY,YbY,Q_,Q_,d,Yci];have:(B0 (x::a) b).length=(B0 a b).length+if((AP x 0).1==b)=true then 1 else 0:=by
        unfold B0;rw[Yci];split<;>simp
       rw[this];split<;>simp<;>omega
    rw[e,d,j_]
    congr 1
    rw[Mv,I_ (Ew x 0)]
 unfold BA;rw[c];exact h
theorem E_.newCap{α:Type}{T:Ty α}{e:x_}{B:Nat→Prop}{H0 H H':Aa}{ps:List Pc}{b cap:Nat}{l:List v_}(d:E_ B H0 H ps)(f:b=H.size)(hs:H'.size=b+1)(a:K_ H' b e l)(g:A_ (fun k=>k<b) H H')(j:l.length=cap*T.size)(m:cap≤maxLen):E_ B H0 H' (ps++[pS T e (b_ b) 0 cap []]):=by
 subst f;have h:=Sl.made (sz:=T.size) (n:=0) (cap:=cap) (l_ _) a (l_ _) m j;rw[Nat.zero_mul,Ycr]at h;refine d.add (g.mono fun k a=>a) _ ⟨⟨[],h,rfl⟩,fun k a=>a.elim⟩ fun k a=>?_;rcases a with⟨o,p,c,h⟩ | h
 ·cases h;omega
 ·exact h.elim
theorem WO(s b:BitVec 256):(IK s b).length≤2:=YbC (Ycg _ _) (J_ 2)
theorem Oi(s:BitVec 256):∀a:List (BitVec 256),(a.flatMap (IK s)).length≤2*a.length
 | []=>J_ _
 | b::a=>by
   have c:=Oi s a;have d:=WO s b;rw[YbY,Q_,j_];omega
theorem KF{α β:Type}(f:α→List β){l:List α}{k:Nat}{x:α}(h:l[k]?=some x):(l.take (k+1)).flatMap f=(l.take k).flatMap f++f x:=by
 rw[Ai h,Yck];simp
theorem Qu{sets:List (BitVec 256)}{k:Nat}{s:BitVec 256}(h:sets[k]?=some s):BT (sets.take (k+1))=(BT (sets.take k)).flatMap (IK s):=by
 unfold BT;rw[Ai h,Yca];rfl
theorem AiM:(prog.info? 287).bind (·.zero)=some (.agg #[.int .u64 0,.int .u64 0,.int .u64 0,.int .u64 0,.int .u64 0,.int .u64 0,.int .u64 0,.int .u64 0]):=by kernel_rfl
theorem AgW(x y:BitVec 256):Instr.fill (fun i=>some (i*4,4)) (Value.agg #[.int .u64 0,.int .u64 0,.int .u64 0,.int .u64 0,.int .u64 0,.int .u64 0,.int .u64 0,.int .u64 0]).cells [(0,Bf x),(1,Bf y)]=some (An x++An y).toArray:=by
 unfold Bf An;generalize wd x 0=a;generalize wd x 1=a1;generalize wd x 2=a2;generalize wd x 3=a3;generalize wd y 0=b;generalize wd y 1=c;generalize wd y 2=d;generalize wd y 3=e;simp[Instr.fill,Value.cells]
theorem JU(s:BitVec 256):As (An 0) 0 (An s)=An s:=by simp[As,An]
theorem Mi{S:Nat→Prop}{H:Aa}{sa:Option Addr}{sc:Nat}{sets:List (BitVec 256)}(hS:∀k,S k→k<H.size)(h:S_ CP S H sa sc sets)(c5:sets.length≤33554432):
  Al prog 152 #[.slice sa sets.length sc] H fun v H'=>A_ (D_ H) H H'∧∃a cap,v= .slice a (BA sets).length cap∧S_ CP (D_ H') H' a cap (BA sets):=by
 refine Al.of_vc func152 rfl (call152 _) (Ak (Jf 0 255 (by decide) (by decide) H) fun H1 aw=>?_);rw[Je];have st1:=(St.nil H).call aw;refine Az Dg (An (Al6 256)) rfl rfl (by decide) (by decide) ?_;intro b2 H2 ay az b5 b6;have b7:=st1.new (T:=CP) (n:=1) (xs:=[Al6 256]) ay az b5 b6 (Ty.reps_one rfl) rfl (by decide);(conv=>whnf);refine A8.mk [3,21] (fun x:Nat×List (BitVec 256)×Option Addr×Nat=>match x with | (k,g,a,c)=>[.slice a g.length c,C_ k])
  (fun x H3=>x.1≤sets.length∧x.2.1=BT (sets.take x.1)∧St H H3 [pS CP 227 x.2.2.1 x.2.1.length x.2.2.2 x.2.1]) (fun x _=>sets.length-x.1) ?_ ?_
 ·(conv=>whnf);exact⟨(0,[Al6 256],some ⟨b2,0,none⟩,1),rfl,by simp,rfl,b7⟩
 ·rintro⟨k,g,a3,c3⟩ H3 bv ⟨hk,E,J⟩;simp only at hk E J;have L:=Iw (sets.take k);rw[←E]at L;have bw:=L.len;refine Ag.m2 (fun hz=>?_) (fun hz=>?_)
  ·have⟨s,hs⟩:=Am (l:=sets) (k:=k) (by omega);have F:=Qu hs;rw[←E]at F;refine u_ (i:=k) Dg (h.frame (J.old.mono hS)) hs rfl ?_;rintro b4 o4 c8 bx G rfl;refine L_ (cs:=An s) G trivial (Aw (Bf 0) (An 0) rfl rfl ?_);intro p5 H5 M N K O;have P:=J.box M N K O;refine AD (cs:=An s) P 1 rfl rfl (show 0+4≤4 by decide) rfl fun H6 B=>?_;rw[JU]at B;(conv=>whnf);refine A8.mk [6,27] (fun x:Nat×List (BitVec 256)×Option Addr×Nat=>match x with | (j,nx,a,c)=>[.slice a nx.length c,C_ j])
    (fun x H7=>x.1≤g.length∧x.2.1=(g.take x.1).flatMap (IK s)∧St H H7 [pS CP 227 a3 g.length c3 g,pB 227 p5 (An s),pS CP 227 x.2.2.1 x.2.1.length x.2.2.2 x.2.1]) (fun x _=>g.length-x.1) ?_ ?_
   ·(conv=>whnf);exact⟨(0,[],none,0),rfl,by simp,rfl,E_.nils B CP 227⟩
   ·rintro⟨j,nx,a7,c7⟩ H7 Q ⟨hj,r,w⟩;simp only at hj r w;refine Ag.m2 (fun R=>?_) (fun R=>?_)
    ·have⟨b,hb⟩:=Am (l:=g) (k:=j) (by omega);have b9:=Oi s (g.take j);rw[←r,YaN]at b9;refine ixO (j:=j) Dg w 0 rfl hb rfl fun b8 o8 bd be U V=>?_;obtain rfl:=V;refine L_ (cs:=An b) U trivial (Aw (Bf 0) (An 0) rfl rfl ?_);intro p9 H9 bf bh bj bn;have W:=w.box bf bh bj bn;refine AD (cs:=An b) W 3 rfl rfl (show 0+4≤4 by decide) rfl fun H10 q=>?_;rw[JU]at q;refine Au.held (D_ H10) 99 (sq [0,1,3,4,7] (.f 2 (.f 5 (sq [6] .e)))) rfl (by kernel_rfl) ?_;have q5:=q.blk 1 rfl;have q9:=q.blk 3 rfl;refine L_ (cs:=An b) (q9.cells fun j v t=>by rw[P_];exact t) q9.lt ?_;refine L_ (cs:=An s) (q5.cells fun j v t=>by rw[P_];exact t) q5.lt ?_;refine L_ (cs:=An b) (q9.cells fun j v t=>by rw[P_];exact t) q9.lt ?_;refine L_ (cs:=An s) (q5.cells fun j v t=>by rw[P_];exact t) q5.lt ?_;refine Ak (SF b s H10) fun H11 u=>?_;have y:=q.call u;refine⟨u,?_⟩;refine Ak (AaN b s H11) fun H12 C=>?_;have I:=y.call C;refine⟨u.trans (C.mono fun k hk=>Ae u hk),?_⟩;refine EU Ac3 _ AiM (An (b &&& s)++An (b &&& ~~~s)) (AgW _ _) ?_;have a0:IK s b=[b &&& s,b &&& ~~~s].filter fun x=> !decide (x=0):=rfl;generalize b &&& s=x0 at*;generalize b &&& ~~~s=x1 at*;(conv=>whnf);refine A8.mk [6,38] (fun x:Nat×List (BitVec 256)×Option Addr×Nat=>match x with | (i,nx,a,c)=>[.slice a nx.length c,C_ i])
      (fun x H13=>x.1≤2∧x.2.1=nx++([x0,x1].take x.1).filter (fun x=> !decide (x=0))∧x.2.1.length≤nx.length+x.1∧St H H13 [pS CP 227 a3 g.length c3 g,pB 227 p5 (An s),pS CP 227 x.2.2.1 x.2.1.length x.2.2.2 x.2.1,pB 227 p9 (An b)]) (fun x _=>2-x.1) ?_ ?_
     ·(conv=>whnf);exact⟨(0,nx,a7,c7),rfl,by simp,by simp,by simp,I⟩
     ·rintro⟨i,ny,a5,a8⟩ H13 au ⟨hi,X,a9,z⟩;simp only at hi X a9 z;refine Ag.m2 (fun Y=>?_) (fun Y=>?_)
      ·have bo:i=0∨i=1:=by omega
       obtain⟨x,hx⟩:∃x,[x0,x1][i]?=some x:=Am (by simp;omega);have e:Value.agg (((An x0++An x1).toArray).extract ((i:Int).toNat*4) ((i:Int).toNat*4+4))=Bf x:=by
        rcases bo with rfl | rfl<;>cases hx<;>rfl
       have m:nx++([x0,x1].take (i+1)).filter (fun x=> !decide (x=0))=ny++[x].filter (fun x=> !decide (x=0)):=by
        rw[X,Ai hx,Yce,YaC]
       refine Af.run (ixvN (i:=(i:Int)) Ac3 (by omega) (show(i:Int)<((2:Nat):Int) by omega) ?_);rw[e];refine BV z (Bf 0) (An 0) rfl rfl fun c9 H14 ab=>(AD (cs:=An x) ab 4 rfl rfl (show 0+4≤4 by decide) rfl fun H15 D=>?_);rw[JU]at D;have ad:=D.blk 4 rfl;refine L_ (cs:=An x) (ad.cells fun j v t=>by rw[P_];exact t) trivial ?_;refine EU BK (Bf 0) rfl (An 0) rfl (PF x 0 ?_);by_cases ae:x=0
       ·have d:(!decide (x=0))=false:=by rw[g_ ae];rfl
        rw[d];have Z:[x].filter (fun x=> !decide (x=0))=[]:=YbW (p:=fun x=> !decide (x=0)) (by rw[d];decide);rw[Z,Yba]at m;(conv=>whnf);rw[R_ i (by omega)];refine⟨rfl,(i+1,ny,a5,a8),by simp,⟨by simp only;omega,m.symm,by simp only;omega,?_⟩,by simp only;omega⟩;exact D.pick [0,1,2,3] (by decide)
       ·have d:(!decide (x=0))=true:=by rw[a_ ae];rfl
        rw[d];have Z:[x].filter (fun x=> !decide (x=0))=[x]:=YbU (p:=fun x=> !decide (x=0)) d;rw[Z]at m;refine L_ (cs:=An x) (ad.cells fun j v t=>by rw[P_];exact t) trivial ?_;refine Az Dg (An x) rfl rfl (by decide) (by decide) ?_;intro cb H16 ah bz ai aj;have ak:=D.skip ah aj;refine Qn (ys:=[x]) (ds:=An x) ak 2 Dg rfl (ai.cells fun j v t=>by rw[P_];exact t) (Ty.reps_one rfl) rfl (by simp[An,Value.oneCell']) (by simp only[k_];omega) (by decide) fun a' c' H17 am _=>?_;(conv=>whnf);rw[R_ i (by omega)];refine⟨rfl,(i+1,ny++[x],a',c'),by simp,⟨by simp only;omega,m.symm,by simp only[Q_,k_];omega,?_⟩,by simp only;omega⟩;simp only[Q_];exact am.pick [0,1,2,3] (by decide)
      ·obtain rfl:i=2:=by omega
       have bp:ny=(g.take (j+1)).flatMap (IK s):=by
        rw[KF (IK s) hb,←r,X,a0];rfl
       (conv=>whnf);rw[R_ j (by omega)];refine⟨rfl,(j+1,ny,a5,a8),by simp,⟨by simp only;omega,bp,?_⟩,by simp only;omega⟩;exact z.pick [0,1,2] (by decide)
    ·obtain rfl:j=g.length:=by omega
     rw[YaB]at r;(conv=>whnf);rw[R_ k (by omega)];refine⟨rfl,(k+1,nx,a7,c7),by simp,⟨by simp only;omega,by simp only;rw[F,r],?_⟩,by simp only;omega⟩;exact w.pick [2] (by decide)
  ·obtain rfl:k=sets.length:=by omega
   rw[YaB]at E L;have c2:∀x:BitVec 256,((AP x 0).1:Int)=((AP x 0).1:Int):=fun _=>rfl;refine YS Dg (by omega) (by omega) (by omega) (by omega) ?_;intro p5 H5 M N K O;rw[Yau]at K;rw[Yau,Int.toNat_zero];have P:=J.newCap (T:=CP) (cap:=g.length) M N K O (by simp[CP]) (by unfold maxLen;omega);have cd:=reps_len sets;(conv=>whnf);refine A8.mk [11,55] (fun x:Nat×List (BitVec 256)×Option Addr×Nat=>match x with | (b,out,a,c)=>[.slice a out.length c,C_ b])
    (fun x H6=>x.1≤256∧x.2.1=(Ah8 x.1).flatMap (B0 g)∧St H H6 [pS CP 227 a3 g.length c3 g,pS CP 227 x.2.2.1 x.2.1.length x.2.2.2 x.2.1]) (fun x _=>256-x.1) ?_ ?_
   ·(conv=>whnf);exact⟨(0,[],some ⟨p5,0,none⟩,g.length),rfl,by simp,rfl,P⟩
   ·rintro⟨b,out,a6,c6⟩ H6 bq ⟨hb,A,B⟩;simp only at hb A B;have ce:out.length≤b*256:=by
     rw[A];clear A
     induction b with
     | zero=>simp
     | succ b ih=>
       have h1:=ih (by omega);have h2:(B0 g b).length≤g.length:=Ycg _ _;rw[Yco,Yck,Q_];simp only[YbY,List.flatMap_nil,Yba];omega
    refine Ag.m2 (fun R=>?_) (fun R=>?_)
    ·have m:(Ah8 (b+1)).flatMap (B0 g)=out++B0 g b:=by
      rw[A,Yco,Yck];simp
     (conv=>whnf);refine A8.mk [11,60] (fun x:Nat×List (BitVec 256)×Option Addr×Nat=>match x with | (j,o,a,c)=>[.slice a o.length c,C_ j])
      (fun x H7=>x.1≤g.length∧x.2.1=out++(g.take x.1).filter (fun s=>(AP s 0).1==b)∧x.2.1.length≤out.length+x.1∧St H H7 [pS CP 227 a3 g.length c3 g,pS CP 227 x.2.2.1 x.2.1.length x.2.2.2 x.2.1]) (fun x _=>g.length-x.1) ?_ ?_
     ·(conv=>whnf);exact⟨(0,out,a6,c6),rfl,by simp,by simp,by simp,B⟩
     ·rintro⟨j,o,a7,c7⟩ H7 Q ⟨hj,ho,br,w⟩;simp only at hj ho br w;refine Ag.m2 (fun Y=>?_) (fun Y=>?_)
      ·have⟨x,hx⟩:=Am (l:=g) (k:=j) (by omega);have r:out++(g.take (j+1)).filter (fun s=>(AP s 0).1==b)=o++[x].filter (fun s=>(AP s 0).1==b):=by
        rw[ho,Ai hx,Yce,YaC]
       refine Af.run (ixO (j:=j) Dg w 0 rfl hx rfl fun b8 o8 bd be U V=>?_);obtain rfl:=V;refine L_ (cs:=An x) U trivial (BV w (Bf 0) (An 0) rfl rfl fun p9 H9 W=>(AD (cs:=An x) W 2 rfl rfl (show 0+4≤4 by decide) rfl fun H10 q=>?_));rw[JU]at q;refine L_ (cs:=An x) ((q.blk 2 rfl).cells fun j v t=>by rw[P_];exact t) trivial ?_;refine Ak (SL x 0 (by decide) H10) fun H11 u=>?_;have y:=q.call u;have bu:=y.blk 2 rfl;have cg:=Ew x 0;(conv=>whnf);rw[n_ (x:=((AP x 0).1:Int)) (by omega)];cases hd:((AP x 0).1==b)with
       | false=>
         have d:(((AP x 0).1:Int)==(b:Int))=false:=by
          rw[beq_eq_false_iff_ne]at hd ⊢;omega
         have Z:[x].filter (fun s=>(AP s 0).1==b)=[]:=YbW (p:=fun s=>(AP s 0).1==b) (by rw[hd];decide);rw[Z,Yba]at r;(conv=>whnf);rw[d];(conv=>whnf);rw[R_ j (by omega)];refine⟨rfl,(j+1,o,a7,c7),by simp,⟨by simp only;omega,r.symm,by simp only;omega,?_⟩,by simp only;omega⟩;exact y.pick [0,1] (by decide)
       | true=>
         have d:(((AP x 0).1:Int)==(b:Int))=true:=by
          rw[beq_iff_eq]at hd ⊢;omega
         have Z:[x].filter (fun s=>(AP s 0).1==b)=[x]:=YbU (p:=fun s=>(AP s 0).1==b) hd;rw[Z]at r;(conv=>whnf);rw[d];refine L_ (cs:=An x) (bu.cells fun j v t=>by rw[P_];exact t) trivial ?_;refine Az Dg (An x) rfl rfl (by decide) (by decide) ?_;intro ch H12 ao c4 ap C;have I:=y.skip ao C;refine Qn (ys:=[x]) (ds:=An x) I 1 Dg rfl (ap.cells fun j v t=>by rw[P_];exact t) (Ty.reps_one rfl) rfl (by simp[An,Value.oneCell']) (by simp only[k_];omega) (by decide) fun a' c' H13 z _=>?_;(conv=>whnf);rw[R_ j (by omega)];refine⟨rfl,(j+1,o++[x],a',c'),by simp,⟨by simp only;omega,r.symm,by simp only[Q_,k_];omega,?_⟩,by simp only;omega⟩;simp only[Q_];exact z.pick [0,1] (by decide)
      ·obtain rfl:j=g.length:=by omega
       rw[YaB]at ho;(conv=>whnf);rw[R_ b (by omega)];exact⟨rfl,(b+1,o,a7,c7),by simp,⟨by simp only;omega,by simp only;rw[m,ho];rfl,w⟩,by simp only;omega⟩
    ·obtain rfl:b=256:=by omega
     have aq:out=BA sets:=by rw[A,E];rfl
     have t:=B.view 1 rfl;subst aq;(conv=>whnf);exact⟨B.old,_,_,rfl,t⟩
end Go.Proofs.YtdopnglgekglgaaGreatDoor
