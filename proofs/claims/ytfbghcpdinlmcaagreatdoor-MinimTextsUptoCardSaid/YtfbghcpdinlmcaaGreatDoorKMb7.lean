import Derived.Test.YtfbghcpdinlmcaaGreatDoorKMb6
import Derived.Shelf.Strings.BuilderK
import Derived.Shelf.Strconv.Itoa3
import Derived.Test.YtfbghcpdinlmcaaGreatDoorRows
import Derived.Lib.LaidTab
import Derived.OpenShut
import Derived.ChangeSame
import Derived.Deep.DeepHandedRow
import Derived.ProofKit
import Derived.JoinedCond
import Derived.WideKeyArgs
set_option maxHeartbeats 0
open List renaming replicate → Aj1, range → AjM, cons → AkV
open Option renaming some → Ak5
set_option maxRecDepth 100000
open Go.Proofs.Tryz
open Go renaming Value → v_, Program → w_, TypeId → x_, World → y_, Operand → z_
namespace Go.Proofs.YtfbghcpdinlmcaaGreatDoor
open Go.VC
def bdX(er:Int)(n:Nat)(v sub:v_):List v_:=[A_ n,A_ 0,A_ 0,v,sub,A_ er]
theorem KS{p q:Nat}(a:p≤4398046511104)(b:q≤4398046511104)(s:Bool)(t:BitVec 256):(Y'.mk p q s t).Ok:=⟨BX (by omega),BX (by omega)⟩
section
variable{B:Nat→Prop}{H0 H:Aa}{rest:List Pc}{bb n:Nat}{v sub:v_}{er:Int}
section
variable{K:v_→Aa→Prop}
theorem Dg(st:B_ B H0 H (pB tBd bb (bdX er n v sub)::rest))(c:n≤4398046511104)(k:∀H',B_ B H0 H' (pB tBd bb (bdX er (n+1) v sub)::rest)→K (.int .i64 (n:Int)) H'):
  Ae prog 175 #[U_ bb] H K:=by
 refine Ae.mk (R:=fun r H'=>r= .int .i64 (n:Int)∧B_ B H0 H' (pB tBd bb (bdX er (n+1) v sub)::rest)) ?_ fun r H' ⟨a,b⟩=>by rw[a];exact k H' b
 refine Ak.of_vc func175 rfl (call175 _) (fa Cd (fa E8 ?_));refine lT (v:=A_ n) E_ ((st.blk 0 rfl).ce rfl) ?_;(conv=>whnf);rw[P_ n (by omega)];refine fa Cd (fa E8 (Bh st 0 E_ rfl (show 0<6 by decide) rfl fun H1 st1=>(fa Cd (fa E8 ?_))));refine lT (v:=A_ ((n:Int)+1)) E_ ((st1.blk 0 rfl).ce rfl) ?_;(conv=>whnf);rw[W_ (x:=(n:Int)+1-1) (by omega),show(n:Int)+1-1=(n:Int) by omega];(conv=>whnf);exact⟨rfl,st1⟩
theorem BU{a:Option Addr}{c p q:Nat}{es:List Y'}(st:B_ B H0 H (pB tBd bb (bdX er n (.slice a es.length c) sub)::pS tEd 174 a es.length c es::rest))(h:p≤4398046511104)(i:q≤4398046511104)(D:es.length+1≤1099511627776)
  (k:∀a' d H',B_ B H0 H' (pB tBd bb (bdX er n (.slice a' (es++[AW p q]).length d) sub)::pS tEd 174 a' (es++[AW p q]).length d (es++[AW p q])::rest)→K (.tuple #[]) H'):
  Ae prog 176 #[U_ bb,A_ p,A_ q] H K:=by
 refine Ae.mk (R:=fun r H'=>r= .tuple #[]∧∃a' d,B_ B H0 H' (pB tBd bb (bdX er n (.slice a' (es++[AW p q]).length d) sub)::pS tEd 174 a' (es++[AW p q]).length d (es++[AW p q])::rest)) ?_ fun r H' ⟨l,a',d,m⟩=>by rw[l];exact k a' d H' m
 refine Ak.of_vc func176 rfl (call176 _) (fa Cd (fa ES ?_));refine lT (v:=.slice a es.length c) IW ((st.blk 0 rfl).ce rfl) ?_;refine Qp p q (Ay Jx (edL (AW p q)) rfl rfl (by decide) (by decide) ?_);intro y H1 s t e f;have st1:=st.skip s f;refine Kj (ys:=[AW p q]) st1 1 Jx rfl (e.cells (o:=0) (cs:=edL (AW p q)) fun j v w=>by rw[K_];exact w) (Ty.reps_one ⟨rfl,KS h i _ _⟩) rfl (fun u x=>Ybl.1 (JL _) u x) (by unfold maxLen;simp;omega) (by simp;omega) fun z A H9 g _=>?_;refine fa Cd (fa ES (Bh g 0 IW rfl (show 3<6 by decide) rfl fun H10 b=>?_));(conv=>whnf);have C:es.length+[AW p q].length=(es++[AW p q]).length:=by simp
 rw[C]at b;exact⟨rfl,z,A,b⟩
theorem Ss{a:Option Addr}{c:Nat}{es:List Y'}{s:BitVec 256}(st:B_ B H0 H (pB tBd bb (bdX er n (.slice a es.length c) sub)::pS tEd 174 a es.length c es::rest))(W:n≤2199023255552)(X:es.length+1≤1099511627776)
  (k:∀a' g H',B_ B H0 H' (pB tBd bb (bdX er (n+2) (.slice a' (es++[D2 n (n+1) s]).length g) sub)::pS tEd 174 a' (es++[D2 n (n+1) s]).length g (es++[D2 n (n+1) s])::rest)→K (.tuple #[A_ n,A_ ((n+1:Nat):Int)]) H'):
  Ae prog 177 #[U_ bb,Bt s] H K:=by
 refine Ae.mk (R:=fun r H'=>r= .tuple #[A_ n,A_ ((n+1:Nat):Int)]∧∃a' g,B_ B H0 H' (pB tBd bb (bdX er (n+2) (.slice a' (es++[D2 n (n+1) s]).length g) sub)::pS tEd 174 a' (es++[D2 n (n+1) s]).length g (es++[D2 n (n+1) s])::rest)) ?_ fun r H' ⟨M,a',g,N⟩=>by rw[M];exact k a' g H' N
 refine Ak.of_vc func177 rfl (call177 _) (Ct (Ad s) rfl ?_);intro x H1 O t w z;have st1:=(st.box O t w z).perm (YdF _ _);have A:B_ B H0 H1 (pB tBd bb (bdX er n (.slice a es.length c) sub)::pB 101 x (Ad s)::pS tEd 174 a es.length c es::rest):=st1.perm (List.Perm.swap _ _ _);refine Dg A (by omega) fun H3 C=>(Dg C (by omega) fun H4 b=>?_);have q:=b.apart2 (i:=0) (j:=2) rfl rfl (by decide);have l:=b.apart2 (i:=1) (j:=2) rfl rfl (by decide);refine Aq.heldZ (fun k=>k<H4.size∧¬a_ (.slice a es.length c) k) [15] (sq [0,1,2,3,4,5,6,7,8,9] (.f 10 (.f 11 (sq [12,13,14] (.f 15 .e))))) rfl (by kernel_rfl) ?_;have D:bb<H4.size∧¬a_ (.slice a es.length c) bb:=⟨(b.in_ 0 rfl rfl).2,fun h=>q bb rfl (.inl h)⟩;have E:x<H4.size∧¬a_ (.slice a es.length c) x:=⟨(b.in_ 1 rfl rfl).2,fun h=>l x rfl (.inl h)⟩;refine fa Cd (fa ES ?_);refine G_ (v:=.slice a es.length c) IW ((b.blk 0 rfl).ce rfl) D ?_;refine L_ (cs:=Ad s) AT ((b.blk 1 rfl).cells fun j v F=>by rw[K_];exact F) E ?_;refine Qm n (n+1) s (Ay Jx (edL (D2 n (n+1) s)) rfl rfl (by decide) (by decide) ?_);intro y H5 P Q G m;have I:=b.skip P m;refine⟨m.mono fun k p=>by have:=p.1;omega,?_⟩;refine Kj (ys:=[D2 n (n+1) s]) I 2 Jx rfl (G.cells (o:=0) (cs:=edL (D2 n (n+1) s)) fun j v F=>by rw[K_];exact F) (Ty.reps_one ⟨rfl,KS (by omega) (by omega) _ _⟩) rfl (fun u S=>Ybl.1 (JL _) u S) (by unfold maxLen;simp;omega) (by simp;omega) fun T U H9 J L=>?_;refine⟨(m.mono fun k p=>by have:=p.1;omega).trans (L.mono fun k p=>⟨by have:=p.1;omega,p.2⟩),?_⟩;refine fa Cd (fa ES (Bh J 0 IW rfl (show 3<6 by decide) rfl fun H10 d=>?_));(conv=>whnf);have V:es.length+[D2 n (n+1) s].length=(es++[D2 n (n+1) s]).length:=by simp
 rw[V]at d;exact⟨rfl,T,U,(d.perm (List.Perm.swap _ _ _)).sub (YdE _ _)⟩
end
end
abbrev bdQ(bb:Nat)(er:Int)(n:Nat)(sub:v_)(a:Option Addr)(c:Nat)(es:List Y')(rest:List Pc):List Pc:=pB tBd bb (bdX er n (.slice a es.length c) sub)::pS tEd 174 a es.length c es::rest
theorem Nm:(prog.info? 64).bind (·.zero)=some (.agg #[.nilIface,.nilIface]):=rfl
theorem R4:(prog.info? 65).bind (·.zero)=some (.agg #[.nilIface,.nilIface]):=rfl
theorem Ah9{P:w_}{t:x_}{d:TypeDesc}{f:Fn}{first cap:Array v_}(h:P.underlying t=some d)(a:∀w:y_,∀k:Nat,(Op.equalIn (k+1) t (.func f first cap) .nilFunc).run P w= .ok false w)(w:y_):(Op.equal t (.func f first cap) .nilFunc).run P w= .ok false w:=a w 9999
theorem ffeq{P:w_}{t:x_}{x:z_}{c:v_}{d:TypeDesc}{f:Fn}{first cap:Array v_}{S:Nat→Prop}{H:Aa}{K:v_→Prop}(h:P.underlying t=some d)(a:∀w:y_,∀k:Nat,(Op.equalIn (k+1) t (.func f first cap) .nilFunc).run P w= .ok false w)(k:K (.bool false)):AJ P (do eqGuard .eql t x (.const c) (.func f first cap) .nilFunc;binOp .eql t (.func f first cap) .nilFunc) S H K:=by
 refine AJ.mk _ (fun w _=>?_) k;simp[eqGuard,binOp,Ah9 h a]
def Sb{σ:Type}(B:Nat→Prop)(H0:Aa)(E:Nat)(ps:List Pc)(P:σ→List Pc)(x:σ×Except Int N_)(v:v_)(H':Aa):Prop:=match x.2 with
 | .ok a=>a.edges.length≤E∧a.Rng∧∃ea ec,v= .tuple #[.agg (nfL a (.slice ea a.edges.length ec)).toArray,A_ 0]∧B_ B H0 H' (ps++P x.1++[pS tEd 174 ea a.edges.length ec a.edges])
 | .error e=>∃l:List v_,v= .tuple #[.agg l.toArray,A_ e]∧l.length=4∧l.all (·.oneCell')=true∧B_ B H0 H' (ps++P x.1)
def Yw{σ:Type}(B:Nat→Prop)(H0:Aa)(E:Nat)(bb n N:Nat)(es:List Y')(sub:v_)(ps:List Pc)(P:σ→List Pc)(x:σ×Except Int BR)(v:v_)(H':Aa):Prop:=match x.2 with
 | .ok A=>∃a' c',v= .tuple #[A_ (A.p:Int),A_ (A.q:Int)]∧B_ B H0 H' (bdQ bb 0 (n+A.u) sub a' c' (es++A.es) (ps++P x.1))
 | .error e=>e≠0∧∃(p q n':Nat) (a':Option Addr) (c':Nat) (es':List Y'),v= .tuple #[A_ p,A_ q]∧p≤n'∧q≤n'∧n≤n'∧n'≤n+65536*N∧es'.length≤es.length+(E+4)*N∧B_ B H0 H' (bdQ bb e n' sub a' c' es' (ps++P x.1))
theorem VL{e:Y'}{n:Int}:edL (shE n e)=if e.sil then [A_ (e.fr+n),A_ (e.to+n),.bool true,.int .u64 0,.int .u64 0,.int .u64 0,.int .u64 0]else [A_ (e.fr+n),A_ (e.to+n),.bool false]++Ad e.set:=by
 have h:∀i,wd 0#256 i=0:=fun i=>by unfold wd;simp
 unfold shE edL;cases e.sil with
 | true=>simp[h]
 | false=>simp[Ad]
theorem AfL{σ:Type}{B:Nat→Prop}{H0 H:Aa}{ps:List Pc}{P:σ→List Pc}{s:σ}{sub:ReM→σ→σ×Except Int N_}{E:Nat}(hE:Sa sub E)(bq:E≤33554432){bb n c:Nat}{N:Option Addr}{es:List Y'}{f:FuncId}{first cap:Array v_}{r:ReM}
  (st:B_ B H0 H (bdQ bb 0 n (.func (.func f) first cap) N c es (ps++P s))) (hn:n≤1099511627776) (hl:es.length+E≤1099511627776)
  (aj:∀{ps':List Pc} {H':Aa},B_ B H0 H' (ps'++P s)→Ak prog f (first.toList++[Ao r]++cap.toList).toArray H' (Sb B H0 E ps' P (sub r s))):
  Ak prog 178 #[U_ bb,Ao r] H (Yw B H0 E bb n 1 es (.func (.func f) first cap) ps P (DD (sub r s) n)):=by
 refine Ak.of_vc func178 rfl (call178 _) (fa VW ?_);refine lT (v:=.func (.func f) first cap) ct78 ((st.blk 0 rfl).ce rfl) ?_;refine ffeq underlying78 (fun w k=>by simp[Op.equalIn,run_underlying underlying78]) (fa VW ?_);refine lT (v:=.func (.func f) first cap) ct78 ((st.blk 0 rfl).ce rfl) ?_;have R:=aj (ps':=bdQ bb 0 n (.func (.func f) first cap) N c es ps) st;obtain⟨t,a2,hx⟩:∃t a2,sub r s=(t,a2):=⟨_,_,rfl⟩;rw[hx]at R ⊢;refine Ae.mk R ?_;rintro v H1 hv;cases a2 with
 | error e=>
   have Q:=hE.err _ _ _ _ hx;obtain⟨l,rfl,ak,aw,st1⟩:=hv;replace st1:B_ B H0 H1 (bdQ bb 0 n (.func (.func f) first cap) N c es (ps++P t)):=st1;refine Am _ [A_ 0,A_ 0,A_ 0,.slice none 0 0] Ee rfl ?_;intro x H2 a3 a4 a5 a6;have U:=(st1.box a3 a4 a5 a6).perm (YdF _ _);refine AN (cs:=l) U 0 (by rw[ak];rfl) rfl (by rw[ak];decide) aw fun H3 d=>?_;replace d:=d.sub (YdE _ _);have d1:(e != 0)=true:=bne_iff_ne.2 Q;(conv=>whnf);rw[d1];refine fa CE (Bh d 0 Ks rfl (show 5<6 by decide) rfl fun H4 C=>?_);(conv=>whnf);exact⟨Q,0,0,n,N,c,es,rfl,by omega,by omega,by omega,by omega,by omega,C⟩
 | ok a=>
   obtain⟨br,I,g,m,rfl,st1⟩:=hv;have J:a.edges.length≤33554432:=by omega
   replace st1:B_ B H0 H1 (pS tEd 174 g a.edges.length m a.edges::bdQ bb 0 n (.func (.func f) first cap) N c es (ps++P t)):=B_.perm st1 (YdF _ (bdQ bb 0 n (.func (.func f) first cap) N c es (ps++P t)));refine Am _ [A_ 0,A_ 0,A_ 0,.slice none 0 0] Ee rfl ?_;intro x H2 a3 a4 a5 a6;have U:=(st1.box a3 a4 a5 a6).perm (YdF _ _);refine AN (cs:=nfL a (.slice g a.edges.length m)) U 0 rfl rfl (I_ _) rfl fun H3 d=>?_;rw[Aw (show(nfL a (.slice g a.edges.length m)).length=4 from rfl)]at d;replace d:B_ B H0 H3 (pB 76 x (nfL a (.slice g a.edges.length m))::pS tEd 174 g a.edges.length m a.edges::bdQ bb 0 n (.func (.func f) first cap) N c es (ps++P t)):=d;clear st1 U;have L:∀(G:Aa) (K:Aa→Prop),GD a=false→B_ B H0 G (pB 76 x (nfL a (.slice g a.edges.length m))::pS tEd 174 g a.edges.length m a.edges::bdQ bb 0 n (.func (.func f) first cap) N c es (ps++P t))→
     (∀G',Yw B H0 E bb n 1 es (.func (.func f) first cap) ps P (DD (t,.ok a) n) (.tuple #[A_ 0,A_ 0]) G'→K G')→CN prog (Instr.storeAt 24 (.pointer (some ⟨bb,0+5,none⟩)) (.int .i64 2)) G K:=fun G K V D k=>
    Bh D 2 Ks rfl (show 5<6 by decide) rfl fun G' ax=>k G' (by
     have e1:DD (t,(.ok a:Except Int N_)) n=(t,.error 2):=by unfold DD BB;simp[V]
     rw[e1];exact⟨by decide,0,0,n,N,c,es,rfl,by omega,by omega,by omega,by omega,by omega,ax.sub (List.Sublist.cons _ (YdE _ _))⟩)
   refine JS I J (d.blk 0 rfl) FI trivial (d.view 1 rfl) fun v4 ay=>(fa K1 ?_);refine lT (v:=A_ a.start) E_ ((d.blk 0 rfl).ce rfl) ?_;refine Ah (Wl ay) fun H4 az=>?_;have C:=d.call az;cases hs:a.has a.start with
   | false=>
     have V:GD a=false:=by unfold GD;simp[hs]
     refine fa CE (L _ _ V C fun G' hG=>?_);(conv=>whnf);exact hG
   | true=>
   refine JS I J (C.blk 0 rfl) FI trivial (C.view 1 rfl) fun v5 b0=>(fa LA ?_);refine lT (v:=A_ a.fin) E_ ((C.blk 0 rfl).ce rfl) ?_;refine Ah (Wl b0) fun H5 b4=>?_;have W:=C.call b4;cases hf:a.has a.fin with
   | false=>
     have V:GD a=false:=by unfold GD;simp[hf]
     refine fa CE (L _ _ V W fun G' hG=>?_);(conv=>whnf);exact hG
   | true=>
   refine fa ES ?_;refine lT (v:=.slice g a.edges.length m) IW ((W.blk 0 rfl).ce rfl) ?_;(conv=>whnf);refine A0.mk [54] (fun k:Nat=>[A_ k]) (fun k G=>k≤a.edges.length∧(∀e∈a.edges.take k,a.has e.fr=true∧a.has e.to=true)∧B_ B H0 G (pB 76 x (nfL a (.slice g a.edges.length m))::pS tEd 174 g a.edges.length m a.edges::bdQ bb 0 n (.func (.func f) first cap) N c es (ps++P t))) (fun k _=>a.edges.length-k) ?_ ?_
   ·(conv=>whnf);exact⟨0,rfl,t_ _,(fun e Q=>by simp at Q),W⟩
   ·rintro k G am ⟨Z,F,D⟩;refine AG.m2 (fun hz=>?_) (fun hz=>?_)
    ·obtain⟨e,Q⟩:∃e,a.edges[k]?=some e:=⟨_,N' (by omega)⟩;have X:e∈a.edges:=c_ Q;(conv=>whnf);try (refine An.run ?_)
     refine ixO (j:=k) (x:=e) Jx D 1 rfl Q rfl fun b9 o9 b5 b6 a7 a8=>?_;obtain⟨rfl,b7⟩:=a8;refine L_ (cs:=edL e) N6 a7 trivial (Am _ [A_ 0,A_ 0,.bool false,.int .u64 0,.int .u64 0,.int .u64 0,.int .u64 0] Kv rfl ?_);intro y G1 hy ab ae ag;have Y:=(D.box hy ab ae ag).perm (YdF _ _);refine AN (cs:=edL e) Y 0 rfl rfl (I_ _) rfl fun G2 b=>?_;rw[Aw (show(edL e).length=7 from rfl)]at b;replace b:B_ B H0 G2 (pB 174 y (edL e)::pB 76 x (nfL a (.slice g a.edges.length m))::pS tEd 174 g a.edges.length m a.edges::bdQ bb 0 n (.func (.func f) first cap) N c es (ps++P t)):=b;(conv=>whnf);try (refine An.run ?_)
     refine JS I J (b.blk 1 rfl) FI trivial (b.view 2 rfl) fun v6 b8=>(fa GN ?_);refine lT (v:=A_ e.fr) E_ ((b.blk 0 rfl).ce rfl) ?_;refine Ah (Wl b8) fun G3 bd=>?_;have A:=b.call bd;have nw:a.has e.fr=false∨a.has e.to=false→GD a=false:=fun h=>by
      cases V:GD a with
      | false=>rfl
      | true=>
        have:=(GE.1 V).2.2 e X;rw[this.1,this.2]at h;rcases h with h | h<;>cases h
     cases h1:a.has e.fr with
     | false=>
       refine fa CE (L _ _ (nw (.inl h1)) (A.sub (YdE _ _)) fun G' hG=>?_);(conv=>whnf);exact hG
     | true=>
     refine JS I J (A.blk 1 rfl) FI trivial (A.view 2 rfl) fun v7 be=>(fa JO ?_);refine lT (v:=A_ e.to) E_ ((A.blk 0 rfl).ce rfl) ?_;refine Ah (Wl be) fun G4 bf=>?_;have p:=A.call bf;cases h2:a.has e.to with
     | false=>
       refine fa CE (L _ _ (nw (.inr h2)) (p.sub (YdE _ _)) fun G' hG=>?_);(conv=>whnf);exact hG
     | true=>
     (conv=>whnf);rw[P_ k (by omega)];refine⟨rfl,k+1,rfl,⟨by omega,fun e' O=>?_,p.sub (YdE _ _)⟩,by omega⟩;rw[Yc3,Q]at O;rcases q_.1 O with O | O
     ·exact F e' O
     ·rw[show e'=e by simpa using O];exact⟨h1,h2⟩
    ·obtain rfl:k=a.edges.length:=by omega
     rw[Yc2 (I_ _)]at F;have V:GD a=true:=GE.2 ⟨hs,hf,F⟩;have bu:=N_.has_iff.1 hs;have bv:=N_.has_iff.1 hf;obtain⟨u,hu⟩:∃u:Nat,a.st=(u:Int):=⟨a.st.toNat,by omega⟩;obtain⟨s0,ao⟩:∃u:Nat,a.start=(u:Int):=⟨a.start.toNat,by omega⟩;obtain⟨f0,ap⟩:∃u:Nat,a.fin=(u:Int):=⟨a.fin.toNat,by omega⟩;refine fa Cd (fa E8 ?_);refine lT (v:=A_ n) E_ ((D.blk 2 rfl).ce rfl) ?_;refine Aq.heldZ (fun k=>k=bb∨k=x) [11] (sq [0,1,2,3,4,5,6,7,8,9,10] (.f 11 .e)) rfl (by kernel_rfl) (fa Cd (fa E8 ?_));refine G_ (v:=A_ n) E_ ((D.blk 2 rfl).ce rfl) (.inl rfl) ?_;refine fa E8 ?_;refine G_ (v:=A_ u) E_ (by rw[(D.blk 0 rfl).cell,←hu];rfl) (.inr rfl) ?_;(conv=>whnf);rw[W_ (x:=(n:Int)+(u:Int)) (by omega),show(n:Int)+(u:Int)=((n+u:Nat):Int) by omega];refine fa Cd (fa E8 (Bh D 2 E_ rfl (show 0<6 by decide) rfl fun H7 S=>?_));replace S:B_ B H0 H7 (pB 76 x (nfL a (.slice g a.edges.length m))::pS tEd 174 g a.edges.length m a.edges::bdQ bb 0 (n+u) (.func (.func f) first cap) N c es (ps++P t)):=S;clear d C W D;refine fa ES ?_;refine lT (v:=.slice g a.edges.length m) IW ((S.blk 0 rfl).ce rfl) ?_;(conv=>whnf);refine A0.mk [93] (fun k:Nat=>[A_ k]) (fun k G=>k≤a.edges.length∧∃a' T,B_ B H0 G (pB 76 x (nfL a (.slice g a.edges.length m))::pS tEd 174 g a.edges.length m a.edges::bdQ bb 0 (n+u) (.func (.func f) first cap) a' T (es++(a.edges.take k).map (shE n)) (ps++P t))) (fun k _=>a.edges.length-k) ?_ ?_
     ·(conv=>whnf);refine⟨0,rfl,t_ _,N,c,?_⟩;rw[Ybq,Yc8,YaX];exact S
     ·rintro k G am ⟨Z,a',T,D⟩;clear S;refine AG.m2 (fun hz=>?_) (fun hz=>?_)
      ·obtain⟨e,Q⟩:∃e,a.edges[k]?=some e:=⟨_,N' (by omega)⟩;have X:e∈a.edges:=c_ Q;have bw:=N_.has_iff.1 (F e X).1;have bx:=N_.has_iff.1 (F e X).2;have aq:(es++(a.edges.take k).map (shE n)).length=es.length+k:=by simp;omega
       refine ixO (j:=k) (x:=e) Jx D 1 rfl Q rfl fun b9 o9 b5 b6 a7 a8=>?_;obtain⟨rfl,b7⟩:=a8;refine L_ (cs:=edL e) N6 a7 trivial (Am _ [A_ 0,A_ 0,.bool false,.int .u64 0,.int .u64 0,.int .u64 0,.int .u64 0] Kv rfl ?_);intro y G1 hy ab ae ag;have Y:=(D.box hy ab ae ag).perm (YdF _ _);refine AN (cs:=edL e) Y 0 rfl rfl (I_ _) rfl fun G2 b=>?_;rw[Aw (show(edL e).length=7 from rfl)]at b;replace b:B_ B H0 G2 (pB 174 y (edL e)::pB 76 x (nfL a (.slice g a.edges.length m))::pS tEd 174 g a.edges.length m a.edges::bdQ bb 0 (n+u) (.func (.func f) first cap) a' T (es++(a.edges.take k).map (shE n)) (ps++P t)):=b;refine fa GN ?_;refine lT (v:=A_ e.fr) E_ ((b.blk 0 rfl).ce rfl) ?_;(conv=>whnf);rw[W_ (x:=e.fr+(n:Int)) (by omega)];refine fa GN (Bh b 0 E_ rfl (show 0<7 by decide) rfl fun G3 A=>(fa JO ?_));refine lT (v:=A_ e.to) E_ ((A.blk 0 rfl).ce rfl) ?_;(conv=>whnf);rw[W_ (x:=e.to+(n:Int)) (by omega)];refine fa JO (Bh A 0 E_ rfl (show 1<7 by decide) rfl fun G4 p=>?_);replace p:B_ B H0 G4 (pB 174 y ([A_ (e.fr+n),A_ (e.to+n),.bool e.sil]++Ad e.set)::pB 76 x (nfL a (.slice g a.edges.length m))::pS tEd 174 g a.edges.length m a.edges::bdQ bb 0 (n+u) (.func (.func f) first cap) a' T (es++(a.edges.take k).map (shE n)) (ps++P t)):=p;(conv=>whnf);refine An.cut (α:=Unit) [] (fun _=>[]) (fun _ G=>B_ B H0 G (pB 174 y (edL (shE n e))::pB 76 x (nfL a (.slice g a.edges.length m))::pS tEd 174 g a.edges.length m a.edges::bdQ bb 0 (n+u) (.func (.func f) first cap) a' T (es++(a.edges.take k).map (shE n)) (ps++P t))) ?_ ?_
       ·refine fa VT ?_;refine lT (v:=.bool e.sil) ct4 ((p.blk 0 rfl).ce rfl) ?_;cases M:e.sil with
        | true=>
          refine Cz Ch (Bt 0) rfl [.int .u64 0,.int .u64 0,.int .u64 0,.int .u64 0] rfl (fa Rc ?_);refine AN (cs:=[.int .u64 0,.int .u64 0,.int .u64 0,.int .u64 0]) p 0 rfl rfl (by show 3+4≤7;decide) rfl fun G5 q=>?_;(conv=>whnf);refine⟨rfl,(),rfl,?_⟩;rw[VL,M,F_ rfl];rw[M]at q;exact q
        | false=>
          (conv=>whnf);refine⟨rfl,(),rfl,?_⟩;rw[VL,M];rw[M]at p;exact p
       ·rintro⟨⟩ G5 bg q;clear D Y b A p;have ar:=q.apart2 (i:=3) (j:=4) rfl rfl (by decide);have ah:=q.apart2 (i:=0) (j:=4) rfl rfl (by decide);have bh:bb<G5.size∧¬a_ (.slice a' (es++(a.edges.take k).map (shE n)).length T) bb:=⟨(q.in_ 3 rfl rfl).2,fun h=>ar bb rfl (.inl h)⟩;have bi:y<G5.size∧¬a_ (.slice a' (es++(a.edges.take k).map (shE n)).length T) y:=⟨(q.in_ 0 rfl rfl).2,fun h=>ah y rfl (.inl h)⟩;refine Aq.heldZ (fun k2=>k2<G5.size∧¬a_ (.slice a' (es++(a.edges.take k).map (shE n)).length T) k2) [12] (sq [0,1,2,3,4,5,6] (.f 7 (.f 8 (sq [9,10,11] (.f 12 .e))))) rfl (by kernel_rfl) (fa Cd (fa ES ?_));refine G_ (v:=.slice a' (es++(a.edges.take k).map (shE n)).length T) IW ((q.blk 3 rfl).ce rfl) bh ?_;refine L_ (cs:=edL (shE n e)) N6 ((q.blk 0 rfl).cells fun j v hv=>by rw[K_];exact hv) bi ?_;refine Ay Jx (edL (shE n e)) rfl rfl (by decide) (by decide) ?_;intro z G6 bj bz bm ai;have bn:=q.skip bj ai;refine⟨ai.mono fun k Z=>by have:=Z.1;omega,?_⟩;refine Kj (ys:=[shE n e]) bn 4 Jx rfl (bm.cells (o:=0) (cs:=edL (shE n e)) fun j v hv=>by rw[K_];exact hv) (Ty.reps_one ⟨rfl,show(shE n e).Ok from⟨⟨by show(-9223372036854775808:Int)≤e.fr+(n:Int);omega,by show e.fr+(n:Int)≤(9223372036854775807:Int);omega⟩,⟨by show(-9223372036854775808:Int)≤e.to+(n:Int);omega,by show e.to+(n:Int)≤(9223372036854775807:Int);omega⟩⟩⟩) rfl (fun u hu=>Ybl.1 (JL _) u hu) (by unfold maxLen;simp;omega) (by rw[aq];simp;omega) fun a9 c9 G9 bo bp=>?_;refine⟨(ai.mono fun k Z=>by have:=Z.1;omega).trans (bp.mono fun k Z=>⟨by have:=Z.1;omega,Z.2⟩),?_⟩;refine fa Cd (fa ES (Bh bo 3 IW rfl (show 3<6 by decide) rfl fun G10 a1=>?_));have au:(es++(a.edges.take k).map (shE n))++[shE n e]=es++(a.edges.take (k+1)).map (shE n):=by rw[Yc3,Q];simp
        have el:(es++(a.edges.take k).map (shE n)).length+[shE n e].length=(es++(a.edges.take (k+1)).map (shE n)).length:=by rw[←au];simp;omega
        rw[el,au]at a1;(conv=>whnf);rw[P_ k (by omega)];exact⟨rfl,k+1,rfl,⟨by omega,a9,c9,a1.sub (YdE _ _)⟩,by omega⟩
      ·obtain rfl:k=a.edges.length:=by omega
       rw[Yc2 (I_ _)]at D;refine Aq.lex rfl (by kernel_rfl) (fa K1 ?_);refine G_ (v:=A_ s0) E_ (by rw[(D.blk 0 rfl).cell,←ao];rfl) trivial ?_;(conv=>whnf);rw[W_ (x:=(s0:Int)+(n:Int)) (by omega)];refine fa LA ?_;refine G_ (v:=A_ f0) E_ (by rw[(D.blk 0 rfl).cell,←ap];rfl) trivial ?_;(conv=>whnf);rw[W_ (x:=(f0:Int)+(n:Int)) (by omega)];(conv=>whnf);have e1:DD (t,(.ok a:Except Int N_)) n=(t,.ok ⟨n+s0,n+f0,u,a.edges.map (shE n)⟩):=by unfold DD BB;simp[V,ao,ap,hu]
       rw[e1];exact⟨a',T,by rw[show(s0:Int)+(n:Int)=((n+s0:Nat):Int) by omega,show(f0:Int)+(n:Int)=((n+f0:Nat):Int) by omega],D.sub (List.Sublist.cons _ (YdE _ _))⟩
theorem O4{B:Nat→Prop}{H0 H:Aa}{rest:List Pc}{bb n c:Nat}{a:Option Addr}{es:List Y'}{er:Int}{b:v_}{r:ReM}(d:er≠0)(st:B_ B H0 H (bdQ bb er n b a c es rest)):
  Ak prog 138 #[U_ bb,Ao r] H fun v H'=>v= .tuple #[A_ ((0:Nat):Int),A_ ((0:Nat):Int)]∧B_ B H0 H' (bdQ bb er n b a c es rest):=by
 refine Ak.of_vc func138 rfl (call138 _) (fa CE ?_);refine lT (v:=A_ er) Ks ((st.blk 0 rfl).ce rfl) ?_;have e:(er != 0)=true:=bne_iff_ne.2 d;(conv=>whnf);rw[e];(conv=>whnf);exact⟨rfl,st⟩
theorem AdT{σ:Type}{B:Nat→Prop}{H0:Aa}{P:σ→List Pc}{sub:ReM→σ→σ×Except Int N_}{E N:Nat}(hE:Sa sub E)(am:E≤33554432){bb:Nat}{f:FuncId}{first cap:Array v_}
  (aj:∀(r:ReM),Rn r=true→r.nodes≤N→∀(s:σ) {ps':List Pc} {H':Aa},B_ B H0 H' (ps'++P s)→Ak prog f (first.toList++[Ao r]++cap.toList).toArray H' (Sb B H0 E ps' P (sub r s))):
  ∀(r:ReM),r.nodes≤N→∀{H:Aa} {ps:List Pc} {n c:Nat} {a:Option Addr} {es:List Y'} {s:σ} (st:B_ B H0 H (bdQ bb 0 n (.func (.func f) first cap) a c es (ps++P s))),n+65536*r.nodes≤1099511627776→es.length+(E+4)*r.nodes≤1099511627776→
  Ak prog 138 #[U_ bb,Ao r] H (Yw B H0 E bb n r.nodes es (.func (.func f) first cap) ps P (Bx sub r n s)):=fun r=>by
 induction r with
 | eps=>
   intro Z H ps n c a es s st hn hl;generalize e:Bx sub .eps n s=V;refine Ak.of_vc func138 rfl (call138 _) (fa CE ?_);refine lT (v:=A_ 0) Ks ((st.blk 0 rfl).ce rfl) ?_;simp only[ReM.nodes,Ycy,L']at hn hl Z;refine FZ underlying98 (by intro w h;cases h) ?_;refine Am (.agg #[]) [] rfl rfl ?_;intro x H1 hx D F G;have st1:B_ B H0 H1 (pB 98 x []::bdQ bb 0 n (.func (.func f) first cap) a c es (ps++P s)):=(st.box hx D F G).perm (YdF _ _);refine AN (cs:=[]) st1 0 rfl rfl (I_ _) rfl fun H2 l=>?_;have C:B_ B H0 H2 (bdQ bb 0 n (.func (.func f) first cap) a c es (ps++P s)):=l.sub (YdE _ _);refine Dg C (by omega) fun H4 I=>(Dg I (by omega) fun H5 az=>(BU az (by omega) (by omega) (by omega) fun a' c' H6 W=>?_));(conv=>whnf);subst e;exact⟨a',c',rfl,W⟩
 | cls t=>
   intro Z H ps n c a es s st hn hl;generalize e:Bx sub (.cls t) n s=V;refine Ak.of_vc func138 rfl (call138 _) (fa CE ?_);refine lT (v:=A_ 0) Ks ((st.blk 0 rfl).ce rfl) ?_;simp only[ReM.nodes,Ycy,L']at hn hl Z;refine CC underlying98 (by intro w h;cases h) Ic (by decide) ?_;refine FZ underlying104 (by intro w h;cases h) ?_;refine Am _ [.int .u64 0,.int .u64 0,.int .u64 0,.int .u64 0] Ie rfl ?_;intro x H1 hx D F G;have st1:B_ B H0 H1 (pB 104 x [.int .u64 0,.int .u64 0,.int .u64 0,.int .u64 0]::bdQ bb 0 n (.func (.func f) first cap) a c es (ps++P s)):=(st.box hx D F G).perm (YdF _ _);refine AN (cs:=Ad t) st1 0 rfl rfl (I_ _) rfl fun H2 l=>?_;rw[Aw (show(Ad t).length=4 from rfl)]at l;refine fa AcP (L_ (cs:=Ad t) AT ((l.blk 0 rfl).cells fun j v hv=>by simpa using hv) trivial ?_);have C:B_ B H0 H2 (bdQ bb 0 n (.func (.func f) first cap) a c es (ps++P s)):=l.sub (YdE _ _);refine Ss C (by omega) (by omega) fun a' c' H4 I=>?_;(conv=>whnf);subst e;exact⟨a',c',rfl,I⟩
 | cat d g X a7=>
   intro Z H ps n c a es s st hn hl;generalize e:Bx sub (.cat d g) n s=V;refine Ak.of_vc func138 rfl (call138 _) (fa CE ?_);refine lT (v:=A_ 0) Ks ((st.blk 0 rfl).ce rfl) ?_;simp only[ReM.nodes,Ycy,L']at hn hl Z;refine CC underlying98 (by intro w h;cases h) Ic (by decide) ?_;refine CC underlying104 (by intro w h;cases h) Ie (by decide) ?_;refine FZ underlying105 (by intro w h;cases h) ?_;refine Am _ [.nilIface,.nilIface] JT rfl ?_;intro x H1 hx D F G;have st1:B_ B H0 H1 (pB 105 x [.nilIface,.nilIface]::bdQ bb 0 n (.func (.func f) first cap) a c es (ps++P s)):=(st.box hx D F G).perm (YdF _ _);refine AN (cs:=[Ao d,Ao g]) st1 0 rfl rfl (I_ _) (by simp[Gd]) fun H2 l=>?_;rw[Aw (show([Ao d,Ao g]).length=([.nilIface,.nilIface]:List v_).length from rfl)]at l;have C:B_ B H0 H2 (bdQ bb 0 n (.func (.func f) first cap) a c es ((pB 105 x [Ao d,Ao g]::ps)++P s)):=l.pickN 3 [1,2,0] (by decide);refine fa VQ ?_;refine lT (v:=Ao d) E4 ((C.blk 2 rfl).ce rfl) ?_;obtain⟨s4,x4,A⟩:∃s1 y,Bx sub d (n) s=(s1,y):=⟨_,_,rfl⟩;have Q:=X (by omega) (s:=s) C (by omega) (by(try simp only[J_,b_,m_]);omega);rw[A]at Q;refine Ae.mk Q ?_;rintro v4 G4 R;cases x4 with
   | error e4=>
     obtain⟨a0,p4,q4,n4,a4,c4,a1,rfl,a9,ab,ae,ao,ak,i⟩:=R;replace i:B_ B H0 G4 (bdQ bb e4 n4 (.func (.func f) first cap) a4 c4 a1 ((pB 105 x [Ao d,Ao g]::ps)++P s4)):=i
     try simp only[J_,b_,m_]at ak
     refine fa QZ ?_;refine lT (v:=Ao g) E4 ((i.blk 2 rfl).ce rfl) ?_;refine Ae.mk (O4 (r:=g) a0 i) ?_;rintro _ G5 ⟨rfl,b⟩;refine BU b (by omega) (by omega) (by(try simp only[J_,b_,m_]);omega) fun b6 d6 H6 W=>?_;(conv=>whnf);obtain rfl:V=(s4,.error e4):=by rw[←e];simp only[Bx];rw[C5 A]
     exact⟨a0,p4,0,n4,b6,d6,(a1++[AW q4 0]),rfl,by omega,by omega,by omega,by simp only[ReM.nodes];omega,by simp only[ReM.nodes,Ycy,L',J_,b_,m_];omega,W.pickN 3 [0,1] (by decide)⟩
   | ok A4=>
     obtain⟨a4,c4,rfl,i⟩:=R;have b7:=BS hE _ _ _ _ _ A;replace i:B_ B H0 G4 (bdQ bb 0 (n+A4.u) (.func (.func f) first cap) a4 c4 (es++A4.es) ((pB 105 x [Ao d,Ao g]::ps)++P s4)):=i;refine fa QZ ?_;refine lT (v:=Ao g) E4 ((i.blk 2 rfl).ce rfl) ?_;obtain⟨Y,x5,k⟩:∃s1 y,Bx sub g (n+A4.u) s4=(s1,y):=⟨_,_,rfl⟩;have S:=a7 (by omega) (s:=s4) i (by omega) (by(try simp only[J_,b_,m_]);omega);rw[k]at S;refine Ae.mk S ?_;rintro v5 G5 T;cases x5 with
     | error e5=>
       obtain⟨a2,p5,q5,n5,a5,c5,a3,rfl,ap,aq,ar,au,a8,b⟩:=T;replace b:B_ B H0 G5 (bdQ bb e5 n5 (.func (.func f) first cap) a5 c5 a3 ((pB 105 x [Ao d,Ao g]::ps)++P Y)):=b
       try simp only[J_,b_,m_]at a8
       refine BU b (by omega) (by omega) (by(try simp only[J_,b_,m_]);omega) fun b6 d6 H6 W=>?_;(conv=>whnf);obtain rfl:V=(Y,.error e5):=by rw[←e];simp only[Bx];rw[C1 A,C5 k]
       exact⟨a2,A4.p,q5,n5,b6,d6,(a3++[AW A4.q p5]),rfl,by omega,by omega,by omega,by simp only[ReM.nodes];omega,by simp only[ReM.nodes,Ycy,L',J_,b_,m_];omega,W.pickN 3 [0,1] (by decide)⟩
     | ok A5=>
       obtain⟨a5,c5,rfl,b⟩:=T;have aw:=BS hE _ _ _ _ _ k;replace b:B_ B H0 G5 (bdQ bb 0 (n+A4.u+A5.u) (.func (.func f) first cap) a5 c5 (es++A4.es++A5.es) ((pB 105 x [Ao d,Ao g]::ps)++P Y)):=b;refine BU b (by omega) (by omega) (by(try simp only[J_,b_,m_]);omega) fun b6 d6 H6 W=>?_;(conv=>whnf);obtain rfl:V=(Y,.ok ⟨A4.p,A5.q,A4.u+A5.u,A4.es++A5.es++[AW A4.q A5.p]⟩):=by rw[←e];simp only[Bx];rw[C1 A,C1 k]
       have z:=W.pickN 3 [0,1] (by decide);rw[Nat.add_assoc n A4.u A5.u]at z;have ee:es++A4.es++A5.es++[AW A4.q A5.p]=es++(A4.es++A5.es++[AW A4.q A5.p]):=by simp
       rw[ee]at z;exact⟨b6,d6,rfl,z⟩
 | alt d g X a7=>
   intro Z H ps n c a es s st hn hl;generalize e:Bx sub (.alt d g) n s=V;refine Ak.of_vc func138 rfl (call138 _) (fa CE ?_);refine lT (v:=A_ 0) Ks ((st.blk 0 rfl).ce rfl) ?_;simp only[ReM.nodes,Ycy,L']at hn hl Z;refine CC underlying98 (by intro w h;cases h) Ic (by decide) ?_;refine CC underlying104 (by intro w h;cases h) Ie (by decide) ?_;refine CC underlying105 (by intro w h;cases h) JT (by decide) ?_;refine FZ underlying305 (by intro w h;cases h) ?_;refine Am _ [.nilIface,.nilIface] Le rfl ?_;intro x H1 hx D F G;have st1:B_ B H0 H1 (pB 305 x [.nilIface,.nilIface]::bdQ bb 0 n (.func (.func f) first cap) a c es (ps++P s)):=(st.box hx D F G).perm (YdF _ _);refine AN (cs:=[Ao d,Ao g]) st1 0 rfl rfl (I_ _) (by simp[Gd]) fun H2 l=>?_;rw[Aw (show([Ao d,Ao g]).length=([.nilIface,.nilIface]:List v_).length from rfl)]at l;have C:B_ B H0 H2 (bdQ bb 0 n (.func (.func f) first cap) a c es ((pB 305 x [Ao d,Ao g]::ps)++P s)):=l.pickN 3 [1,2,0] (by decide);refine Dg C (by omega) fun H4 I=>(fa Wc ?_);refine lT (v:=Ao d) E4 ((I.blk 2 rfl).ce rfl) ?_;obtain⟨Y,x5,k⟩:∃s1 y,Bx sub d (n+1) s=(s1,y):=⟨_,_,rfl⟩;have S:=X (by omega) (s:=s) I (by omega) (by(try simp only[J_,b_,m_]);omega);rw[k]at S;refine Ae.mk S ?_;rintro v5 G5 T;cases x5 with
   | error e5=>
     obtain⟨a2,p5,q5,n5,a5,c5,a3,rfl,ap,aq,ar,au,a8,b⟩:=T;replace b:B_ B H0 G5 (bdQ bb e5 n5 (.func (.func f) first cap) a5 c5 a3 ((pB 305 x [Ao d,Ao g]::ps)++P Y)):=b
     try simp only[J_,b_,m_]at a8
     refine fa Re ?_;refine lT (v:=Ao g) E4 ((b.blk 2 rfl).ce rfl) ?_;refine Ae.mk (O4 (r:=g) a2 b) ?_;rintro _ G6 ⟨rfl,J⟩;refine Dg J (by omega) fun H7 z=>?_;refine BU z (by omega) (by omega) (by(try simp only[J_,b_,m_]);omega) fun b8 d8 H8 K=>?_;refine BU K (by omega) (by omega) (by(try simp only[J_,b_,m_]);omega) fun b9 d9 H9 L=>?_;refine BU L (by omega) (by omega) (by(try simp only[J_,b_,m_]);omega) fun ag ah H10 m=>?_;refine BU m (by omega) (by omega) (by(try simp only[J_,b_,m_]);omega) fun M O H11 o=>?_;(conv=>whnf);obtain rfl:V=(Y,.error e5):=by rw[←e];simp only[Bx];rw[C5 k]
     exact⟨a2,n,n5,(n5+1),M,O,_,rfl,by omega,by omega,by omega,by simp only[ReM.nodes];omega,by simp only[ReM.nodes,Ycy,L',J_,b_,m_];omega,o.pickN 3 [0,1] (by decide)⟩
   | ok A5=>
     obtain⟨a5,c5,rfl,b⟩:=T;have aw:=BS hE _ _ _ _ _ k;replace b:B_ B H0 G5 (bdQ bb 0 (n+1+A5.u) (.func (.func f) first cap) a5 c5 (es++A5.es) ((pB 305 x [Ao d,Ao g]::ps)++P Y)):=b;refine fa Re ?_;refine lT (v:=Ao g) E4 ((b.blk 2 rfl).ce rfl) ?_;obtain⟨s6,x6,ai⟩:∃s1 y,Bx sub g (n+1+A5.u) Y=(s1,y):=⟨_,_,rfl⟩;have ax:=a7 (by omega) (s:=Y) b (by omega) (by(try simp only[J_,b_,m_]);omega);rw[ai]at ax;refine Ae.mk ax ?_;rintro v6 G6 ay;cases x6 with
     | error e6=>
       obtain⟨b0,p6,q6,n6,a6,c6,b4,rfl,bd,be,bf,bg,b5,J⟩:=ay;replace J:B_ B H0 G6 (bdQ bb e6 n6 (.func (.func f) first cap) a6 c6 b4 ((pB 305 x [Ao d,Ao g]::ps)++P s6)):=J
       try simp only[J_,b_,m_]at b5
       refine Dg J (by omega) fun H7 z=>?_;refine BU z (by omega) (by omega) (by(try simp only[J_,b_,m_]);omega) fun b8 d8 H8 K=>?_;refine BU K (by omega) (by omega) (by(try simp only[J_,b_,m_]);omega) fun b9 d9 H9 L=>?_;refine BU L (by omega) (by omega) (by(try simp only[J_,b_,m_]);omega) fun ag ah H10 m=>?_;refine BU m (by omega) (by omega) (by(try simp only[J_,b_,m_]);omega) fun M O H11 o=>?_;(conv=>whnf);obtain rfl:V=(s6,.error e6):=by rw[←e];simp only[Bx];rw[C1 k,C5 ai]
       exact⟨b0,n,n6,(n6+1),M,O,_,rfl,by omega,by omega,by omega,by simp only[ReM.nodes];omega,by simp only[ReM.nodes,Ycy,L',J_,b_,m_];omega,o.pickN 3 [0,1] (by decide)⟩
     | ok A6=>
       obtain⟨a6,c6,rfl,J⟩:=ay;have bh:=BS hE _ _ _ _ _ ai;replace J:B_ B H0 G6 (bdQ bb 0 (n+1+A5.u+A6.u) (.func (.func f) first cap) a6 c6 (es++A5.es++A6.es) ((pB 305 x [Ao d,Ao g]::ps)++P s6)):=J;refine Dg J (by omega) fun H7 z=>?_;refine BU z (by omega) (by omega) (by(try simp only[J_,b_,m_]);omega) fun b8 d8 H8 K=>?_;refine BU K (by omega) (by omega) (by(try simp only[J_,b_,m_]);omega) fun b9 d9 H9 L=>?_;refine BU L (by omega) (by omega) (by(try simp only[J_,b_,m_]);omega) fun ag ah H10 m=>?_;refine BU m (by omega) (by omega) (by(try simp only[J_,b_,m_]);omega) fun M O H11 o=>?_;(conv=>whnf);obtain rfl:V=(s6,.ok ⟨n,n+1+A5.u+A6.u,A5.u+A6.u+2,A5.es++A6.es++[AW n A5.p,AW n A6.p,AW A5.q (n+1+A5.u+A6.u),AW A6.q (n+1+A5.u+A6.u)]⟩):=by rw[←e];simp only[Bx];rw[C1 k,C1 ai]
       have U:=o.pickN 3 [0,1] (by decide);have en:n+1+A5.u+A6.u+1=n+(A5.u+A6.u+2):=by omega
       have ee:es++A5.es++A6.es++[AW n A5.p]++[AW n A6.p]++[AW A5.q (n+1+A5.u+A6.u)]++[AW A6.q (n+1+A5.u+A6.u)]=es++(A5.es++A6.es++[AW n A5.p,AW n A6.p,AW A5.q (n+1+A5.u+A6.u),AW A6.q (n+1+A5.u+A6.u)]):=by simp
       rw[en,ee]at U;exact⟨M,O,rfl,U⟩
 | star d X=>
   intro Z H ps n c a es s st hn hl;generalize e:Bx sub (.star d) n s=V;refine Ak.of_vc func138 rfl (call138 _) (fa CE ?_);refine lT (v:=A_ 0) Ks ((st.blk 0 rfl).ce rfl) ?_;simp only[ReM.nodes,Ycy,L']at hn hl Z;refine CC underlying98 (by intro w h;cases h) Ic (by decide) ?_;refine CC underlying104 (by intro w h;cases h) Ie (by decide) ?_;refine CC underlying105 (by intro w h;cases h) JT (by decide) ?_;refine CC underlying305 (by intro w h;cases h) Le (by decide) ?_;refine FZ underlying310 (by intro w h;cases h) ?_;refine Am _ [.nilIface] Nn rfl ?_;intro x H1 hx D F G;have st1:B_ B H0 H1 (pB 310 x [.nilIface]::bdQ bb 0 n (.func (.func f) first cap) a c es (ps++P s)):=(st.box hx D F G).perm (YdF _ _);refine AN (cs:=[Ao d]) st1 0 rfl rfl (I_ _) (by simp[Gd]) fun H2 l=>?_;rw[Aw (show([Ao d]).length=([.nilIface]:List v_).length from rfl)]at l;have C:B_ B H0 H2 (bdQ bb 0 n (.func (.func f) first cap) a c es ((pB 310 x [Ao d]::ps)++P s)):=l.pickN 3 [1,2,0] (by decide);refine Dg C (by omega) fun H4 I=>(fa Wd ?_);refine lT (v:=Ao d) E4 ((I.blk 2 rfl).ce rfl) ?_;obtain⟨Y,x5,k⟩:∃s1 y,Bx sub d (n+1) s=(s1,y):=⟨_,_,rfl⟩;have S:=X (by omega) (s:=s) I (by omega) (by(try simp only[J_,b_,m_]);omega);rw[k]at S;refine Ae.mk S ?_;rintro v5 G5 T;cases x5 with
   | error e5=>
     obtain⟨a2,p5,q5,n5,a5,c5,a3,rfl,ap,aq,ar,au,a8,b⟩:=T;replace b:B_ B H0 G5 (bdQ bb e5 n5 (.func (.func f) first cap) a5 c5 a3 ((pB 310 x [Ao d]::ps)++P Y)):=b
     try simp only[J_,b_,m_]at a8
     refine Dg b (by omega) fun H7 z=>?_;refine BU z (by omega) (by omega) (by(try simp only[J_,b_,m_]);omega) fun b8 d8 H8 K=>?_;refine BU K (by omega) (by omega) (by(try simp only[J_,b_,m_]);omega) fun b9 d9 H9 L=>?_;refine BU L (by omega) (by omega) (by(try simp only[J_,b_,m_]);omega) fun ag ah H10 m=>?_;refine BU m (by omega) (by omega) (by(try simp only[J_,b_,m_]);omega) fun M O H11 o=>?_;(conv=>whnf);obtain rfl:V=(Y,.error e5):=by rw[←e];simp only[Bx];rw[C5 k]
     exact⟨a2,n,n5,(n5+1),M,O,_,rfl,by omega,by omega,by omega,by simp only[ReM.nodes];omega,by simp only[ReM.nodes,Ycy,L',J_,b_,m_];omega,o.pickN 3 [0,1] (by decide)⟩
   | ok A5=>
     obtain⟨a5,c5,rfl,b⟩:=T;have aw:=BS hE _ _ _ _ _ k;replace b:B_ B H0 G5 (bdQ bb 0 (n+1+A5.u) (.func (.func f) first cap) a5 c5 (es++A5.es) ((pB 310 x [Ao d]::ps)++P Y)):=b;refine Dg b (by omega) fun H7 z=>?_;refine BU z (by omega) (by omega) (by(try simp only[J_,b_,m_]);omega) fun b8 d8 H8 K=>?_;refine BU K (by omega) (by omega) (by(try simp only[J_,b_,m_]);omega) fun b9 d9 H9 L=>?_;refine BU L (by omega) (by omega) (by(try simp only[J_,b_,m_]);omega) fun ag ah H10 m=>?_;refine BU m (by omega) (by omega) (by(try simp only[J_,b_,m_]);omega) fun M O H11 o=>?_;(conv=>whnf);obtain rfl:V=(Y,.ok ⟨n,n+1+A5.u,A5.u+2,A5.es++[AW n A5.p,AW n (n+1+A5.u),AW A5.q A5.p,AW A5.q (n+1+A5.u)]⟩):=by rw[←e];simp only[Bx];rw[C1 k]
     have U:=o.pickN 3 [0,1] (by decide);have en:n+1+A5.u+1=n+(A5.u+2):=by omega
     have ee:es++A5.es++[AW n A5.p]++[AW n (n+1+A5.u)]++[AW A5.q A5.p]++[AW A5.q (n+1+A5.u)]=es++(A5.es++[AW n A5.p,AW n (n+1+A5.u),AW A5.q A5.p,AW A5.q (n+1+A5.u)]):=by simp
     rw[en,ee]at U;exact⟨M,O,rfl,U⟩
 | and_ d g X a7=>
   intro Z H ps n c a es s st hn hl;generalize e:Bx sub (.and_ d g) n s=V;refine Ak.of_vc func138 rfl (call138 _) (fa CE ?_);refine lT (v:=A_ 0) Ks ((st.blk 0 rfl).ce rfl) ?_;simp only[ReM.nodes,Ycy,L']at hn hl Z;refine CC underlying98 (by intro w h;cases h) Ic (by decide) ?_;refine CC underlying104 (by intro w h;cases h) Ie (by decide) ?_;refine CC underlying105 (by intro w h;cases h) JT (by decide) ?_;refine CC underlying305 (by intro w h;cases h) Le (by decide) ?_;refine CC underlying310 (by intro w h;cases h) Nn (by decide) ?_;refine FZ underlying64 (by intro w h;cases h) ?_;refine CC underlying65 (by intro w h;cases h) R4 (by decide) ?_;obtain⟨s4,x4,A⟩:∃s1 y,DD (sub (.and_ d g) s) n=(s1,y):=⟨_,_,rfl⟩;have Q:=AfL (r:=.and_ d g) hE am st (by omega) (by omega) (aj (.and_ d g) rfl (by simp only[ReM.nodes];omega) s);rw[A]at Q;refine Ae.mk Q ?_;rintro v4 G4 R;obtain rfl:V=(s4,x4):=by rw[←e,←A];rfl
   cases x4 with
   | error e4=>
     obtain⟨a0,p4,q4,n4,a4,c4,a1,rfl,a9,ab,ae,ao,ak,i⟩:=R;(conv=>whnf);exact⟨a0,p4,q4,n4,a4,c4,a1,rfl,a9,ab,ae,by simp only[ReM.nodes];omega,by simp only[ReM.nodes,Ycy,L'];omega,i⟩
   | ok A4=>
     obtain⟨a4,c4,rfl,i⟩:=R;(conv=>whnf);exact⟨a4,c4,rfl,i⟩
 | minus d g X a7=>
   intro Z H ps n c a es s st hn hl;generalize e:Bx sub (.minus d g) n s=V;refine Ak.of_vc func138 rfl (call138 _) (fa CE ?_);refine lT (v:=A_ 0) Ks ((st.blk 0 rfl).ce rfl) ?_;simp only[ReM.nodes,Ycy,L']at hn hl Z;refine CC underlying98 (by intro w h;cases h) Ic (by decide) ?_;refine CC underlying104 (by intro w h;cases h) Ie (by decide) ?_;refine CC underlying105 (by intro w h;cases h) JT (by decide) ?_;refine CC underlying305 (by intro w h;cases h) Le (by decide) ?_;refine CC underlying310 (by intro w h;cases h) Nn (by decide) ?_;refine CC underlying64 (by intro w h;cases h) Nm (by decide) ?_;refine FZ underlying65 (by intro w h;cases h) ?_;obtain⟨s4,x4,A⟩:∃s1 y,DD (sub (.minus d g) s) n=(s1,y):=⟨_,_,rfl⟩;have Q:=AfL (r:=.minus d g) hE am st (by omega) (by omega) (aj (.minus d g) rfl (by simp only[ReM.nodes];omega) s);rw[A]at Q;refine Ae.mk Q ?_;rintro v4 G4 R;obtain rfl:V=(s4,x4):=by rw[←e,←A];rfl
   cases x4 with
   | error e4=>
     obtain⟨a0,p4,q4,n4,a4,c4,a1,rfl,a9,ab,ae,ao,ak,i⟩:=R;(conv=>whnf);exact⟨a0,p4,q4,n4,a4,c4,a1,rfl,a9,ab,ae,by simp only[ReM.nodes];omega,by simp only[ReM.nodes,Ycy,L'];omega,i⟩
   | ok A4=>
     obtain⟨a4,c4,rfl,i⟩:=R;(conv=>whnf);exact⟨a4,c4,rfl,i⟩
def Kn{σ:Type}(sub:ReM→σ→σ×Except Int N_)(r:ReM)(s:σ):σ×Except Int N_:=
 if 2000<r.nodes then(s,.error 24)else BB (Bx sub r 0 s) fun A s1=>if 65536<A.u then(s1,.error 40)else(s1,.ok ⟨A.u,A.p,A.q,A.es⟩)
section
variable{σ:Type}{B:Nat→Prop}{H0:Aa}{P:σ→List Pc}{sub:ReM→σ→σ×Except Int N_}{E:Nat}{f:FuncId}{first cap:Array v_}
theorem QM(hE:Sa sub E)(I:E≤33554432)(r:ReM)(S:r.nodes≤1000000000)
  (J:∀(G:ReM),Rn G=true→G.nodes≤r.nodes→∀(s:σ) {ps':List Pc} {H':Aa},B_ B H0 H' (ps'++P s)→Ak prog f (first.toList++[Ao G]++cap.toList).toArray H' (Sb B H0 E ps' P (sub G s)))
  {H:Aa} {ps:List Pc} {s:σ} (st:B_ B H0 H (ps++P s)):
  Ak prog 84 #[Ao r,.func (.func f) first cap] H (Sb B H0 ((E+4)*2000) ps P (Kn sub r s)):=by
 have l:=fun(bb:Nat) (H:Aa) (ps:List Pc) (n c:Nat) (a:Option Addr) (es:List Y')=>AdT (N:=r.nodes) hE I (f:=f) (first:=first) (cap:=cap) (B:=B) (H0:=H0) (P:=P) (fun G h1 h2 s ps' H' T=>J G h1 h2 s T) r (I_ _) (bb:=bb) (H:=H) (ps:=ps) (n:=n) (c:=c) (a:=a) (es:=es) (s:=s);rw[Ot]at l ⊢;refine Ak.of_vc func84 rfl (call84 _) (Am _ [A_ 0,A_ 0,A_ 0,.slice none 0 0] Ee rfl ?_);intro y H1 hy U V W;have st1:B_ B H0 H1 (pB 76 y [A_ 0,A_ 0,A_ 0,.slice none 0 0]::(ps++P s)):=(st.box hy U V W).perm (YdF _ _);refine Wn underlying28 (JY.mk (HH r) #[FE r] (Gy r) (AaQ r S H1) ?_);rintro _ H2 ⟨rfl,X⟩;have K:=st1.call X;by_cases w:2000<r.nodes
 ·have Y:decide ((2000:Int)<(r.nodes:Int))=true:=e_;(conv=>whnf);rw[Y];refine Ax underlying76 rfl _ Ee [A_ 0,A_ 0,A_ 0,.slice none 0 0] rfl (AN (cs:=[A_ 0,A_ 0,A_ 0,.slice none 0 0]) K 0 rfl rfl (I_ _) rfl fun H3 m=>?_);refine L_ (cs:=[A_ 0,A_ 0,A_ 0,.slice none 0 0]) FI ((m.blk 0 rfl).cells fun j v g=>by rw[K_];exact g) trivial ?_;(conv=>whnf);have e1:Kn sub r s=(s,.error 24):=by unfold Kn;rw[F_ w]
  rw[e1];exact⟨_,rfl,rfl,rfl,m.sub (YdE _ _)⟩
 have Y:decide ((2000:Int)<(r.nodes:Int))=false:=V_;(conv=>whnf);rw[Y];refine Ax underlying246 rfl _ bd_z (bdX 0 0 (.slice none 0 0) (.func (.func f) first cap)) (by kernel_rfl) (Ct (bdX 0 0 (.slice none 0 0) (.func (.func f) first cap)) rfl ?_);intro bb H3 Z a0 a1 a2;have z:B_ B H0 H3 (pB tBd bb (bdX 0 0 (.slice none 0 0) (.func (.func f) first cap))::(pB 76 y [A_ 0,A_ 0,A_ 0,.slice none 0 0]::(ps++P s))):=(K.box Z a0 a1 a2).perm (YdF _ _);have C:=(z.nils tEd 174).perm (YdF _ _);have m:B_ B H0 H3 (bdQ bb 0 0 (.func (.func f) first cap) none 0 [] ((pB 76 y [A_ 0,A_ 0,A_ 0,.slice none 0 0]::ps)++P s)):=C.perm (List.Perm.swap _ _ _);clear z C;have hp:=l _ _ _ 0 _ _ _ m (by omega) (by simp only[m_,K_];exact YbA (Nat.mul_le_mul (Nat.add_le_add_right I 4) (show r.nodes≤2000 by omega)) (by decide));obtain⟨L,x4,D⟩:∃R a3,Bx sub r 0 s=(R,a3):=⟨_,_,rfl⟩;rw[D]at hp;refine Ae.mk hp ?_;rintro v4 H4 M;have a5:Kn sub r s=BB (L,x4) fun A R=>if 65536<A.u then(R,.error 40)else(R,.ok ⟨A.u,A.p,A.q,A.es⟩):=by unfold Kn;rw[D_ w,D]
 rw[a5];cases x4 with
 | error O=>
   obtain⟨a6,p4,q4,n4,o,t,a7,rfl,ag,ah,ai,aj,ak,i⟩:=M;replace i:B_ B H0 H4 (bdQ bb O n4 (.func (.func f) first cap) o t a7 ((pB 76 y [A_ 0,A_ 0,A_ 0,.slice none 0 0]::ps)++P L)):=i;refine fa Cd (fa K1 (Bh i 0 E_ rfl (show 1<6 by decide) rfl fun H5 F=>(fa Cd (fa LA (Bh F 0 E_ rfl (show 2<6 by decide) rfl fun H6 b=>(fa CE ?_))))));refine lT (v:=A_ O) Ks ((b.blk 0 rfl).ce rfl) ?_;have Q:(O != 0)=true:=bne_iff_ne.2 a6;(conv=>whnf);rw[Q];have a8:bb≠y:=(b.blk 0 rfl).ne (b.blk 2 rfl) (by decide);refine Aq.held (fun k=>k=bb) 7 (sq [0,1,2,3,4] (.f 5 (sq [6] .e))) rfl (by kernel_rfl) (Ax underlying76 rfl _ Ee [A_ 0,A_ 0,A_ 0,.slice none 0 0] rfl (fa CE ?_));refine G_ (v:=A_ O) Ks ((b.blk 0 rfl).ce rfl) rfl ?_;refine Bw (cs:=[A_ 0,A_ 0,A_ 0,.slice none 0 0]) b 2 rfl rfl (I_ _) rfl fun H7 d ja js=>?_;refine⟨ja.mono fun k hk=>by rw[show k=bb from hk];exact a8,?_⟩;refine L_ (cs:=[A_ 0,A_ 0,A_ 0,.slice none 0 0]) FI ((d.blk 2 rfl).cells fun j v g=>by rw[K_];exact g) trivial ?_;(conv=>whnf);rw[C5 (x:=(L,(.error O:Except Int BR))) rfl];exact⟨_,rfl,rfl,rfl,d.sub (.cons _ (.cons _ (YdE _ _)))⟩
 | ok A=>
   obtain⟨o,t,rfl,i⟩:=M;have a9:=BS hE _ _ _ _ _ D;replace i:B_ B H0 H4 (bdQ bb 0 A.u (.func (.func f) first cap) o t A.es ((pB 76 y [A_ 0,A_ 0,A_ 0,.slice none 0 0]::ps)++P L)):=by
    have h:=i;rwa [Ybo,K_]at h
   refine fa Cd (fa K1 (Bh i 0 E_ rfl (show 1<6 by decide) rfl fun H5 F=>(fa Cd (fa LA (Bh F 0 E_ rfl (show 2<6 by decide) rfl fun H6 b=>(fa CE ?_))))));refine lT (v:=A_ 0) Ks ((b.blk 0 rfl).ce rfl) ?_;refine fa Cd (fa E8 ?_);refine lT (v:=A_ (A.u:Int)) E_ ((b.blk 0 rfl).ce rfl) ?_;rw[C1 (x:=(L,(.ok A:Except Int BR))) rfl];by_cases hu:65536<A.u
   ·have Q:decide ((65536:Int)<(A.u:Int))=true:=e_;(conv=>whnf);rw[Q];refine Ax underlying76 rfl _ Ee [A_ 0,A_ 0,A_ 0,.slice none 0 0] rfl (AN (cs:=[A_ 0,A_ 0,A_ 0,.slice none 0 0]) b 2 rfl rfl (I_ _) rfl fun H7 d=>?_);refine L_ (cs:=[A_ 0,A_ 0,A_ 0,.slice none 0 0]) FI ((d.blk 2 rfl).cells fun j v g=>by rw[K_];exact g) trivial ?_;(conv=>whnf);rw[F_ hu];exact⟨_,rfl,rfl,rfl,d.sub (.cons _ (.cons _ (YdE _ _)))⟩
   ·have Q:decide ((65536:Int)<(A.u:Int))=false:=V_;(conv=>whnf);rw[Q];refine fa Cd ?_;have ab:Be H6 bb 0 (nfL ⟨A.u,A.p,A.q,A.es⟩ (.slice o A.es.length t)):=(b.blk 0 rfl).cells fun j v g=>by
     rw[K_]
     match j,g with
     | 0,g=>exact g
     | 1,g=>exact g
     | 2,g=>exact g
     | 3,g=>exact g
    refine L_ (cs:=nfL ⟨A.u,A.p,A.q,A.es⟩ (.slice o A.es.length t)) FI ab trivial (AN (cs:=nfL ⟨A.u,A.p,A.q,A.es⟩ (.slice o A.es.length t)) b 2 rfl rfl (I_ _) rfl fun H7 d=>?_);rw[Aw (show(nfL ⟨A.u,A.p,A.q,A.es⟩ (.slice o A.es.length t)).length=4 from rfl)]at d;refine L_ (cs:=nfL ⟨A.u,A.p,A.q,A.es⟩ (.slice o A.es.length t)) FI ((d.blk 2 rfl).cells fun j v g=>by rw[K_];exact g) trivial ?_;(conv=>whnf);rw[D_ hu];have ae:A.es.length≤(E+4)*2000:=YbA a9.2.2.2.2.2 (Ycx _ (by omega));exact⟨ae,⟨BX (by omega),BX (by omega),BX (by omega)⟩,o,t,rfl,((d.sub (YdE _ _)).perm (List.Perm.swap _ _ _) |>.sub (YdE _ _)).perm (YdF _ _).symm⟩
end
section
attribute [local irreducible] Bj Bd AP Fz
theorem PA.hops_len(d:PA)(q k:Nat):(d.hopsTo q k).length≤256:=by
 have c:∀l:List Nat,(l.filterMap fun t=>if(d.use t&&(d.set q t != 0#256))=true then some (D2 (d.place q) (d.place t) (d.set q t))else none).length=(l.filter fun t=>d.use t&&(d.set q t != 0#256)).length:=by
  intro l
  induction l with
  | nil=>rfl
  | cons t l e=>
    by_cases h:(d.use t&&(d.set q t != 0#256))=true
    ·rw[YdH,F_ h,YcU,F_ h,b_,b_,e]
    ·rw[YdH,D_ h,YcU,D_ h,e]
 unfold PA.hopsTo;rw[c];have:=Iv (a:=(AjM k).filter fun t=>d.use t&&(d.set q t != 0#256)) (b:=(AjM 256).map (d.st q)) (List.nodup_range.filter _) fun t f=>by
  have h:=(Ybn.1 f).2;rw[Bool.and_eq_true,bne_iff_ne]at h;refine Classical.byContradiction fun g=>h.2 (Yap fun i j=>?_);rw[BitVec.getLsbD_zero];cases m:(d.set q t).getLsbD i with
  | false=>rfl
  | true=>exact absurd (I'.2 ⟨i,YaY.2 j,(PA.set_bit.1 m).2⟩) g
 rwa [Z_,Ydv]at this
theorem PA.edges_place(d:PA):∀k,(d.edgesTo k).length≤257*d.place k:=fun k=>by
 induction k with
 | zero=>simp[PA.edgesTo]
 | succ k a=>
   have e:d.edgesTo (k+1)=d.edgesTo k++(if d.use k=true then d.hopsTo k d.n++d.endE k else []):=by
    unfold PA.edgesTo;rw[YcW,YcV];simp
   rw[e,J_,PA.place_succ];have b:=PA.hops_len d k d.n;have c:(d.endE k).length≤1:=by unfold PA.endE;split<;>simp
   split
   ·rw[J_];omega
   ·simp;omega
theorem UE(d:PA):(AB d).edges.length+1≤258*(AB d).st.toNat:=by
 unfold AB;split
 ·have:=PA.edges_place d d.n;show(d.edgesTo d.n).length+1≤258*((d.count:Int)+1).toNat;have:((d.count:Int)+1).toNat=d.count+1:=by omega
  rw[this];have:d.place d.n=d.count:=rfl;omega
 ·decide
theorem Ev{σ:Type}{sub:ReM→σ→σ×Except Int N_}{E:Nat}(g:Sa sub E)(f:∀r s d a,sub r s=(d,.ok a)→a.edges.length+1≤258*a.st.toNat):∀(r:ReM) (n:Nat) (s d:σ) (A:BR),Bx sub r n s=(d,.ok A)→A.es.length+1≤258*A.u
 | .eps,n,s,d,A,h=>by cases h;simp
 | .cls t,n,s,d,A,h=>by cases h;simp
 | .cat a b,n,s,d,A,h=>by
   have⟨i,A1,e,c⟩:=AL h;have⟨o,A2,j,k⟩:=AL c;cases k;have m:=Ev g f a _ _ _ _ e;have p:=Ev g f b _ _ _ _ j;simp only[J_,h_,Ycy];omega
 | .alt a b,n,s,d,A,h=>by
   have⟨i,A1,e,c⟩:=AL h;have⟨o,A2,j,k⟩:=AL c;cases k;have m:=Ev g f a _ _ _ _ e;have p:=Ev g f b _ _ _ _ j;simp only[J_,b_,m_,Ycy];omega
 | .star a,n,s,d,A,h=>by
   have⟨i,A1,e,c⟩:=AL h;cases c;have m:=Ev g f a _ _ _ _ e;simp only[J_,b_,m_,Ycy];omega
 | .and_ a b,n,s,d,A,h=>by
   have⟨i,N,e,c⟩:=AL (show DD _ n=_ from h);have l:=f _ _ _ _ e;split at c
   ·cases c;simp only[Z_];exact l
   ·cases c
 | .minus a b,n,s,d,A,h=>by
   have⟨i,N,e,c⟩:=AL (show DD _ n=_ from h);have l:=f _ _ _ _ e;split at c
   ·cases c;simp only[Z_];exact l
   ·cases c
theorem Yd(b:Int):∀r s c a,LZ b r s=(c,.ok a)→a.edges.length+1≤258*a.st.toNat:=fun r s c a h=>by
 have e:∀{ends:Bool→Bool→Bool} {f g:Nat→Nat×Except Int PA} {s c:Nat} {N:N_},DO b ends f g s=(c,.ok N)→N.edges.length+1≤258*N.st.toNat:=fun h=>by
  obtain⟨i,j,k,l,d,m,n,o,rfl,p⟩:=OO h;exact UE d
 cases r with
 | and_ x y=>exact e (show DO b Pd (fun s=>FM b (BL b x 0 s)) (fun s=>FM b (BL b y 0 s)) _=_ from h)
 | minus x y=>exact e (show DO b Pl (fun s=>FM b (BL b x 0 s)) (fun s=>FM b (BL b y 0 s)) _=_ from h)
 | _=>cases h
theorem UW{b:Int}{r:ReM}{n s a:Nat}{A:BR}(h:BL b r n s=(a,.ok A)):A.es.length+1≤258*A.u:=by
 rw[Ef]at h;exact Ev (J8 b) (Yd b) r n s a A h
theorem AcB{S:Nat→Prop}{H:Aa}{v:v_}{a:N_}{b:Int}(w:∀k,S k→k<H.size)(h:NfV S H v a)(g:EM prog H):
  Ak prog 38 #[v,A_ b] H fun r H'=>C_ (H_ H) H H'∧match L8 b a with
   | .error e=>r= .tuple #[.pointer none,A_ e]
   | .ok d=>∃v A,r= .tuple #[v,A_ 0]∧AZ (fun k=>H.size≤k∧k<H'.size) H' v (some A)∧B9 (some A)∧Fx (some A) d:=by
 have x:L8 b a=match KR a b with
   | .error e=>.error e
   | .ok F=>.ok (paF (BT a) (fun X=>decide (a.fin∈X)) F):=rfl
 rw[x];by_cases o:b<1∨4096<b
 ·rw[Zb o];exact(L9 h o).mono fun r H' ⟨j,c⟩=>⟨c,j⟩
 ·obtain⟨m,rfl⟩:=Int.eq_ofNat_of_zero_le (show 0≤b by omega);rw[Ac9 (by omega) (by omega)];refine(Pi w h g (budget:=m) (by omega) (by omega)).mono fun r H' ⟨j,c⟩=>⟨j,?_⟩;have i:=detA a (most:=m) (by omega);cases n:Fy m (BT a) (CG (Dw a)) (M8 a)with
  | none=>
    rw[n]at c i;rw[←i];exact c
  | some q=>
    have⟨F,rows⟩:=q;rw[n]at c i;rw[←i];obtain⟨y,rfl,p⟩:=c;have⟨s,t,z⟩:=Ai6 (by omega) (by omega) n;rw[s,F_ rfl]at p;have⟨g1,g2,B⟩:=Ns (step:=BT a) (start:=M8 a) (most:=m) (F:=F) (by omega) (by
     have:Zd a m=some F:=i.symm;exact this)
    have u:=SV (K':=List Int) (f:=id) (step':=BT a) (fin':=fun X=>decide (a.fin∈X)) (fin:=fun X=>decide (a.fin∈X)) g1 (fun _ _ _ _ e=>e) (fun _ _ _ _=>rfl) (fun _ _=>rfl) (s1:=As (some _)) (f1:=AY (some _)) (by rw[List.map_id];exact t.st) (by rw[List.map_id];exact t.fi);exact⟨y,_,rfl,p,⟨Bz (Dw a),rows.map AR,F.map fun l=>decide (a.fin∈l),by unfold Cs;rw[Z_,s];rfl⟩,⟨z,u.1,u.2⟩⟩
theorem AcC{K:Type} [DecidableEq K]{most:Nat}{step:K→Nat→K}{start:K}{P:K→Prop}(c:1≤most)(h0:P start)(hs:∀x b,P x→P (step x b)){F:List K}(h:Fz most step start=some F):∀x∈F,P x:=by
 unfold Fz at h;cases a:Fy most step (AjM 256) start with
 | none=>rw[a]at h;cases h
 | some z=>
   have⟨G,rows⟩:=z;rw[a]at h;simp only[Option.map_some,Ak5.injEq]at h;subst h;exact(Fv (P:=P) c h0 hs _ most G rows a).2.2.2
def AgJ(x:Nat×Nat):Int×Int:=((x.1:Int),(x.2:Int))
theorem AdY{a b:Option AM}{g h:PA}(l:Fx a g)(o:Fx b h)(j:g.Ok)(k:h.Ok)(m:Nat):(prN g h m).map (List.map AgJ)=prW a b m:=by
 refine SA (most:=m) (step:=I7 g h) (step':=Cn a b) (start:=(0,0)) (f:=AgJ) (I:=fun x=>x.1<g.n∧x.2<h.n) (fun y z _ _ e=>?_) ⟨j.pos,k.pos⟩ fun x c i d=>?_
 ·have p:(y.1:Int)=(z.1:Int):=congrArg Prod.fst e;have e2:(y.2:Int)=(z.2:Int):=congrArg Prod.snd e;exact Prod.ext (by omega) (by omega)
 ·unfold I7 Cn;rw[F_ d,F_ d];exact⟨⟨j.cl _ _ i.1 d,k.cl _ _ i.2 d⟩,Prod.ext (l.st _ _ i.1 d).symm (o.st _ _ i.2 d).symm⟩
theorem AfJ{a b:Option AM}{g i:PA}{ends:Bool→Bool→Bool}{m:Int}{H H':Aa}{r:v_}(q:Fx a g)(s:Fx b i)(t:g.Ok)(u:i.Ok)(h:Mf a b ends m H H' r):
  match prX m ends g i with
   | .error e=>r= .tuple #[.pointer none,A_ e]
   | .ok d=>∃v A,r= .tuple #[v,A_ 0]∧AZ (fun k=>H.size≤k∧k<H'.size) H' v (some A)∧B9 (some A)∧Fx (some A) d:=by
 unfold Mf at h;unfold prX;by_cases B:m<1∨4096<m
 ·rw[F_ B]at h ⊢;exact h
 ·rw[D_ B]at h ⊢;rw[←AdY q s t u]at h;cases o:prN g i m.toNat with
  | none=>
    rw[o]at h;exact h
  | some F=>
    rw[o]at h;obtain⟨v,A,rfl,E,w,C,G⟩:=h;have⟨g1,g2,I⟩:=Ns (step:=I7 g i) (start:=(0,0)) (most:=m.toNat) (F:=F) (by omega) o;have p:∀x∈F,x.1<g.n∧x.2<i.n:=by
     have:=AcC (step:=I7 g i) (start:=(0,0)) (most:=m.toNat) (P:=fun x=>x.1<g.n∧x.2<i.n) (by omega) ⟨t.pos,u.pos⟩ (fun x c j=>by
      unfold I7;split
      ·rename_i l;exact⟨t.cl _ _ j.1 l,u.cl _ _ j.2 l⟩
      ·exact j) o
     exact this
    have D:=SV (K':=Int×Int) (f:=AgJ) (step':=Cn a b) (fin':=fun x:Int×Int=>ends (AY a x.1) (AY b x.2)) (fin:=AcG ends g i) g1 (fun y _ z _ e=>by
      have J:(y.1:Int)=(z.1:Int):=congrArg Prod.fst e;have e2:(y.2:Int)=(z.2:Int):=congrArg Prod.snd e;exact Prod.ext (by omega) (by omega)) (fun x j c l=>by
      unfold I7 Cn;rw[F_ l,F_ l];exact Prod.ext (q.st _ _ (p x j).1 l) (s.st _ _ (p x j).2 l)) (fun x j=>by
      show ends (AY a (x.1:Int)) (AY b (x.2:Int))=ends (g.fi x.1) (i.fi x.2);rw[q.fi _ (p x j).1,s.fi _ (p x j).2]) C.st C.fi
    exact⟨v,A,rfl,E,w,by rw[G,Z_];rfl,D.1,D.2⟩
end
section
attribute [local irreducible] Bj Bd AP
section
variable{o:Option AM}{n q j:Nat}
end
end
section
attribute [local irreducible] Bj Bd AP Fz
def FC(d:PA)(reps:List Nat)(q j t:Nat):List Nat:=((AjM q).flatMap fun p=>(reps.filter fun r=>d.st p r==t).map fun _=>p)++((reps.take j).filter fun r=>d.st q r==t).map fun _=>q
def asN(l:List Nat):List Int:=l.map fun(p:Nat)=>(p:Int)
def Kc(d:PA)(reps:List Nat)(q j:Nat):List (List Int):=(AjM d.n).map fun t=>asN (FC d reps q j t)
section
variable{d:PA}{reps:List Nat}{q j t:Nat}
theorem Ug{r:Nat}(h:reps[j]?=some r):FC d reps q (j+1) t=FC d reps q j t++if d.st q r=t then [q]else []:=by
 unfold FC;rw[Af h,Ybg,YcB,YaN]
 congr 2
 by_cases e:d.st q r=t<;>simp[e]
theorem Uh(h:reps.length≤j):FC d reps q j t=FC d reps (q+1) 0 t:=by
 unfold FC;rw[Yc2 h,YcW,YcV];simp
theorem Pv(a:reps.length≤256):(FC d reps q j t).length≤q*256+256:=by
 have b:∀p,((reps.filter fun r=>d.st p r==t).map fun _=>p).length≤256:=fun p=>by
  rw[Z_];exact YbA (Ybd _ _) a
 have c:∀q,((AjM q).flatMap fun p=>(reps.filter fun r=>d.st p r==t).map fun _=>p).length≤q*256:=fun q=>by
  induction q with
  | zero=>simp
  | succ q e=>rw[YcW,YcV,J_];have:=b q;simp only[List.flatMap_cons,List.flatMap_nil,YaX];omega
 unfold FC;rw[J_,Z_];have f:=c q;have g:=Ybd (fun r=>d.st q r==t) (reps.take j);have h:=List.length_take_le' j reps;omega
theorem Tg{p:Nat}:p∈FC d reps q 0 t↔p<q∧∃r∈reps,d.st p r=t:=by
 unfold FC;simp only[Ybq,List.filter_nil,Yc8,YaX,List.mem_flatMap,YaY,I',Ybn,beq_iff_eq];constructor
 ·rintro⟨c,a,r,⟨b,h⟩,rfl⟩;exact⟨a,r,b,h⟩
 ·rintro⟨a,r,b,h⟩;exact⟨p,a,r,⟨b,h⟩,rfl⟩
theorem JA:(Kc d reps q j).length=d.n:=by simp[Kc]
theorem Lt(h:t<d.n):(Kc d reps q j)[t]?=some (asN (FC d reps q j t)):=by
 unfold Kc;rw[o_,YaR h];rfl
theorem AaZ{r:Nat}(h:reps[j]?=some r)(b:d.st q r<d.n):(Kc d reps q j).set (d.st q r) (asN (FC d reps q j (d.st q r))++[(q:Int)])=Kc d reps q (j+1):=by
 apply YaJ;intro i;by_cases a:i<d.n
 ·rw[YaT,Lt a,Lt a,JA,Ug h];by_cases e:d.st q r=i
  ·subst e;rw[F_ rfl,F_ a,F_ rfl];unfold asN;rw[YcB];rfl
  ·rw[D_ e,D_ e,YaX]
 ·rw[YaL (by rw[YaH,JA];omega),YaL (by rw[JA];omega)]
theorem Yh(h:reps.length≤j):Kc d reps q j=Kc d reps (q+1) 0:=by
 unfold Kc;refine YcE fun t _=>?_;rw[Uh h]
theorem Yi:Kc d reps 0 0=Aj1 d.n []:=by
 unfold Kc;rw[YdG];refine⟨by simp,fun b a=>?_⟩;obtain⟨i,-,rfl⟩:=I'.1 a;rfl
def Ka(d:PA)(k:Nat):List Bool:=(AjM d.n).map fun i=>decide (i<k)&&d.fi i
def IF(d:PA)(k:Nat):List Int:=asN ((AjM k).filter d.fi)
theorem Gj{k:Nat}:(Ka d k).length=d.n:=by simp[Ka]
theorem Xp:Ka d 0=Aj1 d.n false:=by
 unfold Ka;rw[YdG];refine⟨by simp,fun b a=>?_⟩;obtain⟨i,-,rfl⟩:=I'.1 a;simp
theorem Hx{k i:Nat}(h:i<d.n):(Ka d k)[i]?=some (decide (i<k)&&d.fi i):=by
 unfold Ka;rw[o_,YaR h];rfl
theorem Zr{k:Nat}(h:k<d.n)(c:d.fi k=true):(Ka d k).set k true=Ka d (k+1):=by
 apply YaJ;intro i;by_cases a:i<d.n
 ·rw[YaT,Hx a,Hx a,Gj];by_cases e:k=i
  ·subst e;rw[F_ rfl,F_ a,c];simp
  ·rw[D_ e];by_cases b:i<k
   ·simp[b,show i<k+1 by omega]
   ·simp[b,show¬i<k+1 by omega]
 ·rw[YaL (by rw[YaH,Gj];omega),YaL (by rw[Gj];omega)]
theorem Xo{k:Nat}(b:d.fi k=false):Ka d k=Ka d (k+1):=by
 unfold Ka;refine YcE fun i _=>?_;by_cases e:i=k
 ·subst e;simp[b]
 ·by_cases a:i<k
  ·simp[a,show i<k+1 by omega]
  ·simp[a,show¬i<k+1 by omega]
theorem Q0{k:Nat}(a:d.fi k=true):IF d (k+1)=IF d k++[(k:Int)]:=by
 unfold IF asN;rw[YcW,Ybg,YcB];simp[a]
theorem Q1{k:Nat}(a:d.fi k=false):IF d (k+1)=IF d k:=by
 unfold IF asN;rw[YcW,Ybg,YcB];simp[a]
theorem Ab3(k:Nat):(IF d k).length≤k:=by
 unfold IF asN;rw[Z_];have:=Ybd d.fi (AjM k);rwa [Ydv]at this
def AfX(d:PA)(p t:Nat):Prop:=∃b,b<256∧d.st p b=t
structure UsI(d:PA)(Ex:Nat→Prop)(outs:List Bool)(todo:List Int):Prop where
 len:outs.length=d.n
 td:∀x∈todo,∃q:Nat,x=(q:Int)∧outs[q]?=some true
 live:∀q:Nat,outs[q]?=some true→d.Live q
 fin:∀q:Nat,q<d.n→d.fi q=true→outs[q]?=some true
 cl:∀q:Nat,outs[q]?=some true→(q:Int)∈todo∨Ex q∨∀p:Nat,p<d.n→AfX d p q→outs[p]?=some true
 room:todo.length+outs.count false≤d.n
theorem UsI.start(d:PA):UsI d (fun _=>False) (Ka d d.n) (IF d d.n):=by
 refine⟨Gj,fun x g=>?_,fun q a=>?_,fun q a j=>?_,fun q a=>?_,?_⟩
 ·unfold IF asN at g;obtain⟨p,k,rfl⟩:=I'.1 g;have⟨c,m⟩:=Ybn.1 k;have c:=YaY.1 c;exact⟨p,rfl,by rw[Hx c];simp[c,m]⟩
 ·have b:=(O_.1 a).1;rw[Gj]at b;rw[Hx b]at a;simp[b]at a;exact .fin b a
 ·rw[Hx a];simp[a,j]
 ·have b:=(O_.1 a).1;rw[Gj]at b;rw[Hx b]at a;simp[b]at a;refine .inl ?_;unfold IF asN;exact I'.2 ⟨q,Ybn.2 ⟨YaY.2 b,a⟩,rfl⟩
 ·have f:∀l:List Nat,(l.filter d.fi).length+(l.map fun i=>d.fi i).count false=l.length:=by
   intro l
   induction l with
   | nil=>rfl
   | cons i l r=>
     cases h:d.fi i<;>simp[h]<;>omega
  have e:Ka d d.n=(AjM d.n).map fun i=>d.fi i:=by
   unfold Ka;refine YcE fun i o=>?_;simp[YaY.1 o]
  have:=f (AjM d.n);rw[Ydv]at this;rw[e];unfold IF asN;rw[Z_];omega
section
variable{a:List Bool}
theorem UsI.pop{q:Nat}{todo:List Int}(h:UsI d (fun _=>False) a ((q:Int)::todo)):UsI d (·=q) a todo:=by
 refine⟨h.len,fun x c=>h.td x (YbY _ c),h.live,h.fin,fun p e=>?_,by have:=h.room;simp only[b_]at this;omega⟩;rcases h.cl p e with b | b | b
 ·rcases YaP.1 b with b | b
  ·exact .inr (.inl (by omega))
  ·exact .inl b
 ·exact b.elim
 ·exact .inr (.inr b)
theorem P7{p:Nat}(c:a[p]?=some false):(a.set p true).count false+1=a.count false:=by
 induction a generalizing p with
 | nil=>cases c
 | cons b l d=>
   cases p with
   | zero=>cases c;simp
   | succ p=>have:=d (p:=p) c;cases b<;>simp<;>omega
theorem Jv{p q:Nat}(h:a[q]?=some true):(a.set p true)[q]?=some true:=by
 rw[YaT];split
 ·rename_i e;subst e;rw[F_ (O_.1 h).1]
 ·exact h
end
theorem UsI.push{Ex:Nat→Prop}{a:List Bool}{p q:Nat}{todo:List Int}(h:UsI d Ex a todo)(o:a[p]?=some false)(r:a[q]?=some true)(j:AfX d p q):UsI d Ex (a.set p true) (todo++[(p:Int)]):=by
 have g:=(O_.1 o).1;have k:p<d.n:=by rw[←h.len];exact g
 have f:(a.set p true)[p]?=some true:=by rw[YaT,F_ rfl,F_ g]
 refine⟨by rw[YaH];exact h.len,fun x c=>?_,fun x c=>?_,fun x c s=>Jv (h.fin x c s),fun x c=>?_,?_⟩
 ·rcases q_.1 c with c | c
  ·have⟨y,e,l⟩:=h.td x c;exact⟨y,e,Jv l⟩
  ·exact⟨p,Y_.1 c,f⟩
 ·rw[YaT]at c;split at c
  ·rename_i e;subst e;have⟨b,t,e⟩:=j;exact .step k t (by rw[e];exact h.live q r)
  ·exact h.live x c
 ·by_cases e:p=x
  ·subst e;exact .inl (Ycz _ (Y_.2 rfl))
  ·rw[YaT,D_ e]at c;rcases h.cl x c with i | i | i
   ·exact .inl (YbV _ i)
   ·exact .inr (.inl i)
   ·exact .inr (.inr fun y l m=>Jv (i y l m))
 ·have:=h.room;have:=P7 o;rw[J_,h_];omega
theorem UsI.shut{a:List Bool}{q:Nat}{todo:List Int}(h:UsI d (·=q) a todo)(hs:∀p:Nat,p<d.n→AfX d p q→a[p]?=some true):UsI d (fun _=>False) a todo:=by
 refine⟨h.len,h.td,h.live,h.fin,fun x c=>?_,h.room⟩;rcases h.cl x c with b | b | b
 ·exact .inl b
 ·subst b;exact .inr (.inr hs)
 ·exact .inr (.inr b)
noncomputable def TQ(d:PA):List Bool:=(AjM d.n).map d.use
theorem Lx:(TQ d).length=d.n:=by simp[TQ]
theorem JD{q:Nat}(h:q<d.n):(TQ d)[q]?=some (d.use q):=by
 unfold TQ;rw[o_,YaR h];rfl
theorem UsI.done{a:List Bool}(h:UsI d (fun _=>False) a []):a=TQ d:=by
 have f:∀q:Nat,d.Live q→a[q]?=some true:=by
  intro q e
  induction e with
  | fin g i=>exact h.fin _ g i
  | @step q b g i h3 ih=>
    rcases h.cl _ ih with c | c | c
    ·cases c
    ·exact c.elim
    ·exact c _ g ⟨b,i,rfl⟩
 apply YaJ;intro q;by_cases e:q<d.n
 ·rw[JD e];have⟨b,j⟩:=Ac (l:=a) (k:=q) (by rw[h.len];exact e);rw[j]
  congr 1
  cases b with
  | true=>exact(PA.use_iff.2 (h.live q j)).symm
  | false=>
    cases m:d.use q with
    | false=>rfl
    | true=>have:=f q (PA.use_iff.1 m);rw[j]at this;cases this
 ·rw[YaL (by rw[h.len];omega),YaL (by rw[Lx];omega)]
end
theorem AaE{o:Option AM}{d:PA}(r:B9 o)(f:Fx o d){q b:Nat}(m:q<d.n)(g:b<256):∃(k c:Nat) (s:BitVec 256),(Ag o)[k]?=some s∧(Br (Ag o))[k]?=some c∧s.getLsbD b=true∧d.st q c=d.st q b:=by
 have⟨v,h⟩:=r.ok;obtain⟨k,s,e,a,-⟩:=h.part b g;obtain⟨l,t,-,i,-⟩:=h.least _ s e;have j:=(h.keeps _ s l b e t g a).2 (q:Int) (by omega) (by rw[f.n];omega);refine⟨k,(AE s 0).1,s,e,by unfold Br;rw[o_,e];rfl,a,?_⟩;have p:=f.st q (AE s 0).1 m (BC s 0);have u:=f.st q b m g;rw[i]at p ⊢;rw[p,u]at j;omega
theorem V7{cells:List (BitVec 256)}:∀b∈Br cells,b<256:=fun b a=>by
 unfold Br at a;obtain⟨c,-,rfl⟩:=I'.1 a;exact BC c 0
theorem Sr(cells:List (BitVec 256)):(Br cells).length=cells.length:=by unfold Br;rw[Z_]
theorem AdH{S:Nat→Prop}{H:Aa}{va:v_}{o:Option AM}{d:PA}{ra:Option Addr}{rc:Nat}(hS:∀k,S k→k<H.size)(Y:AZ S H va o)(hm:B9 o)(hd:Fx o d)(bg:d.Ok)(hr:g_ (GB .u8) S H ra rc (asN (Br (Ag o)))):
  Ak prog 213 #[va,.slice ra (Br (Ag o)).length rc] H fun r H'=>C_ (H_ H) H H'∧l_ AQ none_ H' H.size 4 r (TQ d):=by
 have hs:=hm.steps;have h1:=hs.n1;have h2:=hs.n2;have Z:(Br (Ag o)).length≤256:=by rw[Sr];exact Ht Y
 have K:=V7 (cells:=Ag o);have V:=fun{q b:Nat} (hq:q<d.n) (hb:b<256)=>AaE hm hd hq hb;generalize Br (Ag o)=reps at hr Z K V ⊢;have a6:=hd.n;rw[a6]at h1 h2;have a7:∀{G:Aa} {ps:List Pc},St H G ps→AZ S G va o:=fun st=>Y.frame (st.old.mono hS);refine Ak.of_vc func213 rfl (call213 _) (Ah (HI Y) fun H2 bh=>?_);have ab:=(St.nil H).call bh;rw[a6];refine D3 EY rfl (by omega) (by omega) (by omega) (by omega) ?_;intro nb H3 bi bj ae bm;rw[U']at ae ⊢;have a0:=ab.tabNew tI 3 bi bj ae bm;rw[←Yi (reps:=reps)]at a0;(conv=>whnf);refine A0.mk [22] (fun q:Nat=>[A_ q]) (fun q G=>q≤d.n∧∃vs,St H G [pT tI 3 41 nb vs (Kc d reps q 0)]) (fun q _=>d.n-q) ?_ ?_
 ·(conv=>whnf);exact⟨0,rfl,t_ _,_,a0⟩
 ·clear a0 ab;rintro q H6 bn ⟨hq,vs,U⟩;refine AG.m2 (fun hz=>?_) (fun hz=>?_)
  ·have ag:q<d.n:=by omega
   (conv=>whnf);refine A0.mk [27] (fun j:Nat=>[A_ j]) (fun j G=>j≤reps.length∧∃vs,St H G [pT tI 3 41 nb vs (Kc d reps q j)]) (fun j _=>reps.length-j) ?_ ?_
   ·(conv=>whnf);exact⟨0,rfl,t_ _,_,U⟩
   ·clear U;rintro j H7 bo ⟨hj,ah,z⟩;refine AG.m2 (fun a1=>?_) (fun a1=>?_)
    ·have⟨c,hc⟩:=Ac (l:=reps) (k:=j) (by omega);have a2:=K c (c_ hc);have ai:=bg.cl q c ag a2;refine IB (i:=j) (x:=(c:Int)) CS (hr.frame (z.old.mono hS)) (by unfold asN;rw[Z_]) (by unfold asN;rw[o_,hc];rfl) rfl ?_;rintro b8 o8 c8 cy bp ⟨rfl,cz⟩;refine G_ ct5 bp.one trivial (Ah (F6 (fun k hk=>z.up (hS k hk)) (a7 z) a2) fun H8 bq=>?_);have A:=z.call bq;rw[hd.st q c ag a2];have B:=Lt (reps:=reps) (q:=q) (j:=j) ai;have aj:=Pv (d:=d) (q:=q) (j:=j) (t:=d.st q c) Z;obtain⟨wa,wc,L,-⟩:=A.row 0 rfl B;have ak:ah.length=d.n:=by rw[(A.tab 0 rfl).len,JA]
     refine ix EY (by omega) (by omega) (G_ FK (A.tcell 0 rfl L (by rw[K_,L',U'])) trivial (Ay AU [A_ q] rfl rfl (by decide) (by decide) ?_));intro br H12 M am N O;have P:=A.skip M O;refine appT P 0 AU rfl L B N ⟨rfl,FQ ⟨by omega,by omega⟩⟩ rfl (by unfold asN;rw[Z_];omega) (by decide) fun d0 d1 H13 mid=>?_;refine ix EY (by omega) (by omega) (stT mid FK (by rw[K_,L',U']) fun H14 F=>?_);(conv=>whnf);rw[P_ j (by omega)];rw[AaZ hc ai]at F;exact⟨rfl,j+1,rfl,⟨by omega,_,F⟩,by omega⟩
    ·obtain rfl:j=reps.length:=by omega
     rw[Yh (I_ _)]at z;(conv=>whnf);rw[P_ q (by omega)];exact⟨rfl,q+1,rfl,⟨by omega,ah,z⟩,by omega⟩
  ·obtain rfl:q=d.n:=by omega
   refine D3 CJ rfl (by omega) (by omega) (by omega) (by omega) ?_;intro fb H7 bu bv ao bw;rw[U']at ao ⊢;have bx:AQ.reps none_ H7 (Aj1 d.n (Value.bool false)) (Aj1 d.n false):=by
    have:=Py (S:=none_) (H:=H7) (Aj1 d.n false);rwa [List.map_replicate]at this
   have z:=((U.new (T:=AQ) (n:=d.n) (xs:=Aj1 d.n false) bu bv (by simpa using ao) bw bx (by simp) (by unfold maxLen;omega)).nils u_ 3);rw[←Xp]at z;clear U;(conv=>whnf);refine A0.mk [12,50] (fun x:Nat×Option Addr×Nat=>match x with | (k,a,c)=>[.slice a (IF d k).length c,A_ k]) (fun x G=>match x with | (k,a,c)=>k≤d.n∧St H G [pT tI 3 41 nb vs (Kc d reps d.n 0),pS AQ 4 (T_ fb) d.n d.n (Ka d k),pS u_ 3 a (IF d k).length c (IF d k)]) (fun x _=>d.n-x.1) ?_ ?_
   ·(conv=>whnf);exact⟨(0,none,0),rfl,t_ _,z⟩
   ·clear z;rintro⟨k,a8,c8⟩ H8 bz ⟨hk,A⟩;refine AG.m2 (fun hz=>?_) (fun hz=>?_)
    ·have ap:k<d.n:=by omega
     refine An.run (Ah (FN (a7 A)) fun H9 c1=>?_);have w:=A.call c1;rw[hd.fi k ap];cases hf:d.fi k with
     | true=>
       refine ix CJ (by omega) (by omega) ?_;refine GA (j:=k) (x:=true) w 1 ct4 rfl rfl (by omega) (by rw[Gj];omega) rfl (fun H' _=>rfl) fun H10 g=>?_;rw[Zr ap hf]at g;refine Ay AU [A_ k] rfl rfl (by decide) (by decide) ?_;intro br H12 M am N O;have P:=g.skip M O;have ak:=Ab3 (d:=d) k;refine IN (x:=(k:Int)) P 2 AU rfl N ⟨rfl,FQ ⟨by omega,by omega⟩⟩ rfl (by omega) (by decide) fun c2 aq H13 W _=>?_;(conv=>whnf);rw[P_ k (by omega)];have el:(IF d k).length+1=(IF d (k+1)).length:=by rw[Q0 hf];simp
       rw[el,←Q0 hf]at W;exact⟨rfl,(k+1,c2,aq),by rw[el];rfl,⟨by omega,W⟩,by simp only;omega⟩
     | false=>
       (conv=>whnf);rw[P_ k (by omega)];rw[Xo hf,←Q1 hf]at w;exact⟨rfl,(k+1,a8,c8),by rw[←Q1 hf];rfl,⟨by omega,w⟩,by simp only;omega⟩
    ·obtain rfl:k=d.n:=by omega
     have w:=A.toQ 2 rfl;clear A;(conv=>whnf);refine A0.mk [12] (fun x:List Bool×List Int×Option Addr×Nat=>match x with | (_,todo,a,c)=>[.slice a todo.length c]) (fun x G=>match x with | (m,todo,a,c)=>UsI d (fun _=>False) m todo∧St H G [pT tI 3 41 nb vs (Kc d reps d.n 0),pS AQ 4 (T_ fb) d.n d.n m,pQ u_ 3 a todo.length c todo]) (fun x _=>x.2.1.length+2*x.1.count false) ?_ ?_
     ·(conv=>whnf);exact⟨(Ka d d.n,IF d d.n,a8,c8),rfl,UsI.start d,w⟩
     ·clear w;rintro⟨m,todo,a9,c9⟩ H9 c3 ⟨hI,w⟩;refine AG.m2 (fun hz=>?_) (fun hz=>?_)
      ·cases todo with
       | nil=>simp at hz
       | cons x todo=>
       obtain⟨q,rfl,ar⟩:=hI.td x (by simp);have c4:q<d.n:=by have:=(O_.1 ar).1;rwa [hI.len]at this
       obtain⟨-,c5⟩:=w.qview 2 rfl;refine ixr (i:=0) (x:=(q:Int)) AU c5 rfl rfl ?_;rintro d2 d3 au ct aw ⟨rfl,-⟩;refine G_ E_ aw.one trivial (cutQ w 2 AU rfl fun c6 au g=>?_);have B:=Lt (reps:=reps) (q:=d.n) (j:=0) c4;have aj:=Pv (d:=d) (q:=d.n) (j:=0) (t:=q) Z;have⟨wa,wc,L,d4⟩:=g.row 0 rfl B;have ak:vs.length=d.n:=by rw[(g.tab 0 rfl).len,JA]
       refine ix EY (by omega) (by omega) (G_ FK (g.tcell 0 rfl L (by rw[K_,L',U'])) trivial ?_);obtain⟨row,Q⟩:∃row,row=FC d reps d.n 0 q:=⟨_,rfl⟩;have ax:(asN (FC d reps d.n 0 q)).length=row.length:=by unfold asN;rw[Z_,Q]
       rw[ax];have d5:row.length≤d.n*256+256:=by rw[Q];exact aj
       have hM:todo.length+2*m.count false<((q:Int)::todo).length+2*m.count false:=by simp only[b_];omega
       (conv=>whnf);refine A0.mk [12,77] (fun x:Nat×List Bool×List Int×Option Addr×Nat=>match x with | (k,_,todo,a,c)=>[.slice a todo.length c,A_ k]) (fun x G=>match x with | (k,outs',todo',a,c)=>k≤row.length∧UsI d (·=q) outs' todo'∧outs'[q]?=some true∧(∀R p:Nat,R<k→row[R]?=some p→outs'[p]?=some true)∧todo'.length+2*outs'.count false≤todo.length+2*m.count false∧St H G [pT tI 3 41 nb vs (Kc d reps d.n 0),pS AQ 4 (T_ fb) d.n d.n outs',pQ u_ 3 a todo'.length c todo']) (fun x _=>row.length-x.1) ?_ ?_
       ·(conv=>whnf);exact⟨(0,m,todo,c6,au),rfl,t_ _,hI.pop,ar,fun R p h=>absurd h (by omega),I_ _,g⟩
       ·clear w g;rintro⟨k,y,f,ay,az⟩ H11 bf ⟨hk,J,a3,D,b0,C⟩;have c7:f.length+2*y.count false<((q:Int)::todo).length+2*m.count false:=Nat.lt_of_le_of_lt b0 hM;refine AG.m2 (fun a1=>?_) (fun a1=>?_)
        ·have⟨p,hp⟩:=Ac (l:=row) (k:=k) (by omega);have a4:p∈FC d reps d.n 0 q:=by rw[←Q];exact c_ hp
         have⟨cd,r,ce,cg⟩:=Tg.1 a4;have⟨d6,d7,I,b4⟩:=C.row 0 rfl B;rw[L]at I;injection I with I
         injection I with e1 _ e2
         subst e1;subst e2;refine An.run ?_;refine IB (i:=k) (x:=(p:Int)) AU b4 ax.symm (by rw[←Q];unfold asN;rw[o_,hp];rfl) rfl ?_;rintro d8 d9 da cu b5 ⟨rfl,-⟩;refine lT E_ b5.one ?_;have⟨u,hu⟩:=Ac (l:=y) (k:=p) (by rw[J.len];exact cd);refine ixO (j:=p) CJ C 1 rfl hu rfl ?_;rintro db dc aq cw b6 rfl;refine lT ct4 b6.one ?_;cases u with
         | false=>
           refine ix CJ (by omega) (by omega) ?_;refine GA (j:=p) (x:=true) C 1 ct4 rfl rfl (by omega) (by rw[J.len];omega) rfl (fun H' _=>rfl) fun H14 F=>?_;refine Ay AU [A_ p] rfl rfl (by decide) (by decide) ?_;intro de H15 b7 cx b9 bd;have be:=F.skip b7 bd;have ch:=J.room;refine appQ (ys:=[(p:Int)]) (ds:=[A_ p]) be 2 AU rfl (b9.cells fun j v hv=>by rw[K_];exact hv) (Ty.reps_one ⟨rfl,FQ ⟨by omega,by omega⟩⟩) rfl (by simp[Value.oneCell']) (by simp only[h_,maxLen];omega) (by simp only[h_];omega) fun cj ck H16 X _=>?_;(conv=>whnf);rw[P_ k (by omega)];have df:=P7 hu;have cm:=J.push hu a3 ⟨r,K r ce,cg⟩;have el:f.length+[(p:Int)].length=(f++[(p:Int)]).length:=by simp
           rw[el]at X;refine⟨rfl,(k+1,y.set p true,f++[(p:Int)],cj,ck),by rw[el];rfl,⟨by omega,cm,Jv a3,fun R p' co E=>?_,by rw[←el];simp only[h_];omega,X⟩,by simp only;omega⟩;by_cases e:R=k
           ·subst e;rw[hp]at E;cases E;rw[YaT,F_ rfl,F_ (O_.1 hu).1]
           ·exact Jv (D R p' (by omega) E)
         | true=>
           (conv=>whnf);rw[P_ k (by omega)];refine⟨rfl,(k+1,y,f,ay,az),rfl,⟨by omega,J,a3,fun R p' co E=>?_,b0,C⟩,by simp only;omega⟩;by_cases e:R=k
           ·subst e;rw[hp]at E;cases E;exact hu
           ·exact D R p' (by omega) E
        ·obtain rfl:k=row.length:=by omega
         (conv=>whnf);refine⟨rfl,(y,f,ay,az),rfl,⟨J.shut fun p hp cp=>?_,C⟩,c7⟩;have⟨b,hb,e⟩:=cp;obtain⟨R,c,s,-,cq,-,cr⟩:=V hp hb;have a4:p∈row:=by rw[Q];exact Tg.2 ⟨hp,c,c_ cq,cr.trans e⟩
         have⟨i,hi⟩:=YaI a4;exact D i p (O_.1 hi).1 hi
      ·have:todo=[]:=by
        cases todo with
        | nil=>rfl
        | cons x t=>simp only[b_]at hz;omega
       subst this;have a5:=hI.done;subst a5;(conv=>whnf);have:=St.own w 1 rfl;rw[←Lx (d:=d)]at this;exact⟨w.old,by rw[←Lx (d:=d)];exact this⟩
noncomputable def Li(d:PA)(k:Nat):List Int:=(AjM d.n).map fun i=>if i<k∧d.use i=true then(d.place i:Int)else 0
def JC(d:PA)(cells:List (BitVec 256))(reps:List Nat)(q k t:Nat):BitVec 256:=(AjM k).foldl (fun acc i=>if d.st q (reps.getD i 0)=t then acc ||| cells.getD i 0#256 else acc) 0#256
def OV(d:PA)(cells:List (BitVec 256))(reps:List Nat)(q k:Nat):List (BitVec 256):=(AjM d.n).map fun t=>JC d cells reps q k t
section
variable{d:PA}{cells:List (BitVec 256)}{reps:List Nat}{q k t:Nat}
theorem Lj:(Li d k).length=d.n:=by simp[Li]
theorem XG:Li d 0=Aj1 d.n 0:=by
 unfold Li;rw[YdG];refine⟨by simp,fun b a=>?_⟩;obtain⟨i,-,rfl⟩:=I'.1 a;simp
theorem O6{i:Nat}(h:i<d.n):(Li d k)[i]?=some (if i<k∧d.use i=true then(d.place i:Int)else 0):=by
 unfold Li;rw[o_,YaR h];rfl
theorem Aa4(h:k<d.n)(c:d.use k=true):(Li d k).set k (d.place k:Int)=Li d (k+1):=by
 apply YaJ;intro i;by_cases b:i<d.n
 ·rw[YaT,O6 b,O6 b,Lj];by_cases e:k=i
  ·subst e;rw[F_ rfl,F_ b,F_ ⟨by omega,c⟩]
  ·rw[D_ e]
   congr 1
   by_cases a:i<k∧d.use i=true
   ·rw[F_ a,F_ ⟨by omega,a.2⟩]
   ·rw[D_ a,D_ (fun f=>a ⟨by omega,f.2⟩)]
 ·rw[YaL (by rw[YaH,Lj];omega),YaL (by rw[Lj];omega)]
theorem XF(b:d.use k=false):Li d k=Li d (k+1):=by
 unfold Li;refine YcE fun i _=>?_;by_cases e:i=k
 ·subst e;rw[D_ (by simp[b]),D_ (by simp[b])]
 ·by_cases a:i<k∧d.use i=true
  ·rw[F_ a,F_ ⟨by omega,a.2⟩]
  ·rw[D_ a,D_ (fun c=>a ⟨by omega,c.2⟩)]
theorem O5{i:Nat}(h:i<d.n)(a:d.use i=true):(Li d d.n)[i]?=some (d.place i:Int):=by
 rw[O6 h,F_ ⟨h,a⟩]
theorem JB:(OV d cells reps q k).length=d.n:=by simp[OV]
theorem Yl:OV d cells reps q 0=Aj1 d.n 0#256:=by
 unfold OV;rw[YdG];refine⟨by simp,fun b a=>?_⟩;obtain⟨i,-,rfl⟩:=I'.1 a;rfl
theorem Lw{i:Nat}(h:i<d.n):(OV d cells reps q k)[i]?=some (JC d cells reps q k i):=by
 unfold OV;rw[o_,YaR h];rfl
theorem Ym{c:Nat}{s:BitVec 256}(a:reps[k]?=some c)(hs:cells[k]?=some s):JC d cells reps q (k+1) t=if d.st q c=t then JC d cells reps q k t ||| s else JC d cells reps q k t:=by
 unfold JC;rw[YcW,Ybh];simp only[List.foldl_cons,List.foldl_nil,YaD,a,hs,Option.getD_some]
theorem Ab4{c:Nat}{s:BitVec 256}(b:reps[k]?=some c)(hs:cells[k]?=some s)(f:d.st q c<d.n):(OV d cells reps q k).set (d.st q c) (JC d cells reps q k (d.st q c) ||| s)=OV d cells reps q (k+1):=by
 apply YaJ;intro i;by_cases a:i<d.n
 ·rw[YaT,Lw a,Lw a,JB,Ym b hs];by_cases e:d.st q c=i
  ·subst e;rw[F_ rfl,F_ a,F_ rfl]
  ·rw[D_ e,D_ e]
 ·rw[YaL (by rw[YaH,JB];omega),YaL (by rw[JB];omega)]
theorem Ab5{b:Nat}:(JC d cells reps q k t).getLsbD b=true↔∃i,i<k∧d.st q (reps.getD i 0)=t∧(cells.getD i 0#256).getLsbD b=true:=by
 induction k with
 | zero=>simp[JC]
 | succ k g=>
   have e:JC d cells reps q (k+1) t=if d.st q (reps.getD k 0)=t then JC d cells reps q k t ||| cells.getD k 0#256 else JC d cells reps q k t:=by
    unfold JC;rw[YcW,Ybh];rfl
   rw[e];by_cases h:d.st q (reps.getD k 0)=t
   ·rw[F_ h,BitVec.getLsbD_or,Bool.or_eq_true,g];constructor
    ·rintro(⟨i,c,a⟩ | c)
     ·exact⟨i,by omega,a⟩
     ·exact⟨k,by omega,h,c⟩
    ·rintro⟨i,c,a,f⟩;by_cases e:i=k
     ·subst e;exact .inr f
     ·exact .inl ⟨i,by omega,a,f⟩
   ·rw[D_ h,g];constructor
    ·rintro⟨i,c,a⟩;exact⟨i,by omega,a⟩
    ·rintro⟨i,c,a,f⟩;by_cases e:i=k
     ·subst e;exact absurd a h
     ·exact⟨i,by omega,a,f⟩
theorem Ab6{o:Option AM}(v:B9 o)(j:Fx o d)(r:q<d.n):JC d (Ag o) (Br (Ag o)) q (Ag o).length t=d.set q t:=by
 have⟨x,k⟩:=v.ok;have c:∀(i:Nat) (s:BitVec 256) (b:Nat),(Ag o)[i]?=some s→b<256→s.getLsbD b=true→d.st q ((Br (Ag o)).getD i 0)=d.st q b:=by
  intro i s b hs f a;obtain⟨l,w,-,m,-⟩:=k.least _ s hs;have p:=(k.keeps _ s l b hs w f a).2 (q:Int) (by omega) (by rw[j.n];omega);have e:(Br (Ag o)).getD i 0=(AE s 0).1:=by
   unfold Br;rw[YaD,o_,hs];rfl
  have h:=j.st q (AE s 0).1 r (BC s 0);have g:=j.st q b r f;rw[e];rw[m]at h ⊢;rw[h,g]at p;omega
 refine Yap fun b f=>?_;rw[YcN,Ab5,PA.set_bit];constructor
 ·rintro⟨i,h,g,u⟩;have⟨s,hs⟩:=Ac h;rw[YaD,hs]at u;exact⟨f,by rw[←c i s b hs f u];exact g⟩
 ·rintro⟨-,g⟩;obtain⟨i,s,hs,a,-⟩:=k.part b f;exact⟨i,(O_.1 hs).1,by rw[c i s b hs f a];exact g,by rw[YaD,hs];exact a⟩
theorem Jd:d.hopsTo q (t+1)=d.hopsTo q t++if(d.use t&&(d.set q t != 0#256))=true then [D2 (d.place q) (d.place t) (d.set q t)]else []:=by
 unfold PA.hopsTo;rw[YcW,List.filterMap_append]
 congr 1
 by_cases h:(d.use t&&(d.set q t != 0#256))=true
 ·simp only[YdH,YdI,F_ h]
 ·simp only[YdH,YdI,D_ h]
theorem HT:d.edgesTo (q+1)=d.edgesTo q++if d.use q=true then d.hopsTo q d.n++d.endE q else []:=by
 unfold PA.edgesTo;rw[YcW,YcV];simp
end
theorem X4{n:Nat}{i:Nat}{v:v_}(h:(Aj1 n (Value.int .i64 0))[i]?=some v):v= .int .i64 0:=by
 rw[YaO]at h;split at h
 ·exact(Ak5.inj h).symm
 ·cases h
noncomputable abbrev loP(y x pb:Nat)(ca:Option Addr)(cc:Nat)(a4:Option Addr)(c4:Nat)(ua:Option Addr)(uc:Nat)(o:Option AM)(d:PA)(ea:Option Addr)(ec:Nat)(es:List Y')(rest:List Pc):List Pc:=pB 76 y [A_ 0,A_ 0,A_ 0,.slice none 0 0]::pS Cp 101 ca (Ag o).length cc (Ag o)::pS (GB .u8) 5 a4 (asN (Br (Ag o))).length c4 (asN (Br (Ag o)))::pS AQ 4 ua d.n uc (TQ d)::pS tI 3 (T_ pb) d.n d.n (Li d d.n)::pB 76 x [A_ ((d.count:Int)+1),A_ 0,A_ (d.count:Int),.slice ea es.length ec]::pS tEd 174 ea es.length ec es::rest
theorem YV{B:Nat→Prop}{H0 H:Aa}{ps:List Pc}{e:x_}{b n cap j:Nat}{xs:List Int}{x:Int}(st:B_ B H0 H ps)(i:Nat)(a:ps[i]?=some (pS tI e (T_ b) n cap xs))(c:xs[j]?=some x):VC.cell H b (0+((j:Nat):Int).toNat*1)=some (.int .i64 x):=by
 obtain⟨f,d,rfl,-⟩:=st.cellsE i a c;rw[K_,U'];exact d.one
theorem SZ{S:Nat→Prop}{H:Aa}{va:v_}{o:Option AM}{d:PA}(hS:∀k,S k→k<H.size)(bh:AZ S H va o)(hm:B9 o)(hd:Fx o d)(aw:d.Ok)(dv:d.n≤4096):
  Ak prog 190 #[va] H fun r H'=>C_ (H_ H) H H'∧∃Q R,r= .agg (nfL (AB d) (.slice Q (AB d).edges.length R)).toArray∧l_ tEd none_ H' H.size 174 (.slice Q (AB d).edges.length R) (AB d).edges:=by
 have hs:=hm.steps;have dw:=hd.n;have bi:=aw.pos;have dx:(Ag o).length≤256:=Ht bh;have aj:=Sr (Ag o);have bj:=V7 (cells:=Ag o);have ak:∀{G:Aa} {ps:List Pc},St H G ps→AZ S G va o:=fun st=>bh.frame (st.old.mono hS);refine Ak.of_vc func190 rfl (call190 _) (Am _ [A_ 0,A_ 0,A_ 0,.slice none 0 0] Ee rfl ?_);intro y H1 hy cz d0 d1;have st1:=(St.nil H).box hy cz d0 d1;refine Ae.mk (HR (fun k A=>st1.up (hS k A)) (ak st1)) ?_;rintro _ H2 ⟨d2,-,d3⟩;obtain⟨ca,cc,rfl,bm⟩:=st1.got d2 d3;have bn:=bm.nils (GB .u8) 5;clear bm st1;(conv=>whnf);refine A0.mk [4,27] (fun x:Nat×Option Addr×Nat=>match x with | (k,a,c)=>[.slice a (asN ((Br (Ag o)).take k)).length c,A_ k]) (fun x G=>match x with | (k,a,c)=>k≤(Ag o).length∧St H G [pB 76 y [A_ 0,A_ 0,A_ 0,.slice none 0 0],pS Cp 101 ca (Ag o).length cc (Ag o),pS (GB .u8) 5 a (asN ((Br (Ag o)).take k)).length c (asN ((Br (Ag o)).take k))]) (fun x _=>(Ag o).length-x.1) ?_ ?_
 ·(conv=>whnf);exact⟨(0,none,0),rfl,t_ _,bn⟩
 ·clear bn;rintro⟨k,a4,c4⟩ H4 d4 ⟨A,N⟩;refine AG.m2 (fun hz=>?_) (fun hz=>?_)
  ·have⟨c,hc⟩:=Ac (l:=Ag o) (k:=k) (by omega);have a2:(Br (Ag o))[k]?=some (AE c 0).1:=by unfold Br;rw[o_,hc];rfl
   have dy:=BC c 0;have dz:(asN ((Br (Ag o)).take k)).length=k:=by unfold asN;rw[Z_,YaW,aj];omega
   refine ixO (j:=k) C0 N 1 rfl hc rfl ?_;rintro b8 o8 c8 d5 ax rfl;refine L_ (cs:=Ad c) AT ax trivial (Am (Bt 0) (Ad 0) rfl rfl ?_);intro sx H5 ay d6 d7 az;have U:=N.box ay d6 d7 az;refine AN (cs:=Ad c) U 3 rfl rfl (I_ _) rfl fun H6 J=>?_;rw[Aw (show(Ad c).length=(Ad 0).length from rfl)]at J;refine L_ (cs:=Ad c) AT ((J.blk 3 rfl).cells fun j v V=>by rw[K_];exact V) trivial ?_;refine Ah (LM c 0 (by decide) H6) fun H7 d8=>?_;have O:=J.call d8;refine Ay CS [.int .u8 ((AE c 0).1:Int)] rfl rfl (by decide) (by decide) ?_;intro q8 H8 d9 bo b0 b4;have W:=O.skip d9 b4;refine IN (x:=((AE c 0).1:Int)) W 2 CS rfl b0 ⟨rfl,⟨by show(0:Int)≤((AE c 0).1:Int);omega,by show((AE c 0).1:Int)≤(255:Int);omega⟩⟩ rfl (by omega) (by decide) fun a9 c9 H9 a3 _=>?_;(conv=>whnf);rw[P_ k (by omega)];have a5:asN ((Br (Ag o)).take k)++[((AE c 0).1:Int)]=asN ((Br (Ag o)).take (k+1)):=by
    rw[Af a2];unfold asN;rw[YcB];rfl
   have el:(asN ((Br (Ag o)).take k)).length+1=(asN ((Br (Ag o)).take (k+1))).length:=by rw[←a5];simp
   rw[el,a5]at a3;have Y:=a3.pick [0,1,2] (by decide);exact⟨rfl,(k+1,a9,c9),by rw[el];rfl,⟨by omega,Y⟩,by simp only;omega⟩
  ·obtain rfl:k=(Ag o).length:=by omega
   rw[Yc2 (by rw[aj];exact I_ _)]at N ⊢;have bp:(asN (Br (Ag o))).length=(Br (Ag o)).length:=by unfold asN;rw[Z_]
   have bq:=AdH (ra:=a4) (rc:=c4) (fun k A=>A) ((ak N).mono fun k A=>N.up (hS k A)) hm hd aw (N.view 2 rfl);rw[←bp]at bq;refine Ae.mk bq ?_;rintro _ H5 ⟨az,da⟩;obtain⟨ua,uc,rfl,U⟩:=N.got az da;clear N;have db:=JD (d:=d) (q:=0) bi;refine ixO (j:=0) CJ U 3 rfl db rfl ?_;rintro b6 o6 c6 e3 dc rfl;refine lT ct4 dc.one ?_;cases ap:d.use 0 with
   | false=>
     refine Ax underlying76 rfl _ Ee [A_ 2,A_ 0,A_ 1,.slice none 0 0] (by kernel_rfl) (AN (cs:=[A_ 2,A_ 0,A_ 1,.slice none 0 0]) U 0 rfl rfl (I_ _) rfl fun H6 J=>?_);refine L_ (cs:=[A_ 2,A_ 0,A_ 1,.slice none 0 0]) FI ((J.blk 0 rfl).cells fun j v V=>by rw[K_];exact V) trivial ?_;(conv=>whnf);have e:AB d=⟨2,0,1,[]⟩:=by unfold AB;rw[D_ (by rw[ap];decide)]
     rw[e];exact⟨J.old,none,0,rfl,l_.nil⟩
   | true=>
   have eL:AB d=⟨d.count+1,0,d.count,d.edgesTo d.n⟩:=by unfold AB;rw[F_ ap]
   have e4:=PA.count_le (d:=d);rw[eL];have br:=Lx (d:=d);rw[br];rw[br]at U;refine D3 AU rfl (by omega) (by omega) (by omega) (by omega) ?_;intro pb H6 de df bu dg;rw[U']at bu ⊢;have dh:tI.reps none_ H6 (Aj1 d.n (Value.int .i64 0)) (Aj1 d.n 0):=by
    refine DJ (by simp) fun i v x h1 h2=>?_;rw[X4 h1];rw[YaO]at h2;split at h2
    ·cases h2;exact⟨rfl,FQ ⟨by omega,by omega⟩⟩
    ·cases h2
   have J:=U.new (T:=tI) (n:=d.n) (xs:=Aj1 d.n 0) de df (by simpa using bu) dg dh (by simp) (by unfold maxLen;omega);rw[←XG]at J;clear U;(conv=>whnf);refine A0.mk [11,54] (fun k:Nat=>[A_ (d.place k:Int),A_ k]) (fun k G=>k≤d.n∧St H G [pB 76 y [A_ 0,A_ 0,A_ 0,.slice none 0 0],pS Cp 101 ca (Ag o).length cc (Ag o),pS (GB .u8) 5 a4 (asN (Br (Ag o))).length c4 (asN (Br (Ag o))),pS AQ 4 ua d.n uc (TQ d),pS tI 3 (T_ pb) d.n d.n (Li d k)]) (fun k _=>d.n-k) ?_ ?_
   ·(conv=>whnf);exact⟨0,rfl,t_ _,J⟩
   ·clear J;rintro k H7 di ⟨A,O⟩;refine AG.m2 (fun hz=>?_) (fun hz=>?_)
    ·have bv:k<d.n:=by omega
     have e5:=PA.place_le (d:=d) k;refine An.run (ixO (j:=k) CJ O 3 rfl (JD bv) rfl ?_);rintro b8 o8 c8 d5 ax rfl;refine lT ct4 ax.one ?_;have am:=PA.place_succ (d:=d) k;cases Z:d.use k with
     | true=>
       rw[Z,F_ rfl]at am;refine ix AU (by omega) (by omega) ?_;refine GA (j:=k) (x:=(d.place k:Int)) O 4 E_ rfl rfl (by omega) (by rw[Lj];omega) rfl (fun H' _=>⟨rfl,FQ ⟨by omega,by omega⟩⟩) fun H8 W=>?_;rw[Aa4 bv Z]at W;(conv=>whnf);rw[W_ (x:=(d.place k:Int)+1) (by omega)];(conv=>whnf);rw[P_ k (by omega)];exact⟨rfl,k+1,by rw[am];rfl,⟨by omega,W⟩,by omega⟩
     | false=>
       rw[Z,D_ (by decide)]at am;(conv=>whnf);rw[P_ k (by omega)];rw[XF Z]at O;exact⟨rfl,k+1,by rw[am];rfl,⟨by omega,O⟩,by omega⟩
    ·obtain rfl:k=d.n:=by omega
     have dj:d.place d.n=d.count:=rfl;rw[dj];(conv=>whnf);rw[W_ (x:=(d.count:Int)+1) (by omega)];refine Ax underlying76 rfl _ Ee [A_ ((d.count:Int)+1),A_ 0,A_ (d.count:Int),.slice none 0 0] (by kernel_rfl) (Am _ [A_ 0,A_ 0,A_ 0,.slice none 0 0] Ee rfl ?_);intro x H8 hx bo b0 b4;have W:=O.box hx bo b0 b4;clear O;refine AN (cs:=[A_ ((d.count:Int)+1),A_ 0,A_ (d.count:Int),.slice none 0 0]) W 5 rfl rfl (I_ _) rfl fun H9 a3=>?_;have Y:=a3.nils tEd 174;clear W a3;(conv=>whnf);refine A0.mk [73] (fun q:Nat=>[A_ q]) (fun q G=>q≤d.n∧∃Q R,St H G (loP y x pb ca cc a4 c4 ua uc o d Q R (d.edgesTo q) [])) (fun q _=>d.n-q) ?_ ?_
     ·(conv=>whnf);exact⟨0,rfl,t_ _,none,0,Y⟩
     ·clear Y;rintro q H11 cw ⟨hq,Q,R,B⟩;refine AG.m2 (fun dk=>?_) (fun dk=>?_)
      ·have X:q<d.n:=by omega
       have bw:=PA.place_le (d:=d) q;have e6:=PA.edges_place d q;refine An.run (ixO (j:=q) CJ B 3 rfl (JD X) rfl ?_);rintro e7 e8 e9 dq bx rfl;refine lT ct4 bx.one ?_;cases Z:d.use q with
       | false=>
         (conv=>whnf);rw[P_ q (by omega)];have e1:d.edgesTo (q+1)=d.edgesTo q:=by rw[HT,D_ (by rw[Z];decide),YaX]
         rw[←e1]at B;exact⟨rfl,q+1,rfl,⟨by omega,Q,R,B⟩,by omega⟩
       | true=>
       refine AbF (T:=Cp) (S:=none_) (H:=H11) (v:=0#256) C0 rfl (by omega) rfl (by omega) (by omega) ?_;intro tb H12 dl bz aq c1;rw[U']at aq ⊢;have w:=B.new (T:=Cp) (n:=d.n) (xs:=Aj1 d.n 0#256) dl bz aq c1 (EF rfl d.n) (by simp) (by unfold maxLen;omega);rw[←Yl (cells:=Ag o) (reps:=Br (Ag o)) (q:=q)]at w;clear B;have eb:(asN (Br (Ag o))).length=(Ag o).length:=by rw[bp,aj]
       (conv=>whnf);refine A0.mk [85] (fun k:Nat=>[A_ k]) (fun k G=>k≤(Ag o).length∧St H G (loP y x pb ca cc a4 c4 ua uc o d Q R (d.edgesTo q) [pS Cp 101 (T_ tb) d.n d.n (OV d (Ag o) (Br (Ag o)) q k)])) (fun k _=>(Ag o).length-k) ?_ ?_
       ·(conv=>whnf);exact⟨0,rfl,t_ _,w⟩
       ·clear w;rintro k H13 cx ⟨A,C⟩;refine AG.m2 (fun dm=>?_) (fun dm=>?_)
        ·have c2:k<(Ag o).length:=by omega
         have⟨s,c3⟩:=Ac c2;have⟨c,b5⟩:=Ac (l:=Br (Ag o)) (k:=k) (by rw[aj];exact c2);have a2:=bj c (c_ b5);have b7:=aw.cl q c X a2;refine ixO (j:=k) (x:=(c:Int)) CS C 2 rfl (by unfold asN;rw[o_,b5];rfl) rfl ?_;rintro ed ee ef dr c5 ⟨rfl,-⟩;refine G_ ct5 c5.one trivial (Ah (F6 (fun k A=>C.up (hS k A)) (ak C) a2) fun H14 c7=>?_);have K:=C.call c7;rw[hd.st q c X a2];refine Aq.heldZ (H_ H14) [12] (sq [0,1,2,3,4,5,6,7,8,9] (.f 10 (sq [11] (.f 12 .e)))) rfl (by kernel_rfl) (ixO (j:=d.st q c) C0 K 7 rfl (Lw b7) rfl ?_);rintro eg eh ei cd ce rfl;refine L_ (cs:=Ad (JC d (Ag o) (Br (Ag o)) q k (d.st q c))) AT ce cd (ixO (j:=k) C0 K 1 rfl c3 rfl ?_);rintro ej ek en cg ch rfl;refine L_ (cs:=Ad s) AT ch cg (Ah (FY _ _ H14) fun H15 ar=>?_);have cj:=K.call ar;refine⟨ar,?_⟩;refine ix C0 (by omega) (by omega) ?_;refine stNO (j:=d.st q c) (x:=JC d (Ag o) (Br (Ag o)) q k (d.st q c) ||| s) (cs:=Ad (JC d (Ag o) (Br (Ag o)) q k (d.st q c) ||| s)) cj 7 rfl rfl (by rw[K_,U'];rfl) (by rw[JB];exact b7) rfl (fun H' _=>rfl) fun H16 au=>?_;rw[Ab4 b5 c3 b7]at au;(conv=>whnf);rw[P_ k (by omega)];exact⟨rfl,k+1,rfl,⟨by omega,au⟩,by omega⟩
        ·obtain rfl:k=(Ag o).length:=by omega
         have ck:∀t,t<d.n→(OV d (Ag o) (Br (Ag o)) q (Ag o).length)[t]?=some (d.set q t):=fun t ht=>by
          rw[Lw ht,Ab6 hm hd X]
         have hull:=JB (d:=d) (cells:=Ag o) (reps:=Br (Ag o)) (q:=q) (k:=(Ag o).length);obtain⟨us,cm⟩:∃us,us=OV d (Ag o) (Br (Ag o)) q (Ag o).length:=⟨_,rfl⟩;rw[←cm]at ck hull C;have K:St H H13 (loP y x pb ca cc a4 c4 ua uc o d Q R (d.edgesTo q++d.hopsTo q 0) [pS Cp 101 (T_ tb) d.n d.n us]):=by
          have e0:d.edgesTo q++d.hopsTo q 0=d.edgesTo q:=YaX _;rw[e0];exact C
         clear C;(conv=>whnf);refine A0.mk [109] (fun t:Nat=>[A_ t]) (fun t G=>t≤d.n∧∃Q R,St H G (loP y x pb ca cc a4 c4 ua uc o d Q R (d.edgesTo q++d.hopsTo q t) [pS Cp 101 (T_ tb) d.n d.n us])) (fun t _=>d.n-t) ?_ ?_
         ·(conv=>whnf);exact⟨0,rfl,t_ _,Q,R,K⟩
         ·clear K;rintro t H17 cy ⟨ht,D,E,F⟩;refine AG.m2 (fun dn=>?_) (fun dn=>?_)
          ·have b9:t<d.n:=by omega
           have dp:=PA.hops_len d q t;have eo:=PA.place_le (d:=d) t;refine An.run (ixO (j:=t) C0 F 7 rfl (ck t b9) rfl ?_);rintro ep eu ev dt co rfl;refine L_ (cs:=Ad (d.set q t)) AT co trivial (Am (Bt 0) (Ad 0) rfl rfl ?_);intro sx H18 ay cp cq a6;have m:=F.box ay cp cq a6;refine AN (cs:=Ad (d.set q t)) m 8 rfl rfl (I_ _) rfl fun H19 g=>?_;rw[Aw (show(Ad (d.set q t)).length=(Ad 0).length from rfl)]at g;clear F m;refine ixO (j:=t) CJ g 3 rfl (JD b9) rfl ?_;rintro ew ey ez du cr rfl;refine lT ct4 cr.one ?_;cases bd:d.use t with
           | false=>
             have e1:d.hopsTo q (t+1)=d.hopsTo q t:=by rw[Jd,bd];simp
             (conv=>whnf);rw[P_ t (by omega)];rw[←e1]at g;exact⟨rfl,t+1,rfl,⟨by omega,D,E,g.pick [0,1,2,3,4,5,6,7] (by decide)⟩,by omega⟩
           | true=>
           refine L_ (cs:=Ad (d.set q t)) AT ((g.blk 8 rfl).cells fun j v V=>by rw[K_];exact V) trivial ?_;refine Cz Ch (Bt 0) rfl (Ad 0) rfl (Nr (d.set q t) 0#256 ?_);by_cases ao:d.set q t=0#256
           ·have dd:decide (d.set q t=0#256)=true:=n_ ao;rw[dd];have e1:d.hopsTo q (t+1)=d.hopsTo q t:=by rw[Jd,ao];simp
            (conv=>whnf);rw[P_ t (by omega)];rw[←e1]at g;exact⟨rfl,t+1,rfl,⟨by omega,D,E,g.pick [0,1,2,3,4,5,6,7] (by decide)⟩,by omega⟩
           ·have dd:decide (d.set q t=0#256)=false:=j_ ao;rw[dd];have e1:d.hopsTo q (t+1)=d.hopsTo q t++[D2 (d.place q) (d.place t) (d.set q t)]:=by
             rw[Jd,F_];rw[bd,Bool.true_and,bne_iff_ne];exact ao
            obtain⟨L,M⟩:∃L,L=d.edgesTo q++d.hopsTo q t:=⟨_,rfl⟩;have ct:L.length≤1056768:=by rw[M,J_];have:=Ycx 257 (YbA bw (show q≤4096 by omega));omega
            have a1:∀i,i<9→i≠6→∀b p,(loP y x pb ca cc a4 c4 ua uc o d D E (L) [pS Cp 101 (T_ tb) d.n d.n us,pB 101 sx (Ad (d.set q t))]:List Pc)[i]?=some p→p.foot b→b<H19.size∧¬a_ (.slice D L.length E) b:=fun i _ h6 b p hp hb=>by
             rw[M]at hp ⊢;exact⟨(g.in_ i hp hb).2,fun h=>g.apart2 (i:=i) (j:=6) hp rfl h6 b hb (.inl h)⟩
            rw[←M]at g;have a7:=a1 5 (by decide) (by decide) x _ rfl rfl;have a0:=a1 4 (by decide) (by decide) pb _ rfl (.inl ⟨0,_,_,rfl⟩);have be:=a1 8 (by decide) (by decide) sx _ rfl rfl;refine Aq.heldZ (fun k2=>k2<H19.size∧¬a_ (.slice D L.length E) k2) [15] (sq [0,1,2,3,4,5,6,7,8,9,10,11] (.f 12 (.f 13 (sq [14] (.f 15 .e))))) rfl (by kernel_rfl) (fa ES ?_);refine G_ (v:=.slice D L.length E) IW ((g.blk 5 rfl).ce rfl) a7 ?_;refine ix AU (by omega) (by omega) (G_ (v:=A_ (d.place q:Int)) E_ (YV g 4 rfl (O5 X Z)) a0 (ix AU (by omega) (by omega) (G_ (v:=A_ (d.place t:Int)) E_ (YV g 4 rfl (O5 b9 bd)) a0 ?_)));refine L_ (cs:=Ad (d.set q t)) AT ((g.blk 8 rfl).cells fun j v V=>by rw[K_];exact V) be ?_;refine Qm (d.place q) (d.place t) (d.set q t) (Ay Jx (edL (D2 (d.place q) (d.place t) (d.set q t))) rfl rfl (by decide) (by decide) ?_);intro z H20 a8 cu ab I;have ae:=g.skip a8 I;refine⟨I.mono fun k A=>by have:=A.1;omega,?_⟩;refine Kj (ys:=[D2 (d.place q) (d.place t) (d.set q t)]) ae 6 Jx rfl (ab.cells (o:=0) (cs:=edL (D2 (d.place q) (d.place t) (d.set q t))) fun j v V=>by rw[K_];exact V) (Ty.reps_one ⟨rfl,KS (by omega) (by omega) _ _⟩) rfl (fun u Z=>Ybl.1 (JL _) u Z) (by unfold maxLen;simp;omega) (by simp;omega) fun bf bg H21 ag ah=>?_;refine⟨(I.mono fun k A=>by have:=A.1;omega).trans (ah.mono fun k A=>⟨by have:=A.1;omega,A.2⟩),?_⟩;refine fa ES (Bh ag 5 IW rfl (show 3<4 by decide) rfl fun H22 P=>?_);(conv=>whnf);rw[P_ t (by omega)];have a5:L++[D2 (d.place q) (d.place t) (d.set q t)]=d.edgesTo q++d.hopsTo q (t+1):=by rw[e1,M,YaN]
            have el:L.length+[D2 (d.place q) (d.place t) (d.set q t)].length=(d.edgesTo q++d.hopsTo q (t+1)).length:=by rw[←a5];simp
            rw[el,a5]at P;have ai:=P.pick [0,1,2,3,4,5,6,7] (by decide);exact⟨rfl,t+1,rfl,⟨by omega,bf,bg,ai⟩,by omega⟩
          ·obtain rfl:t=d.n:=by omega
           have dp:=PA.hops_len d q d.n;obtain⟨L,M⟩:∃L,L=d.edgesTo q++d.hopsTo q d.n:=⟨_,rfl⟩;have ct:L.length≤1056768:=by rw[M,J_];have:=Ycx 257 (YbA bw (show q≤4096 by omega));omega
           rw[←M]at F;refine Ah (FN (ak F)) fun H18 a6=>?_;have m:=F.call a6;clear F;rw[hd.fi q X];cases hf:d.fi q with
           | false=>
             have e1:d.edgesTo (q+1)=L:=by rw[HT,F_ Z,M];unfold PA.endE;rw[D_ (by rw[hf];decide),YaX]
             (conv=>whnf);rw[P_ q (by omega)];rw[←e1]at m;exact⟨rfl,q+1,rfl,⟨by omega,D,E,m.pick [0,1,2,3,4,5,6] (by decide)⟩,by omega⟩
           | true=>
             have e1:d.edgesTo (q+1)=L++[AW (d.place q) d.count]:=by rw[HT,F_ Z,M];unfold PA.endE;rw[F_ hf,YaN]
             have a1:∀i,i<9→i≠6→∀b p,(loP y x pb ca cc a4 c4 ua uc o d D E L [pS Cp 101 (T_ tb) d.n d.n us]:List Pc)[i]?=some p→p.foot b→b<H18.size∧¬a_ (.slice D L.length E) b:=fun i _ h6 b p hp hb=>by
              exact⟨(m.in_ i hp hb).2,fun h=>m.apart2 (i:=i) (j:=6) hp rfl h6 b hb (.inl h)⟩
             have a7:=a1 5 (by decide) (by decide) x _ rfl rfl;have a0:=a1 4 (by decide) (by decide) pb _ rfl (.inl ⟨0,_,_,rfl⟩);refine Aq.heldZ (fun k2=>k2<H18.size∧¬a_ (.slice D L.length E) k2) [11] (sq [0,1,2,3,4,5,6,7] (.f 8 (.f 9 (sq [10] (.f 11 .e))))) rfl (by kernel_rfl) (fa ES ?_);refine G_ (v:=.slice D L.length E) IW ((m.blk 5 rfl).ce rfl) a7 ?_;refine ix AU (by omega) (by omega) (G_ (v:=A_ (d.place q:Int)) E_ (YV m 4 rfl (O5 X Z)) a0 (Qp (d.place q) d.count (Ay Jx (edL (AW (d.place q) d.count)) rfl rfl (by decide) (by decide) ?_)));intro z H20 a8 cu ab I;have ae:=m.skip a8 I;refine⟨I.mono fun k A=>by have:=A.1;omega,?_⟩;refine Kj (ys:=[AW (d.place q) d.count]) ae 6 Jx rfl (ab.cells (o:=0) (cs:=edL (AW (d.place q) d.count)) fun j v V=>by rw[K_];exact V) (Ty.reps_one ⟨rfl,KS (by omega) (by omega) _ _⟩) rfl (fun u Z=>Ybl.1 (JL _) u Z) (by unfold maxLen;simp;omega) (by simp;omega) fun bf bg H21 ag ah=>?_;refine⟨(I.mono fun k A=>by have:=A.1;omega).trans (ah.mono fun k A=>⟨by have:=A.1;omega,A.2⟩),?_⟩;refine fa ES (Bh ag 5 IW rfl (show 3<4 by decide) rfl fun H22 P=>?_);(conv=>whnf);rw[P_ q (by omega)];have el:L.length+[AW (d.place q) d.count].length=(d.edgesTo (q+1)).length:=by rw[e1];simp
             rw[el,←e1]at P;have ai:=P.pick [0,1,2,3,4,5,6] (by decide);exact⟨rfl,q+1,rfl,⟨by omega,bf,bg,ai⟩,by omega⟩
      ·obtain rfl:q=d.n:=by omega
       have hb:=B.blk 5 rfl;refine L_ (cs:=nfL ⟨d.count+1,0,d.count,d.edgesTo d.n⟩ (.slice Q (d.edgesTo d.n).length R)) FI (hb.cells fun j v V=>by rw[K_];exact V) trivial ?_;refine AN (cs:=nfL ⟨d.count+1,0,d.count,d.edgesTo d.n⟩ (.slice Q (d.edgesTo d.n).length R)) B 0 rfl rfl (I_ _) rfl fun H12 w=>?_;rw[Aw (show(nfL ⟨d.count+1,0,d.count,d.edgesTo d.n⟩ (.slice Q (d.edgesTo d.n).length R)).length=4 from rfl)]at w;refine L_ (cs:=nfL ⟨d.count+1,0,d.count,d.edgesTo d.n⟩ (.slice Q (d.edgesTo d.n).length R)) FI ((w.blk 0 rfl).cells fun j v V=>by rw[K_];exact V) trivial ?_;(conv=>whnf);exact⟨w.old,Q,R,rfl,St.own w 6 rfl⟩
def pA(lo hi:Nat)(v:v_)(o:Option AM):Pc:=⟨fun k=>lo≤k∧k<hi,fun H=>AZ (fun k=>lo≤k∧k<hi) H v o,fun h hp=>hp.frame h⟩
theorem B_.auto{B:Nat→Prop}{H0 H H':Aa}{ps:List Pc}{v:v_}{o:Option AM}(st:B_ B H0 H ps)(a:C_ (H_ H) H H')(b:AZ (fun k=>H.size≤k∧k<H'.size) H' v o):B_ B H0 H' (ps++[pA H.size H'.size v o]):=
 st.add a _ b fun k c=>c
theorem B_.aView{B:Nat→Prop}{H0 H:Aa}{ps:List Pc}{v:v_}{o:Option AM}{lo b:Nat}(st:B_ B H0 H ps)(i:Nat)(a:ps[i]?=some (pA lo b v o)):AZ (H_ H) H v o:=
 AZ.mono (st.at_ i a) fun k c=>(st.in_ i a c).2
abbrev tMk:x_:=216
def ID(mb:Nat)(b:Int)(m:Nat):Pc:=pB tMk mb [A_ b,A_ m]
def mkS(mb:Nat)(b:Int)(m:Nat):List Pc:=[ID mb b m]
theorem By{α:Type}(ps:List α)(a:α):(ps++[a]).Perm (a::ps):=YdF a ps
theorem EC{α:Type}(ps:List α)(a b:α):(ps++[a]++[b]).Perm (a::b::ps):=((YdF b (ps++[a])).trans ((YdF a ps).cons b)).trans (List.Perm.swap a b ps)
section
variable{H0 H:Aa}{ps:List Pc}{mb:Nat}{b:Int}
theorem RL{va:v_}{o:Option AM}{d:PA}{lo g m:Nat}(j:Fx o d)(st:St H0 H (ps++mkS mb b m++[pA lo g va o])):
  Ak prog 161 #[U_ mb,va,A_ 0] H fun r H'=>r= .tuple #[va,A_ 0]∧C_ (fun k=>k<H.size∧k≠mb) H H'∧St H0 H' (ps++mkS mb b (max m d.n)++[pA lo g va o]):=by
 have a:St H0 H (pB tMk mb [A_ b,A_ m]::pA lo g va o::ps):=st.perm (EC _ _ _);refine Ak.of_vc func161 rfl (call161 _) (An.run (Aq.heldZ (H_ H) [10] (sq [0,1,2,3,4,5] (.f 6 (sq [7,8,9] (.f 10 .e)))) rfl (by kernel_rfl) (fa Nc ?_)));refine G_ (v:=A_ m) E_ ((a.blk 0 rfl).ce rfl) (a.in_ 0 rfl rfl).2 ?_;refine Ah (HI (B_.aView a 1 rfl)) fun H1 c=>?_;have st1:=a.call c;refine⟨c,?_⟩;rw[j.n];refine AfP ?_;rw[show(if(m:Int)<(d.n:Int)then(d.n:Int)else(m:Int))=((max m d.n:Nat):Int) by split<;>omega];refine fa Nc (WH st1 0 E_ rfl (show 1<2 by decide) rfl fun H2 h l p=>?_);(conv=>whnf);exact⟨rfl,(c.mono fun k i=>i.1).trans (l.mono fun k i=>i.2),h.perm (EC _ _ _).symm⟩
theorem OK{e:Int}(a:e≠0){H:Aa}:
  BM prog 161 #[U_ mb,.pointer none,A_ e] H (.tuple #[.pointer none,A_ e]):=by
 refine Ak.of_vc func161 rfl (call161 _) ?_;have b:(e==0)=false:=beq_eq_false_iff_ne.2 a;refine An.run ?_;(conv=>whnf);rw[b];(conv=>whnf);exact⟨rfl,C_.refl _ _⟩
def Q3(H0:Aa)(ps:List Pc)(mb:Nat)(b:Int)(x:Nat×Except Int PA)(v:v_)(H':Aa):Prop:=match x.2 with
 | .ok d=>∃va A lo hi,v= .tuple #[va,A_ 0]∧B9 (some A)∧Fx (some A) d∧St H0 H' (ps++mkS mb b x.1++[pA lo hi va (some A)])
 | .error e=>v= .tuple #[.pointer none,A_ e]∧St H0 H' (ps++mkS mb b x.1)
theorem Xa{r:ReM}(h:r.nodes≤2000)(s:Nat):BN b r s=BB (Kn (LZ b) r s) fun N a=>match L8 b N with
  | .error e=>(a,.error e)
  | .ok d=>(max a d.n,.ok d):=by
 unfold BN FM Kn;rw[D_ (by omega),Ef];cases Bx (LZ b) r 0 s with
 | mk a c=>
   cases c with
   | error e=>rfl
   | ok A=>
     show(if 65536<A.u then _ else _)=BB (if 65536<A.u then _ else _) _;split
     ·rfl
     ·rfl
theorem Ac1{r:ReM}{s d:Nat}{N:N_}(h:Kn (LZ b) r s=(d,.ok N)):N.edges.length≤33554432:=by
 unfold Kn at h;split at h
 ·cases h
 ·have⟨e,A,c,a⟩:=AL h;split at a
  ·cases a
  ·rename_i f;cases a;rw[←Ef]at c;have:=UW c;show A.es.length≤_;omega
theorem YP{r:ReM}{s a:Nat}{e:Int}(h:Kn (LZ b) r s=(a,.error e)):e≠0:=by
 unfold Kn at h;split at h
 ·cases h;decide
 ·rcases Bu h with h | ⟨c,A,-,h⟩
  ·exact UV (J8 b) _ _ _ _ _ h
  ·split at h
   ·cases h;decide
   ·cases h
theorem Su(t:EM prog H0){r:ReM}{nv:v_}(W:r.nodes≤2000){s:Nat}
  (u:Ak prog 84 #[nv,.func (.func 160) #[U_ mb] #[]] H (Sb (H_ H0) H0 ((33554432+4)*2000) ps (mkS mb b) (Kn (LZ b) r s))):
  Ak prog 114 #[U_ mb,nv] H (Q3 H0 ps mb b (BN b r s)):=by
 refine Ak.of_vc func114 rfl (call114 _) ?_;rw[Xa W];obtain⟨g,X,j⟩:∃g G,Kn (LZ b) r s=(g,G):=⟨_,_,rfl⟩;rw[j]at u ⊢;refine Ae.mk u ?_;rintro v1 H1 w;cases X with
 | error e=>
   obtain⟨l,rfl,y,I,st1⟩:=w;replace st1:St H0 H1 (ps++mkS mb b g):=st1;have J:=YP j;refine Am _ [A_ 0,A_ 0,A_ 0,.slice none 0 0] Ee rfl ?_;intro x H2 K m n o;have p:St H0 H2 (pB 76 x [A_ 0,A_ 0,A_ 0,.slice none 0 0]::(ps++mkS mb b g)):=(st1.box K m n o).perm (By _ _);refine AN (cs:=l) p 0 (by rw[y];rfl) rfl (by rw[y];exact I_ _) I fun H3 a=>?_;have Y:(e != 0)=true:=bne_iff_ne.2 J;(conv=>whnf);rw[Y];(conv=>whnf);rw[C5 (x:=(g,(.error e:Except Int N_))) rfl];exact⟨rfl,a.sub (YdE _ _)⟩
 | ok N=>
   obtain⟨-,z,B,C,rfl,st1⟩:=w;have L:=Ac1 j;replace st1:St H0 H1 (ps++mkS mb b g++[pS tEd 174 B N.edges.length C N.edges]):=st1;have D:St H0 H1 (ID mb b g::pS tEd 174 B N.edges.length C N.edges::ps):=st1.perm (EC _ _ _);refine Am _ [A_ 0,A_ 0,A_ 0,.slice none 0 0] Ee rfl ?_;intro x H2 K m n o;have p:St H0 H2 (pB 76 x [A_ 0,A_ 0,A_ 0,.slice none 0 0]::pB tMk mb [A_ b,A_ g]::pS tEd 174 B N.edges.length C N.edges::ps):=(D.box K m n o).perm (By _ _);refine AN (cs:=nfL N (.slice B N.edges.length C)) p 0 rfl rfl (I_ _) rfl fun H3 a=>?_;rw[Aw (show(nfL N (.slice B N.edges.length C)).length=4 from rfl)]at a;have M:=(a.in_ 0 rfl rfl).2;have O:x≠mb:=(a.blk 0 rfl).ne (a.blk 1 rfl) (by decide);refine Aq.heldZ (fun k=>k<H3.size∧k≠mb) [] (sq [0,1,2,3,4] (.f 5 (.f 6 (sq [7,8] (.f 9 (sq [10,11,12,13] .e)))))) rfl (by kernel_rfl) (JS z L (a.blk 0 rfl) FI ⟨M,O⟩ (a.view 2 rfl) fun v4 P=>(fa Rd ?_));refine lT (v:=A_ b) E_ ((a.blk 1 rfl).ce rfl) ?_;refine⟨C_.refl _ _,?_⟩;refine Ae.mk (AcB (S:=H_ H3) (fun k h=>h) P (t.agr a.old)) ?_;rintro r5 H5 ⟨c,i⟩;refine⟨c.mono fun k h=>h.1,?_⟩;have Q:St H0 H5 (ps++mkS mb b g):=((a.call c).sub (YdE _ _) |>.perm (List.Perm.swap _ _ _) |>.sub (YdE _ _)).perm (By _ _).symm;rw[C1 (x:=(g,(.ok N:Except Int N_))) rfl];cases q:L8 b N with
   | error e=>
     rw[q]at i;subst i;have J:=(SB q).2;refine Ah (OK J) fun H6 E=>(⟨(c.mono fun k h=>h.1).trans (E.mono fun k h=>Ar c h.1),?_⟩);(conv=>whnf);exact⟨rfl,Q.call E⟩
   | ok d=>
     rw[q]at i;obtain⟨va,A,rfl,R,Z,F⟩:=i;have T:St H0 H5 (ps++mkS mb b g++[pA H3.size H5.size va (some A)]):=by
      have h1:St H0 H3 (ps++mkS mb b g):=(a.sub (YdE _ _) |>.perm (List.Perm.swap _ _ _) |>.sub (YdE _ _)).perm (By _ _).symm;exact B_.auto h1 c R
     refine Ae.mk (RL F T) ?_;rintro r7 H7 ⟨rfl,U,V⟩;refine⟨(c.mono fun k h=>h.1).trans (U.mono fun k h=>⟨Ar c h.1,h.2⟩),?_⟩;(conv=>whnf);exact⟨va,A,_,_,rfl,Z,F,V⟩
theorem YN(c:EM prog H0){r:ReM}(g:r.nodes≤2000){s:Nat}
  (d:∀(a:ReM),Rn a=true→a.nodes≤r.nodes→∀(s:Nat) {ps':List Pc} {H':Aa},St H0 H' (ps'++mkS mb b s)→Ak prog 160 #[U_ mb,Ao a] H' (Sb (H_ H0) H0 33554432 ps' (mkS mb b) (LZ b a s)))
  (st:St H0 H (ps++mkS mb b s)):
  Ak prog 114 #[U_ mb,Ao r] H (Q3 H0 ps mb b (BN b r s)):=
 Su c g (QM (B:=H_ H0) (H0:=H0) (P:=mkS mb b) (f:=160) (first:= #[U_ mb]) (cap:= #[]) (J8 b) (I_ _) r (by omega) (fun a h i s ps' H' e=>d a h i s e) st)
theorem PO{d:PA}(a:d.n≤4096):(AB d).Rng:=by
 have:=PA.count_le (d:=d);unfold AB;split
 ·exact⟨⟨by show(-9223372036854775808:Int)≤(d.count:Int)+1;omega,by show(d.count:Int)+1≤(9223372036854775807:Int);omega⟩,⟨by show(-9223372036854775808:Int)≤0;decide,by show 0≤(9223372036854775807:Int);decide⟩,⟨by show(-9223372036854775808:Int)≤(d.count:Int);omega,by show(d.count:Int)≤(9223372036854775807:Int);omega⟩⟩
 ·exact⟨⟨by decide,by decide⟩,⟨by decide,by decide⟩,⟨by decide,by decide⟩⟩
theorem AdS{N:Nat}(a6:∀(r:ReM),r.nodes≤N→∀(s:Nat) {ps:List Pc} {H:Aa},St H0 H (ps++mkS mb b s)→Ak prog 114 #[U_ mb,Ao r] H (Q3 H0 ps mb b (BN b r s)))
  {r:ReM} (hp:Rn r=true) (hn:r.nodes≤N+1) {s:Nat} (st:St H0 H (ps++mkS mb b s)):
  Ak prog 160 #[U_ mb,Ao r] H (Sb (H_ H0) H0 33554432 ps (mkS mb b) (LZ b r s)):=by
 revert hn st;cases r with
 | and_ t u=>
   intro a7 st;refine Ak.of_vc func160 rfl (call160 _) ?_;simp only[ReM.nodes]at a7;have hX:LZ b (.and_ t u) s=DO b Pd (fun s=>BN b t s) (fun s=>BN b u s) s:=rfl;rw[hX];unfold DO;refine Am _ [A_ 0,A_ 0,A_ 0,.slice none 0 0] Ee rfl ?_;intro y H1 hy a8 a9 ab;have st1:St H0 H1 ((pB 76 y [A_ 0,A_ 0,A_ 0,.slice none 0 0]::ps)++mkS mb b s):=(st.box hy a8 a9 ab).perm (By _ _);refine An.run ?_;refine FZ underlying64 (by intro ms h;cases h) ?_;refine Am _ [.nilIface,.nilIface] Nm rfl ?_;intro x H2 hx ae ag ah;have ai:St H0 H2 (pB 64 x [.nilIface,.nilIface]::((pB 76 y [A_ 0,A_ 0,A_ 0,.slice none 0 0]::ps)++mkS mb b s)):=(st1.box hx ae ag ah).perm (By _ _);refine AN (cs:=[Ao t,Ao u]) ai 0 rfl rfl (I_ _) (by simp[Gd]) fun H3 w=>?_;rw[Aw (show([Ao t,Ao u]).length=([.nilIface,.nilIface]:List v_).length from rfl)]at w;refine Aq.lex rfl (by kernel_rfl) (fa Zw ?_);refine lT (v:=Ao t) E4 ((w.blk 0 rfl).ce rfl) ?_;refine fa Zx ?_;refine lT (v:=Ao u) E4 ((w.blk 0 rfl).ce rfl) ?_;have Q:St H0 H3 ((pB 76 y [A_ 0,A_ 0,A_ 0,.slice none 0 0]::ps)++mkS mb b s):=w.sub (YdE _ _);have R:=a6 t (by omega) s Q;obtain⟨D,x4,e⟩:∃s1 E,BN b t s=(s1,E):=⟨_,_,rfl⟩;rw[e]at R;refine Ae.mk R ?_;rintro v4 H4 T;cases x4 with
   | error e4=>
     obtain⟨rfl,F⟩:=T;have aj:=BO b t _ _ _ e;have f:St H0 H4 (ID mb b D::pB 76 y [A_ 0,A_ 0,A_ 0,.slice none 0 0]::ps):=F.perm (By _ _);have ak:St H0 H4 (pB 76 y [A_ 0,A_ 0,A_ 0,.slice none 0 0]::ID mb b D::ps):=f.pickN 2 [1,0] (by decide);have d4:(e4 != 0)=true:=bne_iff_ne.2 aj;(conv=>whnf);rw[d4];refine Ax underlying76 rfl _ Ee [A_ 0,A_ 0,A_ 0,.slice none 0 0] rfl (AN (cs:=[A_ 0,A_ 0,A_ 0,.slice none 0 0]) ak 0 rfl rfl (I_ _) rfl fun G4 U=>?_);refine L_ (cs:=[A_ 0,A_ 0,A_ 0,.slice none 0 0]) FI ((U.blk 0 rfl).cells fun j v G=>by rw[K_];exact G) trivial ?_;(conv=>whnf);rw[C5 (x:=BN b t s) e];exact⟨_,rfl,rfl,rfl,(U.sub (YdE _ _)).perm (By _ _).symm⟩
   | ok d1=>
     obtain⟨g,A1,i,o,rfl,am,ao,F⟩:=T;have ap:=(Hs e).1;have f:St H0 H4 ((pA i o g (some A1)::pB 76 y [A_ 0,A_ 0,A_ 0,.slice none 0 0]::ps)++mkS mb b D):=F.perm (By _ _);have V:=a6 u (by omega) D f;obtain⟨C,x5,p⟩:∃s1 E,BN b u D=(s1,E):=⟨_,_,rfl⟩;rw[p]at V;rw[C1 (x:=BN b t s) e];refine Ae.mk V ?_;rintro v5 H5 W;cases x5 with
     | error e5=>
       obtain⟨rfl,I⟩:=W;have aq:=BO b u _ _ _ p;have a:St H0 H5 (ID mb b C::pA i o g (some A1)::pB 76 y [A_ 0,A_ 0,A_ 0,.slice none 0 0]::ps):=I.perm (By _ _);have ar:St H0 H5 (pB 76 y [A_ 0,A_ 0,A_ 0,.slice none 0 0]::ID mb b C::ps):=a.pickN 3 [2,0] (by decide);have d5:(e5 != 0)=true:=bne_iff_ne.2 aq;(conv=>whnf);rw[d5];refine Ax underlying76 rfl _ Ee [A_ 0,A_ 0,A_ 0,.slice none 0 0] rfl (AN (cs:=[A_ 0,A_ 0,A_ 0,.slice none 0 0]) ar 0 rfl rfl (I_ _) rfl fun G5 X=>?_);refine L_ (cs:=[A_ 0,A_ 0,A_ 0,.slice none 0 0]) FI ((X.blk 0 rfl).cells fun j v G=>by rw[K_];exact G) trivial ?_;(conv=>whnf);rw[C5 (x:=BN b u D) p];exact⟨_,rfl,rfl,rfl,(X.sub (YdE _ _)).perm (By _ _).symm⟩
     | ok d2=>
       obtain⟨J,A2,K,L,rfl,au,aw,I⟩:=W;have ax:=(Hs p).1;rw[C1 (x:=BN b u D) p];have a:St H0 H5 (ID mb b C::pA K L J (some A2)::pA i o g (some A1)::pB 76 y [A_ 0,A_ 0,A_ 0,.slice none 0 0]::ps):=I.perm (EC _ _ _);refine fa Rd ?_;refine G_ (v:=A_ b) E_ (by rw[(B_.blk (l:=[A_ b,A_ C]) a 0 rfl).cell];rfl) trivial ?_;refine Ae.mk (AdJ (S:=H_ H5) (m:=b) (fun k hk=>hk) (B_.aView a 2 rfl) (B_.aView a 1 rfl) am au) ?_;rintro r6 H6 ⟨Y,ay⟩;have z:=AfJ ao aw ap ax ay;cases B:prX b Pd d1 d2 with
       | error e7=>
         rw[B]at z;obtain rfl:r6= .tuple #[.pointer none,A_ e7]:=z;have Z:e7≠0:=by rcases Np B with h | h<;>omega
         refine Ah (OK Z) fun H7 az=>?_;have c:=(a.call Y).call az;have b0:St H0 H7 (pB 76 y [A_ 0,A_ 0,A_ 0,.slice none 0 0]::ID mb b C::ps):=c.pickN 4 [3,0] (by decide);have d7:(e7 != 0)=true:=bne_iff_ne.2 Z;(conv=>whnf);rw[d7];refine Ax underlying76 rfl _ Ee [A_ 0,A_ 0,A_ 0,.slice none 0 0] rfl (AN (cs:=[A_ 0,A_ 0,A_ 0,.slice none 0 0]) b0 0 rfl rfl (I_ _) rfl fun G7 a0=>?_);refine L_ (cs:=[A_ 0,A_ 0,A_ 0,.slice none 0 0]) FI ((a0.blk 0 rfl).cells fun j v G=>by rw[K_];exact G) trivial ?_;(conv=>whnf);exact⟨_,rfl,rfl,rfl,(a0.sub (YdE _ _)).perm (By _ _).symm⟩
       | ok d=>
         rw[B]at z;obtain⟨a1,A3,rfl,a2,b4,a3⟩:∃v A,r6= .tuple #[v,A_ 0]∧AZ (fun k=>H5.size≤k∧k<H6.size) H6 v (some A)∧B9 (some A)∧Fx (some A) d:=z;obtain⟨-,-,-,-,-,b5,-,M,-,-⟩:=O7 B;have b6:St H0 H6 ((pA K L J (some A2)::pA i o g (some A1)::pB 76 y [A_ 0,A_ 0,A_ 0,.slice none 0 0]::ps)++mkS mb b C++[pA H5.size H6.size a1 (some A3)]):=B_.auto (a.perm (By _ _).symm) Y a2;refine Ae.mk (RL a3 b6) ?_;rintro r7 H7 ⟨rfl,-,b7⟩;have c:=b7.perm (EC _ _ _);refine Ae.mk (SZ (S:=H_ H7) (fun k hk=>hk) (B_.aView c 1 rfl) b4 a3 b5 M) ?_;rintro r8 H8 ⟨b8,O,P,rfl,a4⟩;have⟨be,bf,e8,b9⟩:=c.got b8 a4;injection e8 with e81 _ e83
         subst e81;subst e83;have bd:St H0 H8 (pS tEd 174 O (AB d).edges.length P (AB d).edges::ID mb b (max C d.n)::pA H5.size H6.size a1 (some A3)::pA K L J (some A2)::pA i o g (some A1)::pB 76 y [A_ 0,A_ 0,A_ 0,.slice none 0 0]::ps):=b9.perm (By _ _);have a5:St H0 H8 (pB 76 y [A_ 0,A_ 0,A_ 0,.slice none 0 0]::ID mb b (max C d.n)::pS tEd 174 O (AB d).edges.length P (AB d).edges::ps):=bd.pickN 6 [5,1,0] (by decide);refine AN (cs:=nfL (AB d) (.slice O (AB d).edges.length P)) a5 0 rfl rfl (I_ _) rfl fun H11 q=>?_;rw[Aw (show(nfL (AB d) (.slice O (AB d).edges.length P)).length=4 from rfl)]at q;refine L_ (cs:=nfL (AB d) (.slice O (AB d).edges.length P)) FI ((q.blk 0 rfl).cells fun j v G=>by rw[K_];exact G) trivial ?_;(conv=>whnf);exact⟨LG M,PO M,O,P,rfl,(q.sub (YdE _ _)).perm (EC _ _ _).symm⟩
 | minus t u=>
   intro a7 st;refine Ak.of_vc func160 rfl (call160 _) ?_;simp only[ReM.nodes]at a7;have hX:LZ b (.minus t u) s=DO b Pl (fun s=>BN b t s) (fun s=>BN b u s) s:=rfl;rw[hX];unfold DO;refine Am _ [A_ 0,A_ 0,A_ 0,.slice none 0 0] Ee rfl ?_;intro y H1 hy a8 a9 ab;have st1:St H0 H1 ((pB 76 y [A_ 0,A_ 0,A_ 0,.slice none 0 0]::ps)++mkS mb b s):=(st.box hy a8 a9 ab).perm (By _ _);refine An.run ?_;refine CC underlying64 (by intro ms h;cases h) Nm (by decide) ?_;refine FZ underlying65 (by intro ms h;cases h) ?_;refine Am _ [.nilIface,.nilIface] R4 rfl ?_;intro x H2 hx ae ag ah;have ai:St H0 H2 (pB 65 x [.nilIface,.nilIface]::((pB 76 y [A_ 0,A_ 0,A_ 0,.slice none 0 0]::ps)++mkS mb b s)):=(st1.box hx ae ag ah).perm (By _ _);refine AN (cs:=[Ao t,Ao u]) ai 0 rfl rfl (I_ _) (by simp[Gd]) fun H3 w=>?_;rw[Aw (show([Ao t,Ao u]).length=([.nilIface,.nilIface]:List v_).length from rfl)]at w;refine Aq.lex rfl (by kernel_rfl) (fa Zy ?_);refine lT (v:=Ao t) E4 ((w.blk 0 rfl).ce rfl) ?_;refine fa Zz ?_;refine lT (v:=Ao u) E4 ((w.blk 0 rfl).ce rfl) ?_;have Q:St H0 H3 ((pB 76 y [A_ 0,A_ 0,A_ 0,.slice none 0 0]::ps)++mkS mb b s):=w.sub (YdE _ _);have R:=a6 t (by omega) s Q;obtain⟨D,x4,e⟩:∃s1 E,BN b t s=(s1,E):=⟨_,_,rfl⟩;rw[e]at R;refine Ae.mk R ?_;rintro v4 H4 T;cases x4 with
   | error e4=>
     obtain⟨rfl,F⟩:=T;have aj:=BO b t _ _ _ e;have f:St H0 H4 (ID mb b D::pB 76 y [A_ 0,A_ 0,A_ 0,.slice none 0 0]::ps):=F.perm (By _ _);have ak:St H0 H4 (pB 76 y [A_ 0,A_ 0,A_ 0,.slice none 0 0]::ID mb b D::ps):=f.pickN 2 [1,0] (by decide);have d4:(e4 != 0)=true:=bne_iff_ne.2 aj;(conv=>whnf);rw[d4];refine Ax underlying76 rfl _ Ee [A_ 0,A_ 0,A_ 0,.slice none 0 0] rfl (AN (cs:=[A_ 0,A_ 0,A_ 0,.slice none 0 0]) ak 0 rfl rfl (I_ _) rfl fun G4 U=>?_);refine L_ (cs:=[A_ 0,A_ 0,A_ 0,.slice none 0 0]) FI ((U.blk 0 rfl).cells fun j v G=>by rw[K_];exact G) trivial ?_;(conv=>whnf);rw[C5 (x:=BN b t s) e];exact⟨_,rfl,rfl,rfl,(U.sub (YdE _ _)).perm (By _ _).symm⟩
   | ok d1=>
     obtain⟨g,A1,i,o,rfl,am,ao,F⟩:=T;have ap:=(Hs e).1;have f:St H0 H4 ((pA i o g (some A1)::pB 76 y [A_ 0,A_ 0,A_ 0,.slice none 0 0]::ps)++mkS mb b D):=F.perm (By _ _);have V:=a6 u (by omega) D f;obtain⟨C,x5,p⟩:∃s1 E,BN b u D=(s1,E):=⟨_,_,rfl⟩;rw[p]at V;rw[C1 (x:=BN b t s) e];refine Ae.mk V ?_;rintro v5 H5 W;cases x5 with
     | error e5=>
       obtain⟨rfl,I⟩:=W;have aq:=BO b u _ _ _ p;have a:St H0 H5 (ID mb b C::pA i o g (some A1)::pB 76 y [A_ 0,A_ 0,A_ 0,.slice none 0 0]::ps):=I.perm (By _ _);have ar:St H0 H5 (pB 76 y [A_ 0,A_ 0,A_ 0,.slice none 0 0]::ID mb b C::ps):=a.pickN 3 [2,0] (by decide);have d5:(e5 != 0)=true:=bne_iff_ne.2 aq;(conv=>whnf);rw[d5];refine Ax underlying76 rfl _ Ee [A_ 0,A_ 0,A_ 0,.slice none 0 0] rfl (AN (cs:=[A_ 0,A_ 0,A_ 0,.slice none 0 0]) ar 0 rfl rfl (I_ _) rfl fun G5 X=>?_);refine L_ (cs:=[A_ 0,A_ 0,A_ 0,.slice none 0 0]) FI ((X.blk 0 rfl).cells fun j v G=>by rw[K_];exact G) trivial ?_;(conv=>whnf);rw[C5 (x:=BN b u D) p];exact⟨_,rfl,rfl,rfl,(X.sub (YdE _ _)).perm (By _ _).symm⟩
     | ok d2=>
       obtain⟨J,A2,K,L,rfl,au,aw,I⟩:=W;have ax:=(Hs p).1;rw[C1 (x:=BN b u D) p];have a:St H0 H5 (ID mb b C::pA K L J (some A2)::pA i o g (some A1)::pB 76 y [A_ 0,A_ 0,A_ 0,.slice none 0 0]::ps):=I.perm (EC _ _ _);refine fa Rd ?_;refine G_ (v:=A_ b) E_ (by rw[(B_.blk (l:=[A_ b,A_ C]) a 0 rfl).cell];rfl) trivial ?_;refine Ae.mk (AdF (S:=H_ H5) (m:=b) (fun k hk=>hk) (B_.aView a 2 rfl) (B_.aView a 1 rfl) am au) ?_;rintro r6 H6 ⟨Y,ay⟩;have z:=AfJ ao aw ap ax ay;cases B:prX b Pl d1 d2 with
       | error e7=>
         rw[B]at z;obtain rfl:r6= .tuple #[.pointer none,A_ e7]:=z;have Z:e7≠0:=by rcases Np B with h | h<;>omega
         refine Ah (OK Z) fun H7 az=>?_;have c:=(a.call Y).call az;have b0:St H0 H7 (pB 76 y [A_ 0,A_ 0,A_ 0,.slice none 0 0]::ID mb b C::ps):=c.pickN 4 [3,0] (by decide);have d7:(e7 != 0)=true:=bne_iff_ne.2 Z;(conv=>whnf);rw[d7];refine Ax underlying76 rfl _ Ee [A_ 0,A_ 0,A_ 0,.slice none 0 0] rfl (AN (cs:=[A_ 0,A_ 0,A_ 0,.slice none 0 0]) b0 0 rfl rfl (I_ _) rfl fun G7 a0=>?_);refine L_ (cs:=[A_ 0,A_ 0,A_ 0,.slice none 0 0]) FI ((a0.blk 0 rfl).cells fun j v G=>by rw[K_];exact G) trivial ?_;(conv=>whnf);exact⟨_,rfl,rfl,rfl,(a0.sub (YdE _ _)).perm (By _ _).symm⟩
       | ok d=>
         rw[B]at z;obtain⟨a1,A3,rfl,a2,b4,a3⟩:∃v A,r6= .tuple #[v,A_ 0]∧AZ (fun k=>H5.size≤k∧k<H6.size) H6 v (some A)∧B9 (some A)∧Fx (some A) d:=z;obtain⟨-,-,-,-,-,b5,-,M,-,-⟩:=O7 B;have b6:St H0 H6 ((pA K L J (some A2)::pA i o g (some A1)::pB 76 y [A_ 0,A_ 0,A_ 0,.slice none 0 0]::ps)++mkS mb b C++[pA H5.size H6.size a1 (some A3)]):=B_.auto (a.perm (By _ _).symm) Y a2;refine Ae.mk (RL a3 b6) ?_;rintro r7 H7 ⟨rfl,-,b7⟩;have c:=b7.perm (EC _ _ _);refine Ae.mk (SZ (S:=H_ H7) (fun k hk=>hk) (B_.aView c 1 rfl) b4 a3 b5 M) ?_;rintro r8 H8 ⟨b8,O,P,rfl,a4⟩;have⟨be,bf,e8,b9⟩:=c.got b8 a4;injection e8 with e81 _ e83
         subst e81;subst e83;have bd:St H0 H8 (pS tEd 174 O (AB d).edges.length P (AB d).edges::ID mb b (max C d.n)::pA H5.size H6.size a1 (some A3)::pA K L J (some A2)::pA i o g (some A1)::pB 76 y [A_ 0,A_ 0,A_ 0,.slice none 0 0]::ps):=b9.perm (By _ _);have a5:St H0 H8 (pB 76 y [A_ 0,A_ 0,A_ 0,.slice none 0 0]::ID mb b (max C d.n)::pS tEd 174 O (AB d).edges.length P (AB d).edges::ps):=bd.pickN 6 [5,1,0] (by decide);refine AN (cs:=nfL (AB d) (.slice O (AB d).edges.length P)) a5 0 rfl rfl (I_ _) rfl fun H11 q=>?_;rw[Aw (show(nfL (AB d) (.slice O (AB d).edges.length P)).length=4 from rfl)]at q;refine L_ (cs:=nfL (AB d) (.slice O (AB d).edges.length P)) FI ((q.blk 0 rfl).cells fun j v G=>by rw[K_];exact G) trivial ?_;(conv=>whnf);exact⟨LG M,PO M,O,P,rfl,(q.sub (YdE _ _)).perm (EC _ _ _).symm⟩
 | _=>cases hp
end
end
section
attribute [local irreducible] Bj Bd AP
def mkL(b m:Int):List v_:=[A_ b,A_ m]
theorem mk_z:(prog.info? 216).bind (·.zero)=some (.agg (mkL 0 0).toArray):=by kernel_rfl
section
variable{l:List Nat}
end
theorem YQ(s:ByteArray):∀c∈R_ s,c<256:=by
 intro c a;unfold R_ at a;obtain⟨b,-,rfl⟩:=I'.1 a;exact UInt8.toNat_lt b
end
section
attribute [local irreducible] Bj Bd AP Fz
theorem YO{H0:Aa}{mb:Nat}{b:Int}(a:EM prog H0):∀(N:Nat) (r:ReM),r.nodes≤N→r.nodes≤2000→∀(s:Nat) {ps:List Pc} {H:Aa},St H0 H (ps++mkS mb b s)→
  Ak prog 114 #[U_ mb,Ao r] H (Q3 H0 ps mb b (BN b r s)):=by
 intro N
 induction N with
 | zero=>intro r h;cases r<;>simp[ReM.nodes]at h
 | succ N e=>
   intro r n f s ps H st;refine YN a f (fun g hs i o j H' c=>?_) st;exact AdS (N:=g.nodes-1) (fun k p l m H2 d=>e k (by omega) (by omega) l d) hs (by omega) c
noncomputable def DE(b:Int)(r:ReM):Except Int (PA×Nat):=if b<1∨4096<b then .error 2 else if 2000<r.nodes then .error 24 else match BN b r 0 with
 | (_,.error e)=>.error e
 | (m,.ok d)=>.ok (d,m)
def N5(x:Except Int (PA×Nat))(H H':Aa)(R:v_):Prop:=match x with
 | .error e=>R= .tuple #[.pointer none,A_ 0,A_ e]
 | .ok (d,m)=>∃v A,R= .tuple #[v,A_ m,A_ 0]∧AZ (fun k=>H.size≤k∧k<H'.size) H' v (some A)∧B9 (some A)∧Fx (some A) d
theorem Vp{b:Int}{r:ReM}{e:Int}(h:DE b r= .error e):e≠0:=by
 unfold DE at h;split at h
 ·cases h;decide
 ·split at h
  ·cases h;decide
  ·cases c:BN b r 0 with
   | mk s a=>
     rw[c]at h;cases a with
     | error f=>simp only at h;cases h;exact BO b r _ _ _ c
     | ok d=>simp only at h;cases h
theorem Yb{b:Int}{r:ReM}{d:PA}{m:Nat}(h:DE b r= .ok (d,m)):1≤b∧b≤4096∧r.nodes≤2000∧BN b r 0=(m,.ok d):=by
 unfold DE at h;split at h
 ·cases h
 ·rename_i e;split at h
  ·cases h
  ·cases c:BN b r 0 with
   | mk s a=>
     rw[c]at h;cases a with
     | error f=>simp only at h;cases h
     | ok d=>simp only at h;cases h;exact⟨by omega,by omega,by omega,rfl⟩
theorem Xt(r:ReM)(o:r.nodes≤1000000000){H:Aa}{b:Int}(i:EM prog H):
  Ak prog 47 #[Ao r,A_ b] H fun R H'=>C_ (H_ H) H H'∧N5 (DE b r) H H' R:=by
 have c:=fun(mb:Nat) (H2:Aa) (st:St H H2 ([]++mkS mb b 0)) (hn:r.nodes≤2000)=>YO (mb:=mb) (b:=b) i r.nodes r (I_ _) hn 0 st;rw[Ot]at c ⊢;refine Ak.of_vc func47 rfl (call47 _) ?_;unfold DE;by_cases h:b<1
 ·have m:decide (b<1)=true:=n_ h;(conv=>whnf);rw[m];(conv=>whnf);exact⟨C_.refl _ _,by rw[F_ (.inl h)]<;>rfl⟩
 have m:decide (b<1)=false:=j_ h;by_cases f:4096<b
 ·have q:decide (b>4096)=true:=n_ f;(conv=>whnf);rw[m];(conv=>whnf);rw[q];(conv=>whnf);exact⟨C_.refl _ _,by rw[F_ (.inr f)]<;>rfl⟩
 have q:decide (b>4096)=false:=j_ f;(conv=>whnf);rw[m];(conv=>whnf);rw[q];refine Wn underlying28 (JY.mk (HH r) #[FE r] (Gy r) (AaQ r o H) ?_);rintro _ H1 ⟨rfl,s⟩;have st1:=(St.nil H).call s;by_cases g:2000<r.nodes
 ·have t:decide ((r.nodes:Int)>2000)=true:=e_;(conv=>whnf);rw[t];(conv=>whnf);exact⟨st1.old,by rw[D_ (by omega),F_ g]<;>rfl⟩
 have t:decide ((r.nodes:Int)>2000)=false:=V_;rw[D_ (by omega),D_ g];(conv=>whnf);rw[t];refine Ax underlying216 rfl _ mk_z (mkL b 0) rfl (Ct (mkL b 0) rfl ?_);intro mb H2 u w f x;have y:St H H2 ([]++mkS mb b 0):=st1.box u w f x;have j:=c mb H2 y (by omega);obtain⟨z,F,l⟩:∃G B,BN b r 0=(G,B):=⟨_,_,rfl⟩;rw[l]at j ⊢;refine Ae.mk j ?_;rintro R H3 D;cases F with
 | error e=>
   obtain⟨rfl,a⟩:=D;have I:=BO b r _ _ _ l;have J:(e != 0)=true:=bne_iff_ne.2 I;(conv=>whnf);rw[J];(conv=>whnf);exact⟨a.old,rfl⟩
 | ok d=>
   obtain⟨va,A,lo,n,rfl,K,L,a⟩:=D;have C:Q_ H3 mb 216 [A_ b,A_ z]:=a.at_ (p:=pB tMk mb [A_ b,A_ z]) 0 rfl;refine Aq.lex rfl (by kernel_rfl) (f_ Nc ?_);refine G_ (v:=A_ z) E_ (by rw[C.cell];rfl) trivial ?_;(conv=>whnf);refine⟨a.old,va,A,rfl,?_,K,L⟩;have M:AZ (fun k=>lo≤k∧k<n) H3 va (some A):=a.at_ (p:=pA lo n va (some A)) 1 rfl;exact M.mono fun k E=>⟨a.ge (p:=pA lo n va (some A)) 1 rfl E,(a.in_ (p:=pA lo n va (some A)) 1 rfl E).2⟩
theorem Lr{x:Except Int (PA×Nat)}{H H':Aa}{R:v_}(h:N5 x H H' R):∃x y z,R= .tuple #[x,y,z]:=by
 unfold N5 at h;split at h
 ·exact⟨_,_,_,h⟩
 ·obtain⟨v,A,h,-⟩:=h;exact⟨_,_,_,h⟩
theorem LF(r:ReM)(f:r.nodes≤1000000000){H:Aa}{b:Int}(c:EM prog H):
  Ak prog 14 #[Ao r,A_ b] H fun R H'=>C_ (H_ H) H H'∧match DE b r with
   | .error e=>R= .tuple #[.pointer none,A_ e]
   | .ok (d,m)=>∃v A,R= .tuple #[v,A_ 0]∧AZ (fun k=>H.size≤k∧k<H'.size) H' v (some A)∧B9 (some A)∧Fx (some A) d:=by
 refine Ak.of_vc func14 rfl (call14 _) (Ae.mk (Xt r f c) ?_);rintro R H1 ⟨g,a⟩;obtain⟨x,y,z,rfl⟩:=Lr a;(conv=>whnf);refine⟨g,?_⟩;unfold N5 at a;cases i:DE b r with
 | error e=>rw[i]at a;cases a;rfl
 | ok q=>
   have⟨d,m⟩:=q;rw[i]at a;have⟨v,A,h,j⟩:=a;cases h;exact⟨_,A,rfl,j⟩
end
open Go.Lib
section
attribute [local irreducible] Bj Bd AP Fz
theorem XD{B:Nat→Prop}{H0 H:Aa}{rest:List Pc}{bb c:Nat}{a:Option Addr}{b:v_}(st:B_ B H0 H (bdQ bb 0 0 b a c [] rest)):
  Ak prog 138 #[U_ bb,.nilIface] H fun v H'=>∃a' e,v= .tuple #[A_ ((0:Nat):Int),A_ ((1:Nat):Int)]∧B_ B H0 H' (bdQ bb 0 2 b a' e [D2 0 1 0#256] rest):=by
 refine Ak.of_vc func138 rfl (call138 _) (fa CE ?_);refine lT (v:=A_ 0) Ks ((st.blk 0 rfl).ce rfl) ?_;(conv=>whnf);try (refine An.run ?_)
 refine Iy underlying98 (by intro d h;cases h) Ic ?_;refine Iy underlying104 (by intro d h;cases h) Ie ?_;refine Iy underlying105 (by intro d h;cases h) JT ?_;refine Iy underlying305 (by intro d h;cases h) Le ?_;refine Iy underlying310 (by intro d h;cases h) Nn ?_;refine Iy underlying64 (by intro d h;cases h) Nm ?_;refine Iy underlying65 (by intro d h;cases h) R4 ?_;refine Cz Ch (Bt 0) rfl (Ad 0) rfl (Ss (s:=0#256) st (by omega) (by simp) fun a' e H4 f=>?_);(conv=>whnf);exact⟨a',e,rfl,f⟩
theorem NJ{σ:Type}{B:Nat→Prop}{H0 H:Aa}{P:σ→List Pc}{sub:ReM→σ→σ×Except Int N_}{E:Nat}{f:FuncId}{first cap:Array v_}{ps:List Pc}{s:σ}(st:B_ B H0 H (ps++P s)):
  Ak prog 84 #[.nilIface,.func (.func f) first cap] H (Sb B H0 ((E+4)*2000) ps P (Kn sub (.cls 0#256) s)):=by
 refine Ak.of_vc func84 rfl (call84 _) (Am _ [A_ 0,A_ 0,A_ 0,.slice none 0 0] Ee rfl ?_);intro y H1 x k l m;have st1:B_ B H0 H1 (pB 76 y [A_ 0,A_ 0,A_ 0,.slice none 0 0]::(ps++P s)):=(st.box x k l m).perm (YdF _ _);refine Rm underlying28 (Ax underlying246 rfl _ bd_z (bdX 0 0 (.slice none 0 0) (.func (.func f) first cap)) (by kernel_rfl) (Ct (bdX 0 0 (.slice none 0 0) (.func (.func f) first cap)) rfl ?_));intro bb H3 n o p q;have c:B_ B H0 H3 (pB tBd bb (bdX 0 0 (.slice none 0 0) (.func (.func f) first cap))::(pB 76 y [A_ 0,A_ 0,A_ 0,.slice none 0 0]::(ps++P s))):=(st1.box n o p q).perm (YdF _ _);have d:=(c.nils tEd 174).perm (YdF _ _);have r:B_ B H0 H3 (bdQ bb 0 0 (.func (.func f) first cap) none 0 [] (pB 76 y [A_ 0,A_ 0,A_ 0,.slice none 0 0]::(ps++P s))):=d.perm (List.Perm.swap _ _ _);clear c d;refine Ae.mk (XD r) ?_;rintro z H4 ⟨g,h,rfl,t⟩;refine fa Cd (fa K1 (Bh t 0 E_ rfl (show 1<6 by decide) rfl fun H5 u=>(fa Cd (fa LA (Bh u 0 E_ rfl (show 2<6 by decide) rfl fun H6 b=>(fa CE ?_))))));refine lT (v:=A_ 0) Ks ((b.blk 0 rfl).ce rfl) ?_;refine fa Cd (fa E8 ?_);refine lT (v:=A_ ((2:Nat):Int)) E_ ((b.blk 0 rfl).ce rfl) ?_;refine fa Cd ?_;have w:Be H6 bb 0 (nfL ⟨((2:Nat):Int),((0:Nat):Int),((1:Nat):Int),[D2 0 1 0#256]⟩ (.slice g 1 h)):=(b.blk 0 rfl).cells fun j v a=>by
  rw[K_]
  match j,a with
  | 0,a=>exact a
  | 1,a=>exact a
  | 2,a=>exact a
  | 3,a=>exact a
 refine L_ (cs:=nfL ⟨((2:Nat):Int),((0:Nat):Int),((1:Nat):Int),[D2 0 1 0#256]⟩ (.slice g 1 h)) FI w trivial (AN (cs:=nfL ⟨((2:Nat):Int),((0:Nat):Int),((1:Nat):Int),[D2 0 1 0#256]⟩ (.slice g 1 h)) b 2 rfl rfl (I_ _) rfl fun H7 i=>?_);refine L_ (cs:=nfL ⟨((2:Nat):Int),((0:Nat):Int),((1:Nat):Int),[D2 0 1 0#256]⟩ (.slice g 1 h)) FI ((i.blk 2 rfl).cells fun j v a=>by rw[K_];exact a) trivial ?_;(conv=>whnf);have e:Kn sub (.cls 0#256) s=(s,.ok ⟨((2:Nat):Int),((0:Nat):Int),((1:Nat):Int),[D2 0 1 0#256]⟩):=rfl;rw[e];exact⟨by show 1≤_;omega,⟨BX (by decide),BX (by decide),BX (by decide)⟩,g,h,rfl,((i.sub (YdE _ _)).perm (List.Perm.swap _ _ _) |>.sub (YdE _ _)).perm (YdF _ _).symm⟩
theorem Rt{H:Aa}{b:Int}(l:¬b<1)(m:¬4096<b)(c:EM prog H):
  Ak prog 47 #[.nilIface,A_ b] H fun R H'=>C_ (H_ H) H H'∧N5 (DE b (.cls 0#256)) H H' R:=by
 refine Ak.of_vc func47 rfl (call47 _) ?_;have B:decide (b<1)=false:=j_ l;have C:decide (b>4096)=false:=j_ m;unfold DE;rw[D_ (by omega),D_ (by decide)];(conv=>whnf);rw[B];(conv=>whnf);rw[C];refine Rm underlying28 (Ax underlying216 rfl _ mk_z (mkL b 0) rfl (Ct (mkL b 0) rfl ?_));intro mb H2 n o g q;have t:St H H2 ([]++mkS mb b 0):=(St.nil H).box n o g q;obtain⟨u,D,h⟩:∃F w,BN b (.cls 0#256) 0=(F,w):=⟨_,_,rfl⟩;have i:=Su (ps:=[]) (mb:=mb) (b:=b) (r:=.cls 0#256) (s:=0) c (by decide) (NJ (E:=33554432) (f:=160) (first:= #[U_ mb]) (cap:= #[]) t);rw[h]at i ⊢;refine Ae.mk i ?_;rintro R H3 y;cases D with
 | error e=>
   obtain⟨rfl,a⟩:=y;have G:=BO b _ _ _ _ h;have I:(e != 0)=true:=bne_iff_ne.2 G;(conv=>whnf);rw[I];(conv=>whnf);exact⟨a.old,rfl⟩
 | ok d=>
   obtain⟨va,A,lo,j,rfl,J,K,a⟩:=y;have x:Q_ H3 mb 216 [A_ b,A_ u]:=a.at_ (p:=pB tMk mb [A_ b,A_ u]) 0 rfl;refine Aq.lex rfl (by kernel_rfl) (f_ Nc ?_);refine G_ (v:=A_ u) E_ (by rw[x.cell];rfl) trivial ?_;(conv=>whnf);refine⟨a.old,va,A,rfl,?_,J,K⟩;have L:AZ (fun k=>lo≤k∧k<j) H3 va (some A):=a.at_ (p:=pA lo j va (some A)) 1 rfl;exact L.mono fun k z=>⟨a.ge (p:=pA lo j va (some A)) 1 rfl z,(a.in_ (p:=pA lo j va (some A)) 1 rfl z).2⟩
theorem Rs{H:Aa}{b:Int}(c:¬b<1)(d:¬4096<b)(a:EM prog H):
  Ak prog 14 #[.nilIface,A_ b] H fun R H'=>C_ (H_ H) H H'∧∃x y,R= .tuple #[x,y]:=by
 refine Ak.of_vc func14 rfl (call14 _) (Ae.mk (Rt c d a) ?_);rintro R H1 ⟨e,f⟩;obtain⟨x,y,z,rfl⟩:=Lr f;(conv=>whnf);exact⟨e,x,z,rfl⟩
theorem AgR{t:ByteArray}{nv:v_}{k:Bool}(h:match CY t with | .inl _=>nv= .nilIface∧k=false | .inr r=>nv=Ao r∧k=true∧r.nodes≤2000){H:Aa}{b:Int}(i:¬b<1)(j:¬4096<b)(a:EM prog H):
  Ak prog 14 #[nv,A_ b] H fun R H'=>C_ (H_ H) H H'∧∃x e,R= .tuple #[x,e]∧(k=true→∃r,CY t= .inr r∧nv=Ao r∧r.nodes≤2000∧match DE b r with
   | .error o=>x= .pointer none∧e= .int .i64 o
   | .ok (d,m)=>e= .int .i64 0∧∃A,AZ (fun k=>H.size≤k∧k<H'.size) H' x (some A)∧B9 (some A)∧Fx (some A) d):=by
 cases f:CY t with
 | inl e=>
   rw[f]at h;obtain⟨rfl,rfl⟩:=h;exact(Rs i j a).mono fun R H' ⟨l,x,y,c⟩=>⟨l,x,y,c,fun h=>by cases h⟩
 | inr r=>
   rw[f]at h;obtain⟨rfl,rfl,n⟩:=h;refine(LF r (by omega) a).mono fun R H' ⟨l,c⟩=>⟨l,?_⟩;cases g:DE b r with
   | error e=>rw[g]at c;exact⟨_,_,c,fun _=>⟨r,rfl,rfl,n,by rw[g];exact⟨rfl,rfl⟩⟩⟩
   | ok q=>
     have⟨d,m⟩:=q;rw[g]at c;have⟨v,A,p,s⟩:=c;exact⟨_,_,p,fun _=>⟨r,rfl,rfl,n,by rw[g];exact⟨rfl,A,s⟩⟩⟩
theorem Y5{o:Option AM}{d:PA}(h:Fx o d)(a:d.Ok)(s:ByteArray):C4 o s=d.fi (d.run 0 (R_ s)):=by
 have b:=YQ s;have c:Ae8 o s s.size=(R_ s).foldl (As o) ((0:Nat):Int):=by
  unfold Ae8 R_;rw[List.foldl_map,Yc2 (by rw[Array.length_toList];exact I_ _)];rfl
 unfold C4;rw[c,Fx.run h a _ 0 a.pos b,h.fi _ (PA.run_lt a _ 0 a.pos b)]
theorem AdN(w:List Nat)(r:ReM):(Mt w r 0 w.length)↔Pk w r=true:=(ZL w r).symm
theorem P1{o:Option AM}{d:PA}{b:Int}{r:ReM}{m:Nat}(c:Fx o d)(e:DE b r= .ok (d,m))(w:ByteArray):C4 o w=Pk (R_ w) r:=by
 obtain⟨-,-,-,a⟩:=Yb e;rw[Y5 c (Hs a).1 w,YcN,Ur a (YQ w),AdN]
theorem P2{r:ReM}{b:Int}{H H':Aa}{R:v_}(h:match DE b r with
   | .error e=>R= .tuple #[.pointer none,A_ e]
   | .ok (d,m)=>∃v A,R= .tuple #[v,A_ 0]∧AZ (fun k=>H.size≤k∧k<H'.size) H' v (some A)∧B9 (some A)∧Fx (some A) d):
  ∃x e,R= .tuple #[x,A_ e]∧((e=0∧∃A d m,DE b r= .ok (d,m)∧AZ (fun k=>H.size≤k∧k<H'.size) H' x (some A)∧B9 (some A)∧Fx (some A) d)∨(e≠0∧DE b r= .error e∧x= .pointer none)):=by
 cases a:DE b r with
 | error e=>rw[a]at h;exact⟨_,e,h,.inr ⟨Vp a,rfl,rfl⟩⟩
 | ok q=>
   have⟨d,m⟩:=q;rw[a]at h;have⟨v,A,c,f⟩:=h;exact⟨v,0,c,.inl ⟨rfl,A,d,m,rfl,f⟩⟩
end
section
attribute [local irreducible] Bj Bd AP
theorem AgY{P:w_}{t:x_}{x y:z_}{S:Nat→Prop}{H:Aa}{K:v_→Prop}{a b z:Bool}(h:P.underlying t=some .bool)(c:(a != b)=z)(k:K (.bool z)):AJ P (do eqGuard .neq t x y (.bool a) (.bool b);binOp .neq t (.bool a) (.bool b)) S H K:=by
 subst c;exact YI h k
end
section
attribute [local irreducible] Bj Bd AP
end
section
attribute [local irreducible] AdQ Bj Bd AP
def tW:Ty (List Nat) where
 size:=1
 rep _ _ cs w:=cs=[.string (bA w)]
 len h:=by rw[h];rfl
 frame h _:=h
 mono h _:=h
structure PrsP(vs:List v_)(F:List NW):Prop where
 len:vs.length=1026
 nd:(F.map (·.1)).Nodup
end
section
open Go.Shelf Go.Proofs
def Mq:Go.Shelf.Ren:=⟨fun | 169=>158 | n=>n,fun | 70=>277 | 9=>9 | 0=>0 | 72=>279 | 37=>201 | 127=>318 | 3=>3 | 5=>5 | n=>n,fun | n=>n⟩
theorem AdD:Go.Proofs.Lays.n169 prog Mq:={
 mixed:=by kernel_rfl
 f169:=func158.trans (congrArg some (by kernel_rfl))
 t0:=underlying0
 a0:=isAgg0
 z0:=sizeOf0
 v0:=zeroValue0
 t3:=underlying3
 a3:=isAgg3
 z3:=sizeOf3
 v3:=zeroValue3
 t9:=underlying9
 a9:=isAgg9
 z9:=sizeOf9
 v9:=zeroValue9
 t37:=underlying201
 a37:=isAgg201
 z37:=sizeOf201
 v37:=zeroValue201
 t70:=underlying277
 a70:=isAgg277
 z70:=sizeOf277
 v70:=zeroValue277
 t72:=underlying279
 a72:=isAgg279
 z72:=sizeOf279
 v72:=zeroValue279
 t127:=underlying318
 a127:=isAgg318
 z127:=sizeOf318
 v127:=zeroValue318}
theorem KK:Builder.Extra prog Mq:={
 sizeBuilder:=by kernel_rfl
 liesBuilder:=by kernel_rfl
 t5:=underlying5
 a5:=isAgg5
 z5:=sizeOf5
 v5:=zeroValue5
 infoByte:=by kernel_rfl
 cellsByte:=by kernel_rfl
 sizeByte:=by kernel_rfl
 neB5:=by decide}
open Go.RowKit in
theorem Builder_String_any_k(B b:Nat)(l:List UInt8)(w:y_)(h:Lib.IsBuilderF 279 5 B b (Lib.byteCells l) w)(a:B≤w.heap.size):
  Calls prog 158 #[U_ b] w fun e c=>e= .returned (.string ⟨l.toArray⟩)∧(Lib.IsBuilderF 279 5 B b (Lib.byteCells l) c∧Below B w c∧Lib.OthersKept 5 (some b) w c):=Any.Builder_String_any_k AdD KK B b l w h a
def Ro:Go.Shelf.Ren:=⟨fun | 171=>156 | 243=>189 | 246=>212 | 283=>225 | 284=>226 | 285=>227 | 286=>228 | 129=>207 | 317=>236 | 318=>237 | 319=>238 | 320=>239 | 337=>243 | 338=>244 | n=>n,fun | 3=>3 | 9=>9 | 2=>2 | 4=>4 | 171=>350 | 0=>0 | 53=>99 | 37=>201 | 5=>5 | 173=>352 | 212=>362 | 51=>332 | 20=>20 | 213=>363 | 46=>218 | 232=>367 | 233=>368 | n=>n,fun | 17=>1 | 18=>3 | 19=>4 | n=>n⟩
theorem ZE:Go.Proofs.LaysM.n171 prog Ro:={
 mixed:=by kernel_rfl
 f129:=func207.trans (congrArg some (by kernel_rfl))
 f171:=func156.trans (congrArg some (by kernel_rfl))
 f243:=func189.trans (congrArg some (by kernel_rfl))
 f246:=func212.trans (congrArg some (by kernel_rfl))
 f283:=func225.trans (congrArg some (by kernel_rfl))
 f284:=func226.trans (congrArg some (by kernel_rfl))
 f285:=func227.trans (congrArg some (by kernel_rfl))
 f286:=func228.trans (congrArg some (by kernel_rfl))
 f317:=func236.trans (congrArg some (by kernel_rfl))
 f318:=func237.trans (congrArg some (by kernel_rfl))
 f319:=func238.trans (congrArg some (by kernel_rfl))
 f320:=func239.trans (congrArg some (by kernel_rfl))
 f337:=func243.trans (congrArg some (by kernel_rfl))
 f338:=func244.trans (congrArg some (by kernel_rfl))
 t0:=underlying0
 a0:=isAgg0
 z0:=sizeOf0
 v0:=zeroValue0
 t2:=underlying2
 a2:=isAgg2
 z2:=sizeOf2
 v2:=zeroValue2
 t3:=underlying3
 a3:=isAgg3
 z3:=sizeOf3
 v3:=zeroValue3
 t4:=underlying4
 a4:=isAgg4
 z4:=sizeOf4
 v4:=zeroValue4
 t5:=underlying5
 a5:=isAgg5
 z5:=sizeOf5
 v5:=zeroValue5
 t9:=underlying9
 a9:=isAgg9
 z9:=sizeOf9
 v9:=zeroValue9
 t20:=underlying20
 a20:=isAgg20
 z20:=sizeOf20
 v20:=zeroValue20
 t37:=underlying201
 a37:=isAgg201
 z37:=sizeOf201
 v37:=zeroValue201
 t46:=underlying218
 a46:=isAgg218
 z46:=sizeOf218
 v46:=zeroValue218
 t51:=underlying332
 a51:=isAgg332
 z51:=sizeOf332
 v51:=zeroValue332
 t53:=underlying99
 a53:=isAgg99
 z53:=sizeOf99
 v53:=zeroValue99
 t171:=underlying350
 a171:=isAgg350
 z171:=sizeOf350
 v171:=zeroValue350
 t173:=underlying352
 a173:=isAgg352
 z173:=sizeOf352
 v173:=zeroValue352
 t212:=underlying362
 a212:=isAgg362
 z212:=sizeOf362
 v212:=zeroValue362
 t213:=underlying363
 a213:=isAgg363
 z213:=sizeOf363
 t232:=underlying367
 a232:=isAgg367
 z232:=sizeOf367
 v232:=zeroValue367
 t233:=underlying368
 a233:=isAgg368
 z233:=sizeOf368
 v233:=zeroValue368
 g17:=by kernel_rfl
 g18:=by kernel_rfl
 g19:=by kernel_rfl
 i0:=by kernel_rfl
 i2:=by kernel_rfl
 i3:=by kernel_rfl
 i4:=by kernel_rfl
 i5:=by kernel_rfl
 i9:=by kernel_rfl
 i20:=by kernel_rfl
 i37:=by kernel_rfl
 i46:=by kernel_rfl
 i51:=by kernel_rfl
 i53:=by kernel_rfl
 i171:=by kernel_rfl
 i173:=by kernel_rfl
 i212:=by kernel_rfl
 i232:=by kernel_rfl
 i233:=by kernel_rfl
 m17:=by kernel_rfl
 m18:=by kernel_rfl
 m19:=by kernel_rfl}
open Go.RowKit Go.Sort Go.Lib in
theorem strconv_Itoa(n:Int)(h0: -9223372036854775808≤n)(b:n≤9223372036854775807)(w:y_)(a:Lib.TabIs prog w "internal/strconv.uint64pow10" .u64 Lib.pow10Tab):
  Calls prog 156 #[A_ n] w fun e c=>e= .returned (.string ⟨(Lib.itoa n).toArray⟩)∧∃k d,c=grow (w.drewN k) d:=Any.strconv_Itoa ZE n h0 b w a
end
section
open Go.Shelf Go.RowKit Go.Proofs
theorem Sp:(prog.info? 279).map (·.size)=some 2:=by kernel_rfl
theorem YG:liesAt prog prog.depth 279 (2 / prog.cellsOf 279) 0 279 1=true:=by kernel_rfl
theorem Ac3(b:Nat)(w:y_)(h0:w.cell? ⟨b,0,none⟩=some (U_ b)):
  Calls prog 188 #[U_ b] w fun e l=>e= .returned (.tuple #[])∧l=w:=by
 obtain⟨j,m,_⟩:=YdD.1 Sp;have d:prog.follows .mixedOrders=true:=by kernel_rfl
 have f:=underlying279;have n:=isAgg279;have o:=sizeOf279;have p:=zeroValue279;have q:=run_underlying f;have a:=underlying277;have r:=isAgg277;have s:=sizeOf277;have t:=zeroValue277;have u:=run_underlying a;have v:=underlying4;have x:=isAgg4;have y:=sizeOf4;have z:=zeroValue4;have A:=run_underlying v;have c:=underlying338;have g:=isAgg338;have h:=sizeOf338;have i:=zeroValue338;have k:=run_underlying c
 go_enter func188,Tryz.ntmps188
 go_wp2
 rw[Lib.run_neq_ptr_same w _ a m]
 go_wp2
 go_end0
 exact⟨rfl,rfl⟩
theorem YU(b:Nat)(w:y_)(h0:w.cell? ⟨b,0,none⟩=some (.pointer none))(d:w.shape? b=some (279,2))(o:w.frozen? ⟨b,0,none⟩=false):
  Calls prog 188 #[U_ b] w fun e p=>e= .returned (.tuple #[])∧p=w.setCell ⟨b,0,none⟩ (U_ b):=by
 have⟨j,i,f⟩:=YdD.1 Sp;have g:prog.follows .mixedOrders=true:=by kernel_rfl
 have h:=underlying279;have q:=isAgg279;have r:=sizeOf279;have s:=zeroValue279;have t:=run_underlying h;have c:=underlying277;have u:=isAgg277;have v:=sizeOf277;have x:=zeroValue277;have y:=run_underlying c;have z:=underlying4;have A:=isAgg4;have B:=sizeOf4;have C:=zeroValue4;have D:=run_underlying z;have a:=underlying338;have k:=isAgg338;have l:=sizeOf338;have m:=zeroValue338;have n:=run_underlying a
 go_enter func188,Tryz.ntmps188
 go_wp2
 rw[Lib.run_to_unsafe w ⟨b,0,none⟩ c a i (by rw[f];decide) d (Nat.zero_lt_succ 1)];simp only[Result.andThen];rw[Oper.upon_value]
 go_wp2
 rw[run_callFunc_extern func211 (by kernel_rfl) (by kernel_rfl) (by kernel_rfl) (e:=Extern.AbiNoEscape.same) (by kernel_rfl)];rw[Lib.run_noEscape];simp only[Result.andThen];rw[Oper.upon_value]
 go_wp2
 rw[Lib.run_from_unsafe w ⟨b,0,none⟩ a c i d YG];simp only[Result.andThen];rw[Oper.upon_value]
 go_wp2
 go_end0
 exact⟨rfl,rfl⟩
end
end Go.Proofs.YtfbghcpdinlmcaaGreatDoor
namespace Go.VC
def Iu(s:ByteArray):List Int:=s.data.toList.map fun b=>(b.toNat:Int)
theorem Dx(s:ByteArray):(Iu s).length=s.size:=by unfold Iu;rw[Z_];rfl
theorem M3(s t:ByteArray):Iu (s++t)=Iu s++Iu t:=by unfold Iu;simp
theorem AeK(s:ByteArray):∀x∈Iu s,J' .u8 x:=fun x a=>by
 obtain⟨b,-,rfl⟩:=I'.1 a;exact AfC b
theorem Vq(s:ByteArray):byteCells s=(Iu s).map (Value.int .u8):=by
 unfold byteCells Iu;rw[List.map_map];rfl
theorem Ag5{P:w_}{t u ty by_:Nat}{z:v_}{B:Nat→Prop}{H0 H:Aa}{ps:List Pc}{e:x_}{a:Option Addr}{n cap:Nat}{xs:List Int}{K:v_→Aa→Prop}{s:ByteArray}(st:B_ B H0 H ps)(i:Nat)(x:SlT P t e 1 by_ z)(o:P.underlying u=some .string)
  (v:ps[i]?=some (pS tU8 e a n cap xs)) (p:xs.length+s.size≤maxLen) (hby:(xs.length+s.size)*by_≤140737488355328)
  (k:∀a' c H',B_ B H0 H' (ps.set i (pS tU8 e a' (xs.length+s.size) c (xs++Iu s)))→K (.slice a' (xs.length+s.size) c) H'):BH P (Builtin.append_ #[t,u] ty [.slice a n cap,.string s].toArray) H K:=by
 have⟨D,q,y⟩:=(st.at_ i v).1;refine Nw (m:=s.size) (news:=byteCells s) x q (t_ _) (fun w E=>Src.ofString w o s) p hby ?_;intro A H' j f r l;have g:(xs++Iu s).length=xs.length+s.size:=by rw[J_,Dx]
 have d:l_ tU8 none_ H' 0 e A (xs++Iu s):=⟨_,by rw[g];exact j,Ty.reps_append (Ty.reps_frame (f.mono fun k b=>b.elim) y) (by rw[Vq];exact RQ (AeK s))⟩;obtain⟨a',c,rfl⟩:=d.hull;rw[g]at d l ⊢;refine k a' c H' (st.upd i v (f.mono fun k b=>⟨b.1,fun C=>b.2 (.inl C)⟩) _ ⟨d,fun k b=>b.elim⟩ (fun k b=>?_) (fun k b=>?_) r)
 ·rcases b with b | b
  ·rcases l k b with h | h
   ·exact .inl (.inl h)
   ·exact .inr h
  ·exact b.elim
 ·rcases b with b | b
  ·exact(d.lt b).2
  ·exact b.elim
end Go.VC
namespace Go.Proofs.YtfbghcpdinlmcaaGreatDoor
open Go.VC
theorem ccP{B:Nat→Prop}{H0 H:Aa}{ps:List Pc}{b:Nat}{p:Option Addr}{v:v_}{K:v_→Aa→Prop}(st:B_ B H0 H ps)(i:Nat)(c:ps[i]?=some (pB 279 b [.pointer p,v]))(e:p=none∨p=some ⟨b,0,none⟩)
  (k:∀H',B_ B H0 H' (ps.set i (pB 279 b [U_ b,v]))→K (.tuple #[]) H'):Ae prog 188 #[U_ b] H K:=by
 refine⟨fun w j=>⟨call188 _ w,?_⟩⟩;subst j;have d:=st.blk i c;rcases e with rfl | rfl
 ·have f:w.cell? ⟨b,0,none⟩=some (.pointer none):=by rw[EP,d.cell];rfl
  have g:w.shape? b=some (279,2):=by
   unfold World.shape?;rw[d];rfl
  refine(YU b w f g (Gk d)).mono ?_;rintro _ _ ⟨rfl,rfl⟩;have⟨l,m,n⟩:=Ju (o:=0) d (U_ b);exact⟨_,rfl,by unfold World.setCell;split<;>exact⟨rfl,rfl,rfl⟩,k _ (st.upd i c (m.mono fun k a h=>a.2 h) _ l (fun k a=>.inl a) (fun k a=>by rw[n];exact(st.in_ i c a).2) (by omega))⟩
 ·have f:w.cell? ⟨b,0,none⟩=some (U_ b):=by rw[EP,d.cell];rfl
  refine(Ac3 b w f).mono ?_;rintro _ _ ⟨rfl,rfl⟩;exact⟨_,rfl,d_.refl _,k _ (st.say i c _ (st.at_ i c) (fun k a=>a))⟩
abbrev AfN:x_:=5
def Kh(B:Nat→Prop)(H0:Aa)(b:Nat)(s:ByteArray)(rest:List Pc)(H:Aa):Prop:=
 ∃p a cap,(p=none∨p=some ⟨b,0,none⟩)∧B_ B H0 H (pB 279 b [.pointer p,.slice a s.size cap]::pS tU8 AfN a s.size cap (Iu s)::rest)
section
variable{B:Nat→Prop}{H0 H H1:Aa}{b:Nat}{s t:ByteArray}{rest:List Pc}{K:v_→Aa→Prop}
theorem Kh.call(h:Kh B H0 b s rest H)(c:C_ (H_ H) H H1):Kh B H0 b s rest H1:=by
 have⟨p,a,cap,d,st⟩:=h;exact⟨p,a,cap,d,st.call c⟩
theorem vwS(h:Kh B H0 b s rest H)(hs:s.size+t.size≤140737488355328)(k:∀H',Kh B H0 b (s++t) rest H'→K (.tuple #[A_ t.size,.nilIface]) H'):Ae prog 155 #[U_ b,.string t] H K:=by
 have⟨p,a,cap,f,st⟩:=h;refine⟨Ak.of_vc func155 rfl (call155 _) ?_⟩;refine ccP st 0 rfl f fun H1 st1=>(f_ Nf ?_);refine lT (v:=.slice a s.size cap) VG ((st1.blk 0 rfl).ce rfl) ?_;refine Ag5 (s:=t) st1 1 CS underlying9 rfl (by rw[Dx];unfold maxLen;omega) (by rw[Dx];omega) fun g i H2 c=>?_;rw[Dx,←M3]at c;rw[Dx];have e:s.size+t.size=(s++t).size:=by simp
 rw[e]at c ⊢;refine f_ Nf (Bh c 0 VG rfl (show(0:Nat)+1<2 by decide) rfl fun H3 d=>?_);(conv=>whnf);exact k H3 ⟨_,g,i,.inr rfl,d⟩
theorem vwB{c:Nat}(n:c<256)(h:Kh B H0 b s rest H)(hs:s.size+1≤140737488355328)(k:∀H',Kh B H0 b (s++bA [c]) rest H'→K .nilIface H'):Ae prog 157 #[U_ b,.int .u8 (c:Int)] H K:=by
 have⟨p,a,cap,o,st⟩:=h;refine⟨Ak.of_vc func157 rfl (call157 _) ?_⟩;refine ccP st 0 rfl o fun H1 st1=>(f_ Nf ?_);refine lT (v:=.slice a s.size cap) VG ((st1.blk 0 rfl).ce rfl) ?_;refine Ay CS [.int .u8 (c:Int)] rfl rfl (by decide) (by decide) ?_;intro w H2 f q g i;refine Kj (ys:=[(c:Int)]) (ds:=[.int .u8 (c:Int)]) (st1.skip f i) 1 CS rfl (g.cells fun j v r=>by rw[K_];exact r) (Ty.reps_one ⟨rfl,K5 n⟩) rfl (by simp[Value.oneCell']) (by rw[Dx];simp only[h_,maxLen];omega) (by rw[Dx];simp only[h_];omega) fun t u H3 d _=>?_;have m:Iu s++[(c:Int)]=Iu (s++bA [c]):=by
  rw[M3]
  congr 1
  show [(c:Int)]=[((UInt8.ofNat c).toNat:Int)];rw[UInt8.toNat_ofNat']
  congr 1
  omega
 have e:(Iu s).length+[(c:Int)].length=(s++bA [c]).size:=by rw[←Dx (s++bA [c]),←m];simp
 rw[m,e]at d;rw[e];refine f_ Nf (Bh d 0 VG rfl (show(0:Nat)+1<2 by decide) rfl fun H4 l=>?_);(conv=>whnf);exact k H4 ⟨_,t,u,.inr rfl,l⟩
end
open Go.Lib
theorem vStr{H0 H:Aa}{b:Nat}{s:ByteArray}{rest:List Pc}{K:v_→Aa→Prop}(h:Kh (H_ H0) H0 b s rest H)(k:∀H',C_ (H_ H0) H0 H'→K (.string s) H'):Ae prog 158 #[U_ b] H K:=by
 have⟨p,a,cap,J,st⟩:=h;refine⟨fun w L=>⟨call158 _ w,?_⟩⟩;subst L;have M:=st.blk 0 rfl;have v:H0.size≤b:=by
  have:=(st.in_ 0 rfl (k:=b) rfl).1;unfold H_ at this;omega
 have x:(Value.slice a s.size cap).ownBlock≠some b:=fun e=>by
  cases a with
  | none=>cases e
  | some N=>
    have⟨q,o,S⟩:=N;injection e with e
    have d:=st.apart2 (i:=0) (j:=1) rfl rfl (by decide);refine d b rfl (.inl ?_);subst e;obtain⟨O,⟨-,c⟩,-⟩:=(st.at_ 1 rfl).1;rcases c with⟨g,-⟩ | ⟨b',F,l,g,-⟩
    ·cases g
    ·injection g with e1 e2 e3
     injection e1 with e1
     injection e1 with e4 e5 e6
     subst e5;subst e6;exact⟨_,_,_,rfl⟩
 have n:w.ownsRow H0.size 5 1 (.slice a s.size cap) (Go.Lib.byteCells s.data.toList).length (Go.Lib.byteCells s.data.toList):=by
  obtain⟨O,⟨P,c⟩,m⟩:=(st.at_ 1 rfl).1;obtain⟨rfl,G⟩:=Lm m;have y:Go.Lib.byteCells s.data.toList=(Iu s).map (Value.int .u8):=by
   unfold Go.Lib.byteCells Iu;rw[List.map_map];rfl
  have I:((Iu s).map (Value.int .u8)).length=s.size:=by rw[Z_,Dx]
  rw[y,I];refine⟨by rw[I,L'],?_⟩;rcases c with⟨g,z⟩ | ⟨b',F,l,g,-,A,r,B,C,t⟩
  ·exact .inl ⟨g,by rw[←Dx];exact z⟩
  ·have D:H0.size≤b':=by
    have:=(st.in_ 1 rfl (k:=b') (.inl ⟨0,s.size,cap,by rw[g];injection g with e1 e2 e3;subst e1;subst e3;rw[Dx]⟩)).1;unfold H_ at this;omega
   rw[Dx]at g r t;exact .inr ⟨b',F,l.toArray,g,D,A,r,B,by rw[List.size_toArray];exact C,t⟩
 have u:BuilderAtF 279 5 H0.size b (.pointer p) (Go.Lib.byteCells s.data.toList) w:=BuilderAtF.of ⟨v,_,M,n,x⟩;have E:IsBuilderF 279 5 H0.size b (Go.Lib.byteCells s.data.toList) w:=by
  rcases J with rfl | rfl
  ·exact .inl u
  ·exact .inr u
 refine(Builder_String_any_k H0.size b s.data.toList w E (Bv st.old)).mono ?_;rintro _ Q ⟨rfl,-,f,-⟩;refine⟨_,rfl,⟨f.os.symm ▸ rfl,f.tape.symm ▸ rfl,f.output.symm ▸ rfl⟩,?_⟩;exact k _ (st.old.trans (show C_ (H_ H0) w.heap Q.heap from fun j R=>f.block j R))
theorem UA{H:Aa}{i:Int}(a:EM prog H)(h0: -9223372036854775808≤i)(c:i≤9223372036854775807):BM prog 156 #[A_ i] H (.string (AgL i)):=by
 intro w b;refine⟨call156 _ w,?_⟩;refine(strconv_Itoa i h0 c w (a w b)).mono ?_;rintro _ _ ⟨rfl,n,d,rfl⟩;refine⟨_,rfl,⟨rfl,rfl,rfl⟩,rfl,?_⟩;subst b;intro k e;show(w.heap++d)[k]?=w.heap[k]?;exact Array.getElem?_append_left e
section
attribute [local irreducible] Bj Bd AP
theorem AiA:(prog.info? 279).bind (·.zero)=some (.agg #[.pointer none,.slice none 0 0]):=by kernel_rfl
theorem Kh.old{H0 H:Aa}{b:Nat}{s:ByteArray}{rest:List Pc}(h:Kh (H_ H0) H0 b s rest H):C_ (H_ H0) H0 H:=by
 obtain⟨p,a,cap,-,st⟩:=h;exact st.old
def TP(c:BitVec 256):List Nat:=[32]++Lp c++[62]
theorem Ab0{S:Nat→Prop}{H:Aa}{v:v_}{o:Option AM}(hS:∀k,S k→k<H.size)(hv:AZ S H v o)(bp:∃ls,CM o ls)(X:EM prog H)(hE:EH H):
  Ak prog 111 #[v] H fun r H'=>C_ (H_ H) H H'∧∃(rows:List (List Nat)) (O:List Nat) (A:AM),A=Bi (Ag o) (rows.map AR) (O.map fun(x:Nat)=>AY o (x:Int))∧Bk (Ag o) (rows.map AR) (O.map fun(x:Nat)=>AY o (x:Int)).length=true∧MJ (paO o) O∧Q9 (paO o) O (As (some A)) (AY (some A))∧rows.length=O.length∧r= .string (bA (Vt (Ag (some A)) O.length (fun q b=>(As (some A) (q:Int) b).toNat) fun q=>AY (some A) (q:Int))):=by
 refine Ak.of_vc func111 rfl (call111 _) (Ae.mk (Ac2 hS hv bp X) ?_);rintro v1 H1 ⟨I,rows,O,am,a4,bq,ao,ap⟩;obtain⟨A,hA⟩:∃A,A=Bi (Ag o) (rows.map AR) (O.map fun(x:Nat)=>AY o (x:Int)):=⟨_,rfl⟩;rw[←hA]at a4 ao;have br:∃ls,CM (some A) ls:=by
  have⟨ls,h⟩:=S1 (Ag o) (rows.map AR) (O.map fun(x:Nat)=>AY o (x:Int));unfold Cs at h;rw[F_ am,←hA]at h;exact⟨ls,h⟩
 have st1:=St.nil H1;have bu:=hE.agr I;have a5:=X.agr I;refine Ae.mk (HR (fun k F=>F.2) a4) ?_;rintro _ H2 ⟨bv,-,bw⟩;obtain⟨ca,cc,rfl,P⟩:=st1.got bv bw;obtain⟨cs,a6⟩:∃cs,cs=Ag (some A):=⟨_,rfl⟩;have aq:cs.length≤256:=by
  have⟨ls,h⟩:=br;rw[a6];exact Mg h
 rw[←a6]at P ⊢;refine Ae.mk (RG (S:=H_ H2) (fun k F=>F) (P.view 0 rfl) aq) ?_;rintro _ H3 ⟨bx,ra,rc,rfl,bz⟩;have⟨d8,d9,e3,a7⟩:=P.got bx bz;injection e3 with e31 e32 e33
 subst e31;subst e33;rw[show(bsI cs).length=cs.length by simp[bsI,Br]]at a7;refine D3 OP rfl (by omega) (by omega) (by omega) (by omega) ?_;intro tb H4 c1 c2 ar c3;rw[U']at ar ⊢;have a8:=a7.new (T:=tW) (n:=cs.length) (xs:=Aj1 cs.length ([]:List Nat)) c1 c2 ar c3 (DJ (by simp) fun i u y hu hy=>by
  rw[YaO]at hu hy;split at hu
  ·rename_i c4;rw[F_ c4]at hy;cases hu;cases hy;rfl
  ·cases hu) (by simp) (by unfold maxLen;omega)
 obtain⟨Q,a9⟩:∃Q,Q=cs.map TP:=⟨_,rfl⟩;have R:Q.length=cs.length:=by rw[a9,Z_]
 rw[show Aj1 cs.length ([]:List Nat)=Q.take 0++Aj1 (Q.length-0) [] by rw[Zn,R]]at a8;(conv=>whnf);refine A0.mk [24] (fun i:Nat=>[A_ i]) (fun i H5=>i≤cs.length∧St H1 H5 [pS Cp 101 ca cs.length cc cs,pS tU8 EI ra cs.length rc (bsI cs),pS tW 9 (T_ tb) cs.length cs.length (Q.take i++Aj1 (Q.length-i) [])]) (fun i _=>cs.length-i) ?_ ?_
 ·(conv=>whnf);exact⟨0,rfl,t_ _,a8⟩
 ·clear a8 a7 P;rintro i H5 c5 ⟨hi,p⟩;refine AG.m2 (fun hz=>?_) (fun hz=>?_)
  ·have⟨c,N⟩:=Ac (l:=cs) (k:=i) (by omega);have c7:Q[i]?=some (TP c):=by rw[a9,o_,N];rfl
   have ab:=ON c;refine ixO (j:=i) C0 p 0 rfl N rfl ?_;rintro b6 o6 c6 da c8 rfl;refine L_ (cs:=Ad c) AT c8 trivial (Am (Bt 0) (Ad 0) rfl rfl ?_);intro p7 H7 c9 cd ce ae;have cg:=p.box c9 cd ce ae;refine AN (cs:=Ad c) cg 3 rfl rfl (I_ _) rfl fun H8 U=>?_;rw[Aw (show(Ad c).length=(Ad 0).length from rfl)]at U;refine L_ (cs:=Ad c) AT ((U.blk 3 rfl).cells fun j v hv=>by rw[K_];exact hv) trivial ?_;refine Ah (AhB (bu.agr U.old)) fun H9 ch=>?_;have cj:=U.call ch;refine HK (E7 (u:=[32]) (by decide) (YbA ab (by decide))) ?_;rw[show(⟨#[32]⟩:ByteArray)=bA [32]from rfl,CU];refine HK (E7 (v:=[62]) (by rw[J_];simp only[h_];omega) (by decide)) ?_;rw[show(⟨#[62]⟩:ByteArray)=bA [62]from rfl,CU];refine ix OP (by omega) (by omega) ?_;refine GA (j:=i) (x:=TP c) cj 2 ct9 rfl rfl (by omega) (by rw[Zp (by omega)];omega) rfl (fun H' _=>rfl) fun H10 Y=>?_;rw[Zq c7]at Y;(conv=>whnf);rw[P_ i (by omega)];exact⟨rfl,i+1,by simp,⟨by omega,Y.pick [0,1,2] (by decide)⟩,by omega⟩
  ·obtain rfl:i=cs.length:=by omega
   rw[←R,Zo,R]at p;have J:=p.old;have d3:=p.view 0 rfl;have au:=p.view 1 rfl;have aw:=p.view 2 rfl;have ax:AZ (fun k=>H.size≤k∧k<H1.size) H5 v1 (some A):=a4.frame (J.mono fun k F=>F.2);refine Am (.agg #[.pointer none,.slice none 0 0]) [.pointer none,.slice none 0 0] AiA rfl ?_;intro pb H6 ck cm co cp;have ag:Kh (H_ H5) H5 pb ⟨#[]⟩ [] H6:=⟨none,none,0,.inl rfl,((St.nil H5).box ck cm co cp).nils tU8 AfN⟩;clear p;have Z:∀k,H.size≤k∧k<H1.size→k<H5.size:=fun k F=>Ar J F.2;have V:∀{G:Aa},C_ (H_ H5) H5 G→AZ (fun k=>H.size≤k∧k<H1.size) G v1 (some A):=fun h=>ax.frame (h.mono Z);have w:=a5.agr J;have z:=ax.steps;have cq:=z.n1;have ay:=z.n2;obtain⟨n,hn⟩:∃n,n=stN (some A):=⟨_,rfl⟩;rw[←hn]at cq ay;refine Ah (HI (V ag.old)) fun H7 ae=>?_;have ah:=ag.call ae;rw[←hn];refine Ah (UA (i:=(n:Int)) (w.agr ah.old) (by omega) (by omega)) fun H8 cr=>?_;have az:=ah.call cr;rw[Oe];have db:=Ac8 ay;refine HK (E7 (u:=[115,116,97,116,101,115,32]) (by decide) (by omega)) ?_;rw[show(⟨#[115,116,97,116,101,115,32]⟩:ByteArray)=bA [115,116,97,116,101,115,32]from rfl,CU];refine HK (E7 (v:=[10]) (by simp only[J_,b_,m_];omega) (by decide)) ?_;rw[show(⟨#[10]⟩:ByteArray)=bA [10]from rfl,CU];have dc:(HB n).length≤14:=by
    unfold HB;simp only[J_,b_,m_];omega
   refine vwS (t:=bA (HB n)) az (by rw[bsz];show 0+_≤_;omega) fun H9 b0=>?_;have B:Kh (H_ H5) H5 pb (bA (HB n++F4 cs (fun q b=>(As (some A) (q:Int) b).toNat) (fun q=>AY (some A) (q:Int)) 0)) [] H9:=by
    have e:(⟨#[]⟩:ByteArray)++bA (HB n)=bA (HB n++F4 cs (fun q b=>(As (some A) (q:Int) b).toNat) (fun q=>AY (some A) (q:Int)) 0):=by
     rw[show(⟨#[]⟩:ByteArray)=bA []from rfl,CU];show bA _=bA (HB n++[]);rw[YaX];rfl
    rw[←e];exact b0
   clear b0 az ah ag;obtain⟨d,C⟩:∃f:Nat→Nat→Nat,f=fun(q:Nat) b=>(As (some A) (q:Int) b).toNat:=⟨_,rfl⟩;obtain⟨g,K⟩:∃f:Nat→Bool,f=fun(q:Nat)=>AY (some A) (q:Int):=⟨_,rfl⟩;rw[←C,←K]at B;refine Ah (HI (V B.old)) fun H10 b4=>?_;have a0:=B.call b4;rw[←hn];have ai:∀q,q<n→∀c∈cs,d q (AE c 0).1<65536:=fun q hq c N=>by
    have h1:=z.step (q:Int) (AE c 0).1 ⟨by omega,by rw[←hn];omega⟩ (BC c 0);rw[C];have:=h1.2;rw[←hn]at this;show(As (some A) (q:Int) (AE c 0).1).toNat<65536;have:=h1.1;omega
   (conv=>whnf);refine A0.mk [45] (fun i:Nat=>[A_ i]) (fun i G=>i≤n∧Kh (H_ H5) H5 pb (bA (HB n++F4 cs d g i)) [] G) (fun i _=>n-i) ?_ ?_
   ·(conv=>whnf);exact⟨0,rfl,t_ _,a0⟩
   ·clear a0 B;rintro q H11 bm ⟨hq,D⟩;refine AG.m2 (fun ct=>?_) (fun ct=>?_)
    ·have b5:q<n:=by omega
     have de:=PM (fi:=g) aq (n:=q) (by omega) fun i hi=>ai i (by omega);have df:=MQ (u:=q) (by omega);have cu:(HB n++F4 cs d g q).length≤50000000000:=by
      rw[J_];have:q*616199≤65536*616199:=Ybw _ (by omega);omega
     obtain⟨w0,b7⟩:∃w0,w0=HB n++F4 cs d g q:=⟨_,rfl⟩;rw[←b7]at D cu;refine Ah (UA (i:=(q:Int)) (w.agr D.old) (by omega) (by omega)) fun H12 L=>?_;have b8:=D.call L;rw[Oe];refine vwS (t:=bA (dN q)) b8 (by rw[bsz,bsz];omega) fun H13 M=>?_;rw[CU]at M;have dg:(if g q then [42]else []:List Nat).length≤1:=by split<;>decide
     (conv=>whnf);refine An.cut [] (fun _:Unit=>[]) (fun _ G=>Kh (H_ H5) H5 pb (bA (w0++dN q++(if g q then [42]else []))) [] G) ?_ ?_
     ·refine Ah (FN (V M.old)) fun H14 b9=>?_;have a1:=M.call b9;rw[show AY (some A) (q:Int)=g q by rw[K]];cases dh:g q with
      | true=>
        refine vwB (c:=42) (by decide) a1 (by rw[bsz,J_];omega) fun H15 m=>?_;rw[CU]at m;(conv=>whnf);exact⟨rfl,(),rfl,m⟩
      | false=>
        (conv=>whnf);exact⟨rfl,(),rfl,by rw[D_ (by decide),YaX];exact a1⟩
     ·rintro⟨⟩ H15 bn m;obtain⟨w1,aj⟩:∃w1,w1=w0++dN q++(if g q then [42]else []):=⟨_,rfl⟩;have d4:w1.length≤50000000010:=by rw[aj];simp only[J_];omega
      rw[←aj]at m;(conv=>whnf);refine A0.mk [57] (fun k:Nat=>[A_ k]) (fun k G=>k≤cs.length∧Kh (H_ H5) H5 pb (bA (w1++I5 d q (cs.take k))) [] G) (fun k _=>cs.length-k) ?_ ?_
      ·(conv=>whnf);exact⟨0,rfl,t_ _,by rw[show I5 d q (cs.take 0)=[]from rfl,YaX];exact m⟩
      ·clear m;rintro k H16 bo ⟨F,a⟩;have ab:=OL (st:=d) (i:=q) (l:=cs.take k) fun c N=>ai q b5 c (List.mem_of_mem_take N);have cw:(cs.take k).length≤256:=by rw[YaW];omega
       have bd:(I5 d q (cs.take k)).length≤616192:=YbA ab (YbA (Ybw _ cw) (by decide));refine AG.m2 (fun cx=>?_) (fun cx=>?_)
       ·have⟨c,N⟩:=Ac (l:=cs) (k:=k) (by omega);have cy:=c_ N;have be:=BC c 0;have bf:=ai q b5 c cy;have cz:(bsI cs)[k]?=some ((AE c 0).1:Int):=by simp[bsI,Br,N]
        have d0:Q[k]?=some (TP c):=by rw[a9,o_,N];rfl
        have d5:=ON c;refine IB (i:=k) CS (au.frame (a.old.mono fun j W=>W)) (by simp[bsI,Br]) cz rfl ?_;rintro di dj dk d6 bg ⟨rfl,-⟩;refine lT ct5 bg.one ?_;have ak:∀j,H_ H5 j→H_ H16 j:=fun j W=>Ar a.old W;refine Aq.heldZ (H_ H16) [10] (sq [0,1,2,3,4,5,6] (.f 7 (.f 8 (sq [9] (.f 10 .e))))) rfl (by kernel_rfl) (IB (i:=k) OP (aw.frame (a.old.mono fun j W=>W)) R.symm d0 rfl ?_);rintro dl dm dn bh bi rfl;refine G_ (v:=.string (bA (TP c))) ct9 (bi 0 _ rfl) (ak _ bh) (Ah (F6 (fun j W=>Ar a.old (Z j W)) (V a.old) be) fun H17 E=>?_);have s:=a.call E;refine⟨E,?_⟩;have d1:As (some A) (q:Int) (AE c 0).1=((d q (AE c 0).1:Nat):Int):=by
         have h1:=(z.step (q:Int) (AE c 0).1 ⟨by omega,by rw[←hn];omega⟩ be).1;rw[C];show _=(((As (some A) (q:Int) (AE c 0).1).toNat:Nat):Int);omega
        rw[d1];refine Ah (UA (w.agr s.old) (by omega) (by omega)) fun H18 a2=>?_;have bj:=s.call a2;refine⟨E.trans (a2.mono fun j W=>Ar E W),?_⟩;rw[Oe];have dp:=MQ bf;have d7:(TP c).length≤2402:=by unfold TP;simp only[J_,h_];omega
        refine HK (E7 (by omega) (by omega)) ?_;rw[CU];refine vwS (t:=bA (TP c++dN (d q (AE c 0).1))) bj (by rw[bsz,bsz,J_,J_];omega) fun H19 a3=>?_;rw[CU]at a3;(conv=>whnf);rw[P_ k (by omega)];refine⟨rfl,k+1,by simp,⟨by omega,?_⟩,by omega⟩;rw[Af N,Vi,←YaN];exact a3
       ·obtain rfl:k=cs.length:=by omega
        rw[List.take_length]at a bd;refine vwB (c:=10) (by decide) a (by rw[bsz,J_];omega) fun H17 s=>?_;rw[CU]at s;(conv=>whnf);rw[P_ q (by omega)];refine⟨rfl,q+1,by simp,⟨by omega,?_⟩,by omega⟩;have e:w1++I5 d q cs++[10]=HB n++F4 cs d g (q+1):=by
         rw[aj,b7,Mr];unfold La;simp
        rw[←e];exact s
    ·obtain rfl:q=n:=by omega
     refine vStr D fun H12 L=>?_;(conv=>whnf);refine⟨I.trans ((J.mono fun k F=>Ar I F).trans (L.mono fun k F=>Ar J (Ar I F))),rows,O,A,hA,am,bq,ao,ap,?_⟩;have d2:q=O.length:=by
      rw[hn,←ap,hA];show(Bi (Ag o) (rows.map AR) (O.map fun(x:Nat)=>AY o (x:Int))).next.length=_
      unfold Bi;simp
     rw[d2,C,K,←a6];rfl
end
section
attribute [local irreducible] Bj AP
end
section
attribute [local irreducible] AdQ Bj Bd AP
theorem D7.size{g:Gr}{by_:List Nat}{a:Nd}{F:List NW}{i k:Nat}(h:D7 g by_ a F i k):∀(m:Nat) (y:NW),F[m]?=some y→y.2.length≤m:=fun m=>by
 induction m using Nat.strongRecOn with
 | _ m ih=>
   intro y c;rcases h.par m y c with rfl | ⟨j,l,b,x,d,-,e,-⟩
   ·rw[h.zero]at c;cases c;exact I_ _
   ·have o:y.2.length=x.2.length+1:=by rw[e,J_];rfl
    have f:j<m:=by
     apply Classical.byContradiction;intro p;rcases Yck (Nat.not_lt.1 p)with n | rfl
     ·rcases(h.up m j y x n c d).1 with q | ⟨q,-⟩<;>omega
     ·rw[d]at c;cases c;omega
    have:=ih j f x d;omega
end
section
attribute [local irreducible] Bj Bd AP
theorem Zu{S:Nat→Prop}{H:Aa}{va vb:v_}{a b:Option AM}{ask:Bool→Bool→Bool}{f:FuncId}(hS:∀k,S k→k<H.size)(b0:AZ S H va a)(bi:AZ S H vb b)(d7:∃ls,CM a ls)(bx:∃ls,CM b ls)(hf:∀(G:Aa) (x y:Bool),BM prog f #[.bool x,.bool y] G (.bool (ask x y))):
  Ak prog 112 #[va,vb,.func (.func f) #[] #[]] H fun v H'=>C_ (H_ H) H H'∧∃w ok,v= .tuple #[.string (bA w),.bool ok]∧HM (FJ ask a b) w ok∧w.length≤4294967296:=by
 have sa:=b0.steps;have sb:=bi.steps;have ek:=Ht b0;have el:=Ht bi;have d8:0<(Ag b).length:=by
  have⟨ls,h⟩:=bx;exact P3 h
 have bj:∀{G:Aa},C_ (H_ H) H G→AZ S G va a:=fun h=>b0.frame (h.mono hS);have a0:∀{G:Aa},C_ (H_ H) H G→AZ S G vb b:=fun h=>bi.frame (h.mono hS);have up:∀{G:Aa},C_ (H_ H) H G→∀k,S k→k<G.size:=fun h k d=>Ar h (hS k d);refine Ak.of_vc func112 rfl (call112 _) (Ae.mk (HR hS b0) ?_);rintro _ H1 ⟨d9,-,da⟩;obtain⟨aa,ac,rfl,st1⟩:=(St.nil H).got d9 da;refine Ae.mk (HR (up st1.old) (a0 st1.old)) ?_;rintro _ H2 ⟨db,-,dc⟩;obtain⟨ba,bc,rfl,bz⟩:=st1.got db dc;refine AeY bz 0 1 C0 rfl rfl d8 Ma (by omega) (by decide) fun a3 c3 H3 b4 _=>?_;obtain⟨sets,N⟩:∃sets,sets=Ag a++Ag b:=⟨_,rfl⟩;have c1:(Ag a).length+(Ag b).length=sets.length:=by rw[N,J_]
 rw[c1,←N]at b4;rw[c1];refine Ae.mk (Kq (S:=H_ H3) (fun k d=>d) (b4.view 0 rfl) (by omega)) ?_;rintro _ H4 ⟨de,a4,c4,rfl,h4⟩;have c2:=b4.call de;have bm:=reps_len sets;refine Ae.mk (RG (S:=H_ H4) (fun k d=>d) h4 bm) ?_;rintro _ H5 ⟨df,ra,rc,rfl,dg⟩;have⟨en,eo,e5,bn⟩:=c2.got df dg;injection e5 with e51 e52 e53
 subst e51;subst e53;have Q:=WA sets;have b6:(CG sets).Pairwise (·<·):=by
  rw[XP (s:=sets) (t:=sets) fun x=>Iff.rfl];exact Si sets 256
 have a1:=XO (os:=[a,b]) (fun o ho=>by
  rcases YaP.1 ho with rfl | ho
  ·exact d7
  ·rw[Y_]at ho;subst ho;exact bx) (sets:=sets) (fun o ho s hs=>by
  rw[N];rcases YaP.1 ho with rfl | ho
  ·exact q_.2 (.inl hs)
  ·rw[Y_]at ho;subst ho;exact q_.2 (.inr hs))
 have b7:∀c,c<256→∃r∈CG sets,r≤c∧∀n,(FJ ask a b).next n r=(FJ ask a b).next n c:=fun c hc=>by
  have⟨r,hr,dh,b8⟩:=a1 c hc;refine⟨r,hr,dh,fun n=>?_⟩;show [_]=[_];rw[b8 a (by simp),b8 b (by simp)]
 have c5:(Bz sets).length=(CG sets).length:=by unfold CG;rw[Z_]
 have c6:bsI (Bz sets)=C8 (CG sets):=rfl;have c7:(C8 (CG sets)).length=(CG sets).length:=Z_ _;rw[c6,c7]at bn;rw[c5]at bm ⊢;clear c5 c6 a1 c7;generalize CG sets=by_ at*;have hg:Q8 (FJ ask a b) by_ 4294967296 1:=Ag6 sa sb Q bm;have bo:=WY (ask:=ask) sa sb Q;have di:∀(k c:Nat),by_[k]?=some c→(C8 by_)[k]?=some (c:Int):=fun k c h=>by unfold C8;rw[o_,h];rfl
 refine LL (Ok:=Hf) (enc:=pkV) fun mb H6 dj dk dl dm=>?_;have c8:=bn.mapNewW dj dk dl dm;refine Ax underlying288 rfl (pkV (0,0)) FT (Z' (0,0)) rfl (Ax underlying290 rfl (wyV (0,0)) Mc (wyL (-1,0)) rfl ?_);have a2:put (fun _:Int×Int=>(none:Option v_)) (0,0) (some (wyV (-1,0)))=GX [(Az,[])] [(-1,0)]:=T4 (F:=[]) (W:=[]) (n:=Az) (w:=[]) rfl fun y hy=>by cases hy
 have dn:Hf (0,0):=⟨FQ ⟨by decide,by decide⟩,FQ ⟨by decide,by decide⟩⟩;refine Jk (a:=((0:Int),(0:Int))) c8 3 Td SS dn rfl a2 fun H7 c9=>(Ax underlying288 rfl (pkV (0,0)) FT (Z' (0,0)) rfl (Ay Qr (Z' (0,0)) rfl rfl (by decide) (by decide) ?_));intro q8 H8 dp dq dr dt;have cd:=(c9.new (T:=tPk) (n:=1) (xs:=[Az]) dp dq dr dt (Ty.reps_one ⟨rfl,rfl⟩) rfl (by unfold maxLen;omega)).pick [2,3,4] (by decide);have O:St H H8 [pS tU8 EI ra by_.length rc (C8 by_),pMW Hf pkV mb (GX [(Az,[])] [(-1,0)]),pS tPk 288 (T_ q8) 1 1 ([((Az,[]):NW)].map (·.1))]:=cd;clear cd c9 c8 bn c2 b4 bz st1 a2;(conv=>whnf);refine A0.mk [10,11] (fun x:Nat×List NW×List (Int×Nat)×Option Addr×Nat=>match x with | (i,F,W,oa,oc)=>[.slice oa F.length oc,A_ i])
  (fun x H9=>match x with | (i,F,W,oa,oc)=>i≤F.length∧D7 (FJ ask a b) by_ Az F i 0∧(∀(m:Nat) (y:NW),m<i→F[m]?=some y→(FJ ask a b).ends y.1=false)∧IJ F W∧St H H9 [pS tU8 EI ra by_.length rc (C8 by_),pMW Hf pkV mb (GX F W),pS tPk 288 oa F.length oc (F.map (·.1))]) (fun x _=>4294967296-x.1) ?_ ?_
 ·(conv=>whnf);exact⟨(0,[(Az,[])],[(-1,0)],some ⟨q8,0,none⟩,1),rfl,t_ _,D7.start,fun m y Z=>absurd Z (Nat.not_lt_zero _),SY,O⟩
 ·clear O;rintro⟨i,F,W,oa,oc⟩ H9 du ⟨hi,g,bp,hL,O⟩;have a5:∀(F':List NW) (i' k':Nat),D7 (FJ ask a b) by_ Az F' i' k'→∀x∈F',Dt (FJ ask a b) by_ Az x.1:=fun F' i' k' h x hx=>TO .refl (h.ok x hx).1 (h.ok x hx).2;have bq:∀(F':List NW) (i' k':Nat),D7 (FJ ask a b) by_ Az F' i' k'→F'.length≤4294967296:=fun F' i' k' h=>by
   rw[←Z_ (f:=(·.1))];exact hg.card _ h.nd fun n hn=>by
    obtain⟨x,hx,rfl⟩:=I'.1 hn;exact a5 F' i' k' h x hx
  have b9:=bq F i 0 g;refine AG.m2 (fun hz=>?_) (fun hz=>?_)
  ·have⟨y,hy⟩:=Ac (l:=F) (k:=i) (by omega);have ce:=a5 F i 0 g y (c_ hy);have ep:=bo y.1 ce;have dv:(F.map (·.1))[i]?=some y.1:=by rw[o_,hy];rfl
   refine ixO (j:=i) Qr O 2 rfl dv rfl ?_;rintro eu ev ew eg cg ⟨-,rfl⟩;refine L_ (cs:=Z' (y.1.x,y.1.y)) Ps cg trivial (Am (pkV (0,0)) (Z' (0,0)) FT rfl ?_);intro ch H11 cj ck cm co;have bd:=O.box cj ck cm co;refine AN (cs:=Z' (y.1.x,y.1.y)) bd 3 rfl rfl (I_ _) rfl fun H12 D=>?_;rw[Aw (show(Z' (y.1.x,y.1.y)).length=(Z' (0,0)).length from rfl)]at D;have a6:=D.blk 3 rfl;refine Aq.heldZ (H_ H12) [] (sq [0,1,2,3,5,6,7] (.f 4 (.f 8 (.f 9 .e)))) rfl (by kernel_rfl) (f_ VY ?_);refine G_ (v:=A_ y.1.x) E_ (by rw[a6.cell];rfl) a6.lt ?_;refine f_ VZ ?_;refine G_ (v:=A_ y.1.y) E_ (by rw[a6.cell];rfl) a6.lt ?_;refine Ah (FN (bj D.old)) fun H13 E=>?_;have a7:=D.call E;refine⟨E,?_⟩;refine Ah (FN (a0 a7.old)) fun H14 a8=>?_;have be:=a7.call a8;have R:=E.trans (a8.mono fun k d=>Ar E d);refine⟨R,?_⟩;refine Ah (hf H14 _ _) fun H15 a9=>?_;have I:=be.call a9;refine⟨R.trans (a9.mono fun k d=>Ar R d),?_⟩;have ab:(FJ ask a b).ends y.1=ask (AY a y.1.x) (AY b y.1.y):=rfl;cases he:ask (AY a y.1.x) (AY b y.1.y)
   case true=>
    refine Ah (AeF (I.view 2 rfl) (I.mapW 1 rfl) hL b9 (fun x hx=>Te sa sb (bo x.1 (a5 F i 0 g x hx))) hy) fun H16 cp=>?_;have u:=I.call cp;(conv=>whnf);exact⟨u.old,y.2,true,rfl,And.intro (fun _=>g.found b7 Q hy (ab.trans he) bp) (fun h=>by cases h),YbA (g.size i y hy) (YbA (Nat.le_of_lt (O_.1 hy).1) b9)⟩
   case false=>
    (conv=>whnf);refine A0.mk [10,57] (fun x:Nat×List NW×List (Int×Nat)×Option Addr×Nat=>match x with | (k,F',W',oa,oc)=>[.slice oa F'.length oc,A_ k])
     (fun x H9=>match x with | (k,F',W',oa,oc)=>k≤by_.length∧D7 (FJ ask a b) by_ Az F' i k∧(∀m,m≤i→F'[m]?=F[m]?)∧IJ F' W'∧St H H9 [pS tU8 EI ra by_.length rc (C8 by_),pMW Hf pkV mb (GX F' W'),pS tPk 288 oa F'.length oc (F'.map (·.1)),pB 288 ch (Z' (y.1.x,y.1.y))]) (fun x _=>by_.length-x.1) ?_ ?_
    ·(conv=>whnf);exact⟨(0,F,W,oa,oc),rfl,t_ _,g,fun _ _=>rfl,hL,I⟩
    ·clear I be a7 D bd O R E a8 a9 a6;rintro⟨k,F9,W9,br,bu⟩ H16 d5 ⟨d,A,U,P,u⟩;have ae:F9[i]?=some y:=by rw[U i (I_ _)];exact hy
     have dw:=(O_.1 ae).1;have eh:=bq F9 i k A;refine AG.m2 (fun dx=>?_) (fun dx=>?_)
     ·have⟨c,hc⟩:=Ac (l:=by_) (k:=k) (by omega);have cq:=c_ hc;have X:=Q c cq;refine An.run (ixO (j:=k) CS u 0 rfl (di k c hc) rfl ?_);rintro ey ez f0 ei cr ⟨rfl,-⟩;refine lT ct5 cr.one ?_;have ct:Dt (FJ ask a b) by_ Az ⟨0,As a y.1.x c,As b y.1.y c⟩:=ce.step cq (Y_.2 rfl);have ag:=Te sa sb (bo _ ct);have b5:=u.blk 3 rfl;have ah:=u;have ai:C_ (H_ H16) H16 H16:=C_.refl _ _;refine Aq.cut [15] (fun p:Nat=>[U_ p]) (fun p H'=>St H H' [pS tU8 EI ra by_.length rc (C8 by_),pMW Hf pkV mb (GX F9 W9),pS tPk 288 br F9.length bu (F9.map (·.1)),pB 288 ch (Z' (y.1.x,y.1.y)),pB 288 p (Z' (As a y.1.x c,As b y.1.y c))]) ?_ ?_
      ·refine Aq.heldZ (H_ H16) [12] (sq [0,1,2,3,5,6,7,8] (.b 4 (.b 9 (sq [10] (.f 11 (.f 12 .e))) 11 (.f 9 (sq [10] (.f 12 .e)))) 11 (.f 4 (.f 9 (sq [10] (.f 12 .e)))))) rfl (by kernel_rfl) (f_ VY ?_);refine G_ (v:=A_ y.1.x) E_ (by rw[b5.cell];rfl) b5.lt ?_;refine f_ VZ ?_;refine G_ (v:=A_ y.1.y) E_ (by rw[b5.cell];rfl) b5.lt ?_;refine⟨?_,?_⟩
       ·refine Ah (F6 (up ah.old) (bj ah.old) X) fun G1 cu=>?_;have J:=ah.call cu;have B:=ai.trans (cu.mono fun k d=>Ar ai d);refine⟨B,?_⟩;refine⟨?_,?_⟩
        ·refine Ah (F6 (up J.old) (a0 J.old) X) fun G2 aj=>?_;have C:=J.call aj;have q:=B.trans (aj.mono fun k d=>Ar B d);refine⟨q,?_⟩;refine Ax underlying288 rfl (pkV (0,0)) FT (Z' (As a y.1.x c,As b y.1.y c)) rfl (Am (pkV (0,0)) (Z' (0,0)) FT rfl ?_);intro pp G3 dy dz e0 cw;have ak:=C.box dy dz e0 cw;have am:=q.trans (cw.mono fun k d=>by have:=Ar q d;omega);refine⟨am,?_⟩;refine AN (cs:=Z' (As a y.1.x c,As b y.1.y c)) ak 4 rfl rfl (I_ _) rfl fun G4 K=>?_;rw[Aw (show(Z' (As a y.1.x c,As b y.1.y c)).length=(Z' (0,0)).length from rfl)]at K;(conv=>whnf);exact⟨rfl,pp,rfl,K⟩
        ·refine Am (pkV (0,0)) (Z' (0,0)) FT rfl ?_;intro pp G2 e3 e4 e6 cx;have C:=J.box e3 e4 e6 cx;have q:=B.trans (cx.mono fun k d=>by have:=Ar B d;omega);refine⟨q,?_⟩;refine Ah (F6 (up C.old) (a0 C.old) X) fun G3 ao=>?_;have ak:=C.call ao;have am:=q.trans (ao.mono fun k d=>Ar q d);refine⟨am,?_⟩;refine Ax underlying288 rfl (pkV (0,0)) FT (Z' (As a y.1.x c,As b y.1.y c)) rfl (AN (cs:=Z' (As a y.1.x c,As b y.1.y c)) ak 4 rfl rfl (I_ _) rfl fun G4 K=>?_);rw[Aw (show(Z' (As a y.1.x c,As b y.1.y c)).length=(Z' (0,0)).length from rfl)]at K;(conv=>whnf);exact⟨rfl,pp,rfl,K⟩
       ·refine Am (pkV (0,0)) (Z' (0,0)) FT rfl ?_;intro pp G1 e7 e8 e9 cy;have J:=ah.box e7 e8 e9 cy;have B:=ai.trans (cy.mono fun k d=>by have:=Ar ai d;omega);refine⟨B,?_⟩;refine Ah (F6 (up J.old) (bj J.old) X) fun G2 aj=>?_;have C:=J.call aj;have q:=B.trans (aj.mono fun k d=>Ar B d);refine⟨q,?_⟩;refine Ah (F6 (up C.old) (a0 C.old) X) fun G3 ao=>?_;have ak:=C.call ao;have am:=q.trans (ao.mono fun k d=>Ar q d);refine⟨am,?_⟩;refine Ax underlying288 rfl (pkV (0,0)) FT (Z' (As a y.1.x c,As b y.1.y c)) rfl (AN (cs:=Z' (As a y.1.x c,As b y.1.y c)) ak 4 rfl rfl (I_ _) rfl fun G4 K=>?_);rw[Aw (show(Z' (As a y.1.x c,As b y.1.y c)).length=(Z' (0,0)).length from rfl)]at K;(conv=>whnf);exact⟨rfl,pp,rfl,K⟩
      ·rintro pp H18 d6 L;clear ah ai;refine L_ (cs:=Z' (As a y.1.x c,As b y.1.y c)) Ps ((L.blk 4 rfl).cells fun j v hv=>by rw[K_];exact hv) trivial ?_;refine Jj (a:=(As a y.1.x c,As b y.1.y c)) Td SS ag (L.mapW 1 rfl) trivial ?_;obtain⟨t,Y⟩:∃t:Nd,t=⟨0,As a y.1.x c,As b y.1.y c⟩:=⟨_,rfl⟩;have ap:(FJ ask a b).next y.1 c=[t]:=by rw[Y];rfl
       have ea:As a y.1.x c=t.x:=by rw[Y]
       have eb:As b y.1.y c=t.y:=by rw[Y]
       have bv:t.s=0:=by rw[Y]
       rw[←Y]at ct;rw[ea,eb]at L ag ⊢;clear Y;by_cases Z:∃z∈F9,z.1=t
       ·have⟨z,M,cz⟩:=Z;have⟨m,d0⟩:=YaI M;have⟨w,hw⟩:=Ac (l:=W9) (k:=m) (by rw[P.len];exact(O_.1 d0).1);have aq:=P.seen d0 hw;rw[cz]at aq;rw[aq];refine Am (wyV (0,0)) (wyL (0,0)) Mc rfl ?_;intro ec H19 ar au aw ax;have ay:=L.box ar au aw ax;refine AN (cs:=wyL w) ay 5 rfl rfl (I_ _) rfl fun H20 V=>?_;(conv=>whnf);rw[P_ k (by omega)];exact⟨rfl,(k+1,F9,W9,br,bu),rfl,⟨by omega,A.add b6 ae hc ap (.inl ⟨⟨z,M,cz⟩,rfl⟩),U,P,V.pick [0,1,2,3] (by decide)⟩,by simp only;omega⟩
       ·have az:∀z∈F9,z.1≠t:=fun z M e=>Z ⟨z,M,e⟩;have d1:=P.apart bv az;rw[XW (z:=(t.x,t.y)) d1];have bf:=A.add (F':=F9++[(t,y.2++[c])]) b6 ae hc ap (.inr ⟨az,rfl⟩);have bw:=bq _ _ _ bf;rw[J_,h_]at bw;refine Am (wyV (0,0)) (wyL (0,0)) Mc rfl ?_;intro ec H19 ar au aw ax;have ay:=L.box ar au aw ax;refine AN (cs:=wyL (0,0)) ay 5 rfl rfl (I_ _) rfl fun H20 V=>?_;refine L_ (cs:=Z' (t.x,t.y)) Ps ((V.blk 4 rfl).cells fun j v hv=>by rw[K_];exact hv) trivial ?_;refine Ax underlying290 rfl (wyV (0,0)) Mc (wyL ((i:Int),c)) rfl (Jk (a:=(t.x,t.y)) V 1 Td SS ag rfl (T4 (w:=y.2++[c]) (x:=((i:Int),c)) P.len d1) fun H21 bg=>?_);refine L_ (cs:=Z' (t.x,t.y)) Ps ((bg.blk 4 rfl).cells fun j v hv=>by rw[K_];exact hv) trivial ?_;refine Ay Qr (Z' (t.x,t.y)) rfl rfl (by decide) (by decide) ?_;intro f1 H22 d2 ej d3 d4;have f2:(F9.map (·.1)).length=F9.length:=Z_ _;refine Kj (ys:=[t]) (ds:=Z' (t.x,t.y)) (bg.skip d2 d4) 2 Qr rfl (d3.cells fun j v hv=>by rw[K_];exact hv) (Ty.reps_one ⟨bv,rfl⟩) rfl (by simp[Z',Value.oneCell']) (by simp only[h_,maxLen];omega) (by simp only[h_];omega) fun ed ee H23 bh _=>?_;have e1:(F9.map (·.1)).length+[t].length=(F9++[(t,y.2++[c])]).length:=by simp
        have e2:F9.map (·.1)++[t]=(F9++[(t,y.2++[c])]).map (·.1):=by simp
        rw[e1,e2]at bh;rw[e1];(conv=>whnf);rw[P_ k (by omega)];exact⟨rfl,(k+1,F9++[(t,y.2++[c])],W9++[((i:Int),c)],ed,ee),rfl,⟨by omega,bf,fun m ef=>by rw[List.getElem?_append_left (by omega)];exact U m ef,P.add ae X bv az,bh.pick [0,1,2,3] (by decide)⟩,by simp only;omega⟩
     ·have:k=by_.length:=Nat.le_antisymm d (by omega);subst this;(conv=>whnf);rw[P_ i (by omega)];refine⟨rfl,(i+1,F9,W9,br,bu),rfl,⟨dw,A.turn (I_ _),fun m z Z M=>?_,P,u.pick [0,1,2] (by decide)⟩,show 4294967296-(i+1)<4294967296-i by omega⟩;rcases Yck (Nat.le_of_lt_succ (show m<i+1 from Z))with Z | rfl
      ·exact bp m z Z (by rw[←U m (Nat.le_of_lt Z)];exact M)
      ·rw[ae]at M;cases M;exact ab.trans he
  ·obtain rfl:i=F.length:=by omega
   (conv=>whnf);exact⟨O.old,[],false,rfl,And.intro (fun h=>by cases h) fun _=>⟨rfl,g.none b7 fun y hy=>by
    have⟨m,Z⟩:=YaI hy;exact bp m y (O_.1 Z).1 Z⟩,t_ _⟩
section
variable{S:Nat→Prop}{H:Aa}{va vb:v_}{a b:Option AM}
theorem PB(i:∀k,S k→k<H.size)(c:AZ S H va a)(d:AZ S H vb b)(e:∃f,CM a f)(g:∃f,CM b f):
  Ak prog 46 #[va,vb] H fun v H'=>C_ (H_ H) H H'∧∃w ok,v= .tuple #[.string (bA w),.bool ok]∧HM (FJ V0 a b) w ok∧w.length≤4294967296:=by
 refine Ak.of_vc func46 rfl (call46 _) (Ae.mk (Zu i c d e g Xj) ?_);rintro _ H1 ⟨h,w,ok,rfl,j⟩;(conv=>whnf);exact⟨h,w,ok,rfl,j⟩
end
end
section
attribute [local irreducible] Bj Bd AP Cv
theorem X6:B9 none:=⟨[],[],[],rfl⟩
theorem X5{S:Nat→Prop}{H:Aa}:AZ S H (.pointer none) none:=rfl
theorem AeN{S:Nat→Prop}{H:Aa}{v:v_}{o:Option AM}(h:∀k,S k→k<H.size)(i:AZ S H v o)(g:B9 o)(b:EM prog H)(j:EH H):
  Ak prog 111 #[v] H fun r H'=>C_ (H_ H) H H'∧∃a,Ys o a∧r= .string (bA (AhN a)):=by
 refine(Ab0 h i g.ok b j).mono ?_;rintro r H' ⟨l,rows,O,A,m,d,e,f,c,n⟩;subst m;have p:=ZB (o:=o) g.steps d e f c;refine⟨l,_,p,?_⟩;have q:stN (some (Bi (Ag o) (rows.map AR) (O.map fun(x:Nat)=>AY o (x:Int))))=O.length:=by
  show(Bi (Ag o) (rows.map AR) (O.map fun(x:Nat)=>AY o (x:Int))).next.length=_
  unfold Bi;simp[c]
 rw[n,←q];rfl
theorem Vl{H:Aa}(d:EM prog H)(m:EH H):BM prog 45 #[] H (.bool true):=by
 refine Ak.of_vc func45 rfl (call45 _) (Ae.mk (ZT H) ?_);rintro va H1 ⟨e,g⟩;refine Ae.mk (PB (S:=H_ H1) (fun k b=>b) g X5 PW.ok X6.ok) ?_;rintro _ H2 ⟨h,w,ok,rfl,n,-⟩;obtain⟨rfl,rfl⟩:=Tl n;have f:=e.trans (h.mono fun k b=>Ar e b);have o:((bA [0]).toList==(⟨#[0]⟩:ByteArray).toList)=true:=by
  rw[show bA [0]=(⟨#[0]⟩:ByteArray)from rfl];exact beq_self_eq_true _
 (conv=>whnf);rw[o];refine Ae.mk (ZT H2) ?_;rintro vb H3 ⟨i,j⟩;have c:=f.trans (i.mono fun k b=>Ar f b);refine Ae.mk (AeN (S:=H_ H3) (fun k b=>b) j PW (d.agr c) (m.agr c)) ?_;rintro _ H4 ⟨l,a,p,rfl⟩;rw[ZU p];have e2:((bA [115,116,97,116,101,115,32,50,10,48,32,91,94,93,62,49,10,49,42,32,91,94,93,62,48,10]).toList==(⟨#[115,116,97,116,101,115,32,50,10,48,32,91,94,93,62,49,10,49,42,32,91,94,93,62,48,10]⟩:ByteArray).toList)=true:=by
  rw[show bA [115,116,97,116,101,115,32,50,10,48,32,91,94,93,62,49,10,49,42,32,91,94,93,62,48,10]=(⟨#[115,116,97,116,101,115,32,50,10,48,32,91,94,93,62,49,10,49,42,32,91,94,93,62,48,10]⟩:ByteArray)from rfl];exact beq_self_eq_true _
 (conv=>whnf);rw[e2];(conv=>whnf);exact⟨rfl,c.trans (l.mono fun k b=>Ar c b)⟩
end
section
attribute [local irreducible] Bj Bd AP Fz Fy
theorem R0(s t w:ByteArray)(H:Aa)(hw:w.size≤1048576)(m:EM prog H)(Y:EH H):BM prog 12 #[.string s,.string t,.string w] H (.bool true):=by
 refine Ak.of_vc func12 rfl (call12 _) (Ah (Vl m Y) fun H1 au=>?_);have st1:=(St.nil H).call au;refine Ae.mk (W2 (t:=s) (Fd Y Y.2 st1.old)) ?_;rintro _ H2 ⟨aw,Z⟩;obtain⟨n1,c1,p1,i1,rfl,F,ax⟩:=Aa1 Z;have a0:=st1.call aw;refine Am (.agg (fiL 0 0).toArray) (fiL 0 0) AcN rfl ?_;intro q1 H3 ay az b0 b4;have a1:=a0.box ay az b0 b4;refine AN (cs:=fiL c1 p1) a1 0 rfl rfl (I_ _) rfl fun H4 I=>?_;rw[show Ai (fiL 0 0) 0 (fiL c1 p1)=fiL c1 p1 from AH rfl]at I;refine Ae.mk (W2 (t:=t) (Fd Y Y.2 I.old)) ?_;rintro _ H5 ⟨b5,a2⟩;obtain⟨n2,c2,p2,i2,rfl,J,b6⟩:=Aa1 a2;have a3:=I.call b5;refine Am (.agg (fiL 0 0).toArray) (fiL 0 0) AcN rfl ?_;intro q2 H6 b7 b8 b9 bd;have a4:=a3.box b7 b8 b9 bd;refine AN (cs:=fiL c2 p2) a4 1 rfl rfl (I_ _) rfl fun H7 R=>?_;rw[show Ai (fiL 0 0) 0 (fiL c2 p2)=fiL c2 p2 from AH rfl]at R;clear st1 a0 a1 I a3 a4;refine Ae.mk (SG s H7) ?_;rintro _ H8 ⟨be,bf⟩;obtain⟨N,rfl,n,bg,bh⟩:=ax bf;have a5:=R.add be (XB _ s N) bh fun k g=>g;refine Am _ s_ MD rfl ?_;intro q3 H9 bi bj bm bn;have a6:=a5.box bi bj bm bn;refine AN (cs:=N) a6 3 (by rw[n];rfl) rfl (by rw[n];exact I_ _) bg fun H10 o=>?_;rw[AH (show N.length=s_.length by rw[n];rfl)]at o;refine Ae.mk (SG t H10) ?_;rintro _ H11 ⟨a7,bo⟩;obtain⟨O,rfl,q,bp,bq⟩:=b6 bo;have P:=o.add a7 (XB _ t O) bq fun k g=>g;refine Am _ s_ MD rfl ?_;intro q4 H12 a8 a9 ab ae;have Q:=P.box a8 a9 ab ae;refine AN (cs:=O) Q 5 (by rw[q];rfl) rfl (by rw[q];exact I_ _) bp fun H13 a=>?_;rw[AH (show O.length=s_.length by rw[q];rfl)]at a;clear R a5 a6 o P Q;refine L_ (cs:=fiL c1 p1) N8 (AfG (a.blk 0 rfl)) trivial (Ax underlying68 rfl _ AcN (fiL 0 0) rfl ?_);refine Af8 (c:=c1) (p:=p1) (c':=0) (p':=0) (by have:=F.c30;omega) F.pk (by decide) (BX (x:=0) (by decide)) ?_;rw[F.dec];refine AgY underlying4 (z:=false) (by simp) (L_ (cs:=fiL c2 p2) N8 (AfG (a.blk 1 rfl)) trivial (Ax underlying68 rfl _ AcN (fiL 0 0) rfl ?_));refine Af8 (c:=c2) (p:=p2) (c':=0) (p':=0) (by have:=J.c30;omega) J.pk (by decide) (BX (x:=0) (by decide)) ?_;rw[J.dec];refine AgY underlying4 (z:=false) (by simp) ?_;(conv=>whnf);by_cases T:i1=0
 case neg=>
  have e1:(i1 != 0)=true:=bne_iff_ne.2 T;(conv=>whnf);rw[e1];(conv=>whnf);exact⟨rfl,a.old⟩
 have e1:(i1 != 0)=false:=by rw[T];rfl
 (conv=>whnf);rw[e1];by_cases U:i2=0
 case neg=>
  have e2:(i2 != 0)=true:=bne_iff_ne.2 U;(conv=>whnf);rw[e2];(conv=>whnf);exact⟨rfl,a.old⟩
 have e2:(i2 != 0)=false:=by rw[U];rfl
 (conv=>whnf);rw[e2];obtain⟨r1,br,co,rfl⟩:=F.ok T;obtain⟨r2,bu,cp,rfl⟩:=J.ok U;refine Ae.mk (LF (b:=300) r1 (by omega) (m.agr a.old)) ?_;rintro _ H14 ⟨ag,bv⟩;obtain⟨x1,f1,rfl,bw⟩:=P2 bv;have r:=a.call ag;refine Ae.mk (LF (b:=300) r2 (by omega) (m.agr r.old)) ?_;rintro _ H15 ⟨y,bx⟩;obtain⟨x2,f2,rfl,bz⟩:=P2 bx;have A:=r.call y;clear a r;rcases bw with⟨rfl,A1,d1,m1,ah,ai,c3,c4⟩ | ⟨aj,ah,rfl⟩
 case inr=>
  have g1:(f1 != 0)=true:=bne_iff_ne.2 aj;(conv=>whnf);rw[g1];refine Aa2 underlying23 ?_;(conv=>whnf);exact⟨rfl,A.old⟩
 rcases bz with⟨rfl,A2,d2,m2,ak,c5,c6,c7⟩ | ⟨am,ak,rfl⟩
 case inr=>
  have g2:(f2 != 0)=true:=bne_iff_ne.2 am;obtain⟨pv,rfl⟩:∃pv,x1= .pointer (some pv):=by
   obtain⟨p,rfl,-⟩:=ai;exact⟨_,rfl⟩
  (conv=>whnf);rw[g2];refine AdU underlying23 (Aa2 underlying23 ?_);(conv=>whnf);exact⟨rfl,A.old⟩
 have sA:AZ (H_ H15) H15 x1 (some A1):=(ai.frame (y.mono fun k g=>g.2)).mono fun k g=>Ar y g.2;have sB:AZ (H_ H15) H15 x2 (some A2):=c5.mono fun k g=>g.2;refine Ae.mk (PB (S:=H_ H15) (fun k g=>g) sA sB c3.ok c6.ok) ?_;rintro _ H16 ⟨ao,u,ok,rfl,hR,cq⟩;have d:=A.call ao;have⟨B,ck⟩:=AbT hR;have i:=d.blk 3 rfl;have l:=d.blk 5 rfl;have c8:=d.at_ (p:=XB _ s N) 2 rfl;have c9:=d.at_ (p:=XB _ t O) 4 rfl;have ap:=fun k g=>(d.in_ (p:=XB _ s N) 2 rfl (k:=k) g).2;have aq:=fun k g=>(d.in_ (p:=XB _ t O) 4 rfl (k:=k) g).2;have⟨cr,ct,cd,ce⟩:=Hj.tree c8 br;have⟨cu,cw,cg,ch⟩:=Hj.tree c9 bu;have L:∀x:ByteArray,C4 (some A1) x=Pk (R_ x) r1∧C4 (some A2) x=Pk (R_ x) r2:=fun x=>⟨P1 c4 ah x,P1 c7 ak x⟩;have C:∀{x:ByteArray} {K:v_→Aa→Prop} {G:Aa},x.size≤4194303→C_ (H_ H16) H16 G→(∀G',C_ (H_ H16) H16 G'→K (.bool (Pk (R_ x) r1)) G')→Ae prog 41 #[.agg N.toArray,.string x] G K:=fun hx M k=>
  Ah (Th (fun k g=>Ar M (ap k g)) (cd.frame (M.mono fun k g=>ap k g)) ce hx) fun G' V=>k G' (M.trans (V.mono fun j hj=>Ar M hj))
 have D:∀{x:ByteArray} {K:v_→Aa→Prop} {G:Aa},x.size≤4194303→C_ (H_ H16) H16 G→(∀G',C_ (H_ H16) H16 G'→K (.bool (Pk (R_ x) r2)) G')→Ae prog 41 #[.agg O.toArray,.string x] G K:=fun hx M k=>
  Ah (Th (fun k g=>Ar M (aq k g)) (cg.frame (M.mono fun k g=>aq k g)) ch hx) fun G' V=>k G' (M.trans (V.mono fun j hj=>Ar M hj))
 have W:C_ (H_ H16) H16 H16:=C_.refl _ _;have fin:∀{G:Aa},C_ (H_ H16) H16 G→C_ (H_ H) H G:=fun h=>d.old.trans (h.mono fun k g=>Ar d.old g);have cj:(bA u).size=u.length:=QI u;cases ar:ok with
 | true=>
   rw[ar]at B;refine Aq.heldG (H_ H16) [12] (sq [0,1,2,3,4,5,7,8] (.f 6 (.f 9 (sq [10,11] (.f 12 .e))))) rfl (by kernel_rfl) ?_;(conv=>whnf);rw[cj];by_cases cm:600<u.length
   ·have d1:decide ((600:Int)<(u.length:Int))=true:=e_;(conv=>whnf);rw[d1];(conv=>whnf);exact⟨rfl,fin W⟩
   ·have d1:decide ((600:Int)<(u.length:Int))=false:=V_;(conv=>whnf);rw[d1];refine L_ (cs:=N) (by rw[n];exact JZ) (i.cells fun j v X=>by rw[K_];exact X) i.lt ?_;refine L_ (cs:=O) (by rw[q];exact JZ) (l.cells fun j v X=>by rw[K_];exact X) l.lt ?_;refine C (x:=bA u) (by omega) W fun G1 h1=>(⟨h1,?_⟩);refine D (x:=bA u) (by omega) h1 fun G2 h2=>(⟨h2,?_⟩);rw[(L (bA u)).1,(L (bA u)).2]at B;refine AgY underlying4 (z:=true) B ?_;(conv=>whnf);exact⟨rfl,fin h2⟩
 | false=>
   rw[ar]at hR;have E:C4 (some A1) w=C4 (some A2) w:=by
    by_cases hq:C4 (some A1) w=C4 (some A2) w
    ·exact hq
    ·exact absurd (YC hR (s:=w) (bne_iff_ne.2 hq)).1 (by decide)
   rw[(L w).1,(L w).2]at E;refine Aq.heldG (H_ H16) [7] (sq [0,1,3,4] (.f 2 (.f 5 (sq [6] (.f 7 .e))))) rfl (by kernel_rfl) ?_;refine L_ (cs:=N) (by rw[n];exact JZ) (i.cells fun j v X=>by rw[K_];exact X) i.lt ?_;refine L_ (cs:=O) (by rw[q];exact JZ) (l.cells fun j v X=>by rw[K_];exact X) l.lt ?_;refine C (x:=w) (by omega) W fun G1 h1=>(⟨h1,?_⟩);refine D (x:=w) (by omega) h1 fun G2 h2=>(⟨h2,?_⟩);rw[E];refine Ai9 underlying4 ?_;(conv=>whnf);exact⟨by rw[beq_self_eq_true],fin h2⟩
theorem R1(s t w:ByteArray)(S:Nat→Prop)(H:Aa)(hs:s.size≤1048576)(d:t.size≤1048576)(a:w.size≤1048576)(b:EM prog H)(c:EH H):BM prog 12 #[.string s,.string t,.string w] H (.bool true):=R0 s t w H a b c
end
theorem Aj5:prog.globalNamed Aa5=some 1:=by kernel_rfl
theorem Ah7:(prog.globals[1]?).map (·.type)=some 362:=by kernel_rfl
theorem Aj4:prog.cellsOf 362=20:=by kernel_rfl
theorem Ah6:prog.cellsOf 99=1:=by kernel_rfl
theorem Aa6:(Rows.laid_internal_strconv_uint64pow10:DataW Unit)=tabData .u64 pow10Tab:=by kernel_rfl
def AjD:List Int:=[0,1,28,2,29,14,24,3,30,22,20,15,25,17,4,8,31,27,13,23,21,19,16,7,26,12,18,6,11,5,10,9]
def AhL:Array v_:=(AjD.map (Value.int .u8)).toArray
def AjE:List Int:=[0,1,56,2,57,49,28,3,61,58,42,50,38,29,17,4,62,47,59,36,45,43,51,22,53,39,33,30,24,18,12,5,63,55,48,27,60,41,37,16,46,35,44,21,52,32,23,11,54,26,40,15,34,20,31,10,25,14,19,9,13,8,7,6]
def AhM:Array v_:=(AjE.map (Value.int .u8)).toArray
def AhO:List Int:=[1,10,100,1000,10000,100000,1000000,10000000,100000000,1000000000,10000000000,100000000000,1000000000000,10000000000000,100000000000000,1000000000000000,10000000000000000,100000000000000000,1000000000000000000,10000000000000000000]
def AeM:Array v_:=(AhO.map (Value.int .u64)).toArray
def RB(vs:Array v_):Obj→Obj
 | .cells _ t frozen=>.cells vs t frozen
 | o=>o
noncomputable def AfF(os:Os):y_:=
 {World.holding prog os ⟨#[], #[],[]⟩with heap:=(((World.holding prog os ⟨#[], #[],[]⟩).heap.modify 3 (RB AhL)).modify 4 (RB AhM)).modify 1 (RB AeM)}
section
open Go.ChangeShapes Go.WideShapes Go.ChangeAt Go.RowKit
theorem Zj:prog.globalNamed "loupe/class.escapes" =some 0:=by kernel_rfl
theorem AgD:(prog.globals[0]?).map (·.type)=some 336:=by kernel_rfl
theorem AiG:prog.cellsOf 336=6:=by kernel_rfl
theorem Zi:prog.cellsOf 335=2:=by kernel_rfl
theorem AiH:prog.underlying 336=some (.array 3 335):=by kernel_rfl
section
variable{enc:x_×v_→Unit}{w:y_}
theorem R8{c:Nat}{sp:Nat→Bool}{held:Bool}{d:Nat}{cs:List v_}{a b:Int}{p:List MemPlace}
  (h:DataW.trod enc prog w c sp held d 335 cs=some (.agg [.lit (.int .u8 a),.lit (.int .u8 b)],p)):cs=[.int .u8 a,.int .u8 b]:=by
 have⟨r,s,m,e,i,j,k⟩:=trod_struct2 underlying335 h;obtain⟨l,f,n,-⟩:=DataW.trod_int underlying5 j;obtain⟨o,g,q,-⟩:=DataW.trod_int underlying5 k;subst n;subst q;injection e with e2 e3
 injection e2 with e2
 simp only[AkV.injEq,DataW.lit.injEq,Lit.int.injEq,true_and,and_true]at e2;rw[Zi]at i
 match cs,i with
 | [x,y],_=>
   have f:[x]=[Value.int .u8 l]:=f;have g:[y]=[Value.int .u8 o]:=g;injection f with f
   injection g with g
   rw[f,g,←e2.1,←e2.2]
theorem Xk{i:Nat}{sp:Nat→Bool}{held:Bool}{j:Nat}{cs:List v_}{p:List MemPlace}
  (h:DataW.trod enc prog w i sp held j 336 cs=some (Rows.laid_loupe_class_escapes,p)):cs=U2:=by
 obtain⟨xs,m,-,e,q,u,o⟩:=DataW.trod_array AiH h;rw[AiG]at q;injection e with g e2
 have g:(Rows.laid_loupe_class_escapes:DataW Unit)= .agg (xs.map (·.1)):=g;unfold Rows.laid_loupe_class_escapes at g;injection g with g
 match xs,u with
 | [x0,x1,x2],_=>
   simp only[List.map_cons,Yc8,AkV.injEq,and_true]at g;have⟨v,x,y⟩:=g;have r:=o 0 (by decide);have s:=o 1 (by decide);have t:=o 2 (by decide);rw[Zi]at r s t;have k:=R8 (p:=x0.2) (r.trans (by rw[v];rfl));have l:=R8 (p:=x1.2) (s.trans (by rw[x];rfl));have n:=R8 (p:=x2.2) (t.trans (by rw[y];rfl))
   match cs,q with
   | [a,b,c,d,e,f],_=>
     have k:[a,b]=_:=k;have l:[c,d]=_:=l;have n:[e,f]=_:=n;simp only[AkV.injEq,and_true]at k l n;obtain⟨rfl,rfl⟩:=k;obtain⟨rfl,rfl⟩:=l;obtain⟨rfl,rfl⟩:=n;rfl
end
theorem Lu{W:y_}(h:laidMetH prog Rows.dfaMembersUptoRow.laid W):EM prog W.heap∧EH W.heap:=by
 obtain⟨ps,⟨E,F,m,G,H,I,n,o,p,q,⟨g1,J,r,K,p1,L,s,t,u,x,⟨g2,M,y,N,p2,O,c,d,e,b,⟨P,Q,f,R,S,T,g,i,a,l,-,-⟩,-⟩,-⟩,-⟩,-⟩:=h;constructor
 ·have z:TabIs prog W Aa5 .u64 pow10Tab:=by
   obtain rfl:=Ak5.inj (Aj5.symm.trans c);obtain rfl:=Ak5.inj (Ah7.symm.trans d);rw[Aa6]at b;unfold TabIs;rw[e,←cells_of_tab underlying362 underlying99 Ah6 Aj4 b]
  intro w A;exact WM z fun k _=>by rw[A]
 ·obtain rfl:=Ak5.inj (Zj.symm.trans g);obtain rfl:=Ak5.inj (AgD.symm.trans i);have B:=Xk l;refine⟨fun j v C=>?_,?_⟩
  ·have:=World.var?_cell Zj a j;rw[K_];have D:f[j]?=some v:=by
    rw[←Array.getElem?_toList,B];exact C
   rw[D]at this;exact this
  ·unfold World.var? at a;rw[Zj]at a;apply Classical.byContradiction;intro U;simp only[Option.bind_some]at a;rw[Array.getElem?_eq_none (by omega)]at a;simp at a
noncomputable def UB(os:Os):y_:=
 {AfF os with heap:=(AfF os).heap.modify 0 (RB U2.toArray)}
end
end Go.Proofs.YtfbghcpdinlmcaaGreatDoor
namespace Go.VC
open Go.Proofs.YtfbghcpdinlmcaaGreatDoor.Rows (uptoBulk uptoBulkAll)
def InW(W:y_)(k:Nat):Prop:=k<W.heap.size
def szL{α:Type}(sz:α→Nat):List α→Nat
 | []=>1
 | x::xs=>sz x+szL sz xs
theorem AaX{α:Type}(sz:α→Nat)(x:α):∀xs:List α,szL sz (xs++[x])=szL sz xs+sz x
 | []=>by simp[szL];omega
 | y::ys=>by simp only[List.cons_append,szL,AaX sz x ys];omega
theorem Bg{α:Type}{sz:α→Nat}(h:∀x,1≤sz x):∀xs:List α,xs.length+1≤szL sz xs
 | []=>I_ _
 | y::ys=>by have:=Bg h ys;have:=h y;simp only[b_,szL];omega
section
variable{H:Type}{enc:x_×v_→H}{P:w_}{W:y_}{t e:x_}
end
end Go.VC
namespace Go.Proofs.YtfbghcpdinlmcaaGreatDoor
open Go.VC
section
open Go
structure TableV(W:y_)(v:v_)(cells:List (BitVec 256))(next:List (List Int))(final:List Bool):Prop where
 rep:∃ca na fa cc nc fc,v= .agg #[.slice ca cells.length cc,.slice na next.length nc,.slice fa final.length fc]∧g_ Cp (InW W) W.heap ca cc cells∧g_ J9 (InW W) W.heap na nc next∧g_ AQ (InW W) W.heap fa fc final
end
end Go.Proofs.YtfbghcpdinlmcaaGreatDoor
namespace Go.VC
open Go.ChangeShapes Go.WideShapes Go.ChangeAt Go.RowKit
theorem SQ{W W':y_}{a:MemPlace→Prop}(b:d_ W W')(h:C_ (H_ W.heap) W.heap W'.heap):W.keptBut W' a:=by
 refine⟨b.os,b.output,fun i c=>?_⟩;rw[h i c];split<;>simp_all
theorem Pj{W W':y_}(h:C_ (H_ W.heap) W.heap W'.heap)(a:Addr)(b:a.block<W.heap.size):W'.frozen? a=W.frozen? a:=by
 unfold World.frozen?;rw[h a.block b]
theorem Pp{W W':y_}(h:C_ (H_ W.heap) W.heap W'.heap):∀p:MemPlace,p.block<W.heap.size→W.sameAt W' p
 | .cell b o,hb=>by
   show W'.cell? ⟨b,o,none⟩=W.cell? ⟨b,o,none⟩;rw[EP,EP];exact MP (h b hb)
 | .map b,hb=>h b hb
section
variable{H:Type}{enc:x_×v_→H}{P:w_}
theorem Se{W W':y_}{sp:Nat→Bool}(e:laidOutB P=true)(f:C_ (H_ W.heap) W.heap W'.heap):∀{c:List x_} {vs:List v_} {ds:List (DataW H)} {ps:List MemPlace},(∀t∈c,P.readableRec t=true∧t<P.types.size)→
  DataW.TrodAll enc P W 0 (fun _=>true) true c vs ds ps→(∀p∈ps,p.block<W.heap.size)→(∀p∈ps,sp p.block=true)→DataW.TrodAll enc P W' 0 sp true c vs ds ps
 | [],vs,ds,ps,_,h,_,_=>by
   obtain⟨rfl,rfl,rfl⟩:=trodAll_nil h;exact trodAll_mk0
 | t::c,vs,ds,ps,ht,h,hlt,hsp=>by
   obtain⟨v,g,d,i,p,q,rfl,rfl,rfl,j,k⟩:=trodAll_cons h;have b:=ht t List.mem_cons_self;exact trodAll_cons_mk (WideElems.Trod_stays e b.1 b.2 j (fun x a=>Pp f x (hlt x (YbV _ a))) fun x a=>hsp x (YbV _ a))
    (Se e f (fun x a=>ht x (YbY _ a)) k (fun x a=>hlt x (Ycz _ a)) fun x a=>hsp x (Ycz _ a))
theorem AhP{w:y_}{a:Nat}{sp:Nat→Bool}{c:Bool}{t:x_}{b:Bool}(h:P.underlying t=some .bool):DataW.Trod enc P w a sp c t (.bool b) (.lit (.bool b)) []:=⟨1,by simp[DataW.trod,Value.cells,h]⟩
theorem XH{f:Func}{s:ChangeSpec}{apart h c i:Bool}{W W':y_}{d:Array v_}{ds w:List (DataW H)}{a:List MemPlace}{bt:x_}
  (x:DataW.Whole enc P f.params.toList s.vars apart W d.toList ds w a) (G:s.vars=[]) (y:(s.fn H (ds++w)).results=[.lit (.bool true)]∧(s.fn H (ds++w)).args=ds∧(s.fn H (ds++w)).vars=[])
  (M:laidOutB P=true) (e:f.params.toList.all (fun t=>P.readableRec t&&decide (t<P.types.size))=true) (I:f.resultTypes= #[bt]) (J:P.underlying bt=some .bool)
  (N:d_ W W') (z:C_ (H_ W.heap) W.heap W'.heap):s.post enc P f apart h c i W d (.bool true) W':=by
 have k:=x.lt;have A:=x;have⟨pa,U,O,K,n,Q,R⟩:=x;rw[G]at K;obtain⟨rfl,rfl⟩:=trodVars_none K;rw[YaX]at n;subst n;have⟨o,l,m⟩:=y;have S:W.keptBut W' (fun _=>False):=SQ N z;have B:∀t∈f.params.toList,P.readableRec t=true∧t<P.types.size:=fun t T=>by
  have:=Ybl.1 e t T;simpa using this
 have q:∀g:Nat→Bool,(∀p∈a,g p.block=true)→DataW.TrodAll enc P W' 0 g true f.params.toList d.toList (s.fn H (ds++[])).args a:=fun g C=>by
  rw[l];exact Se M z B O k C
 have u:∀(b:Nat) (g:Nat→Bool) (L:Bool),DataW.TrodAll enc P W' b g L f.resultTypes.toList ((Value.bool true).resultList f.resultTypes.size) (s.fn H (ds++[])).results []:=fun b g L=>by
  rw[o,I];exact trodAll_mk1 (AhP J)
 have v:∀g:Nat→Bool,DataW.TrodVars enc P W' g s.vars (s.fn H (ds++[])).vars []:=fun g=>by
  rw[m,G];rfl
 have D:∀(j:Nat) (t:x_) (r:v_),f.resultTypes[j]?=some t→((Value.bool true).resultList f.resultTypes.size)[j]?=some r→Value.okWide P W' .any 0 t r:=ok_one I rfl (okWide_bool_mk J true);refine⟨ds,[],a,[],a,[],A,u _ _ _,q _ (fun p e=>n_ (k p e)),v _,World.keptBut_mono (fun p e=>e.elim) S,fun _=>?_⟩;refine⟨D,_,_,([]++a)++[],⟨[]++a,[],trodAll_append (q _ (fun _ _=>rfl)) (u _ _ _),v _,rfl,?_,?_⟩,?_⟩
 ·intro b E e;simp only[Ybo,YaX]at e;rw[Pj z _ (k _ e)];exact Q b E e
 ·intro F;have:=R F;simpa using this
 ·intro p e _;simpa using e
end
end Go.VC
namespace Go.Proofs.YtfbghcpdinlmcaaGreatDoor
open Go.VC
theorem own_:ownKnob prog.godebug=none:=by kernel_rfl
theorem AiS:laidOutB prog=true:=by kernel_rfl
theorem AaS{H:Type}{ds:List (DataW H)}(h:Rows.uptoSmall H ds=true):Rows.uptoBulkAll ds≤1048576:=by simpa [Rows.uptoSmall]using h
end Go.Proofs.YtfbghcpdinlmcaaGreatDoor
