import Derived.Test.YtdopnglgekglgaaGreatDoorKRy3
import Derived.Recover
set_option linter.unusedVariables false
set_option linter.unusedSimpArgs false
set_option linter.defProp false
set_option maxHeartbeats 100000000
open Array renaming replicate → AgY, map → AlN
open List renaming replicate → AhM, range → Al6
open Option renaming some → AlH
set_option maxRecDepth 100000
open Go.Proofs.Tryz
open Go renaming Program → w_, TypeId → x_, Operand → z_, Value → v_, World → y_
namespace Go.Proofs.YtdopnglgekglgaaGreatDoor
section
variable{P:w_}{t:x_}{x y:z_}{S:Nat→Prop}{H:Aa}{K:v_→Prop}{T A:x_}{v z:v_}{d:TypeDesc}
theorem Cs(hd:P.underlying A=some d)(a:∀b,d≠ .interface b)(k:K (.tuple #[v,.bool true])):A7 P (Instr.typeAssert (.iface A v) t A true) S H K:=by
 refine A7.mk _ (fun w _=>?_) k;unfold Instr.typeAssert;simp only[Sem.run_bind,run_underlying hd,Result.andThen_ok];cases d<;>first | (exact absurd rfl (a _)) | simp
theorem Cn(hd:P.underlying A=some d)(g:∀h,d≠ .interface h)(a:(P.info? A).bind (·.zero)=some z)(b:T≠A)(k:K (.tuple #[z,.bool false])):A7 P (Instr.typeAssert (.iface T v) t A true) S H K:=by
 refine A7.mk _ (fun w _=>?_) k;have c:(zeroValue A).run P w= .ok z w:=by
  cases e:P.info? A with
  | none=>rw[e]at a;cases a
  | some i=>
    have f:i.zero=some z:=by simpa [e]using a
    simp[zeroValue,typeInfo,e,f]
 unfold Instr.typeAssert;simp only[Sem.run_bind,run_underlying hd,Result.andThen_ok];cases d<;>first | (exact absurd rfl (g _)) | simp[b,c]
theorem MV{a:Array (String×x_)}(h:P.underlying t=some (.interface a))(w:y_):(Op.equal t (.iface T v) .nilIface).run P w= .ok false w:=by
 have:∀d:Nat,(Op.equalIn (d+1) t (.iface T v) .nilIface).run P w= .ok false w:=fun d=>by
  simp[Op.equalIn,run_underlying h]
 exact this 9999
theorem Lc{a:Array (String×x_)}(h:P.underlying t=some (.interface a))(w:y_):(Op.equal t .nilIface .nilIface).run P w= .ok true w:=by
 have:∀d:Nat,(Op.equalIn (d+1) t .nilIface .nilIface).run P w= .ok true w:=fun d=>by
  simp[Op.equalIn,run_underlying h]
 exact this 9999
theorem Aa3{a:Array (String×x_)}(h:P.underlying t=some (.interface a))(k:K (.bool false)):A7 P (do eqGuard .eql t x y (.iface T v) .nilIface;binOp .eql t (.iface T v) .nilIface) S H K:=by
 refine A7.mk _ (fun w _=>?_) k;simp[eqGuard,binOp,MV h]
theorem NV{a:Array (String×x_)}(h:P.underlying t=some (.interface a))(k:K (.bool true)):A7 P (do eqGuard .neq t x y (.iface T v) .nilIface;binOp .neq t (.iface T v) .nilIface) S H K:=by
 refine A7.mk _ (fun w _=>?_) k;simp[eqGuard,binOp,MV h]
theorem AcD{a:Array (String×x_)}{c:v_}(h:P.underlying t=some (.interface a))(k:K (.bool true)):A7 P (do eqGuard .eql t x (.const c) .nilIface .nilIface;binOp .eql t .nilIface .nilIface) S H K:=by
 refine A7.mk _ (fun w _=>?_) k;simp[eqGuard,binOp,Lc h]
theorem Kt{a:Array (String×x_)}{c:v_}(h:P.underlying t=some (.interface a))(k:K (.bool false)):A7 P (do eqGuard .neq t x (.const c) .nilIface .nilIface;binOp .neq t .nilIface .nilIface) S H K:=by
 refine A7.mk _ (fun w _=>?_) k;simp[eqGuard,binOp,Lc h]
end
theorem SD(x:v_)(w:y_):(callMethod (.iface 167 x) "Size" #[]).run prog w= .ok (.enter 308 #[x]) w:=by kernel_rfl
theorem SC(x:v_)(w:y_):(callMethod (.iface 230 x) "Size" #[]).run prog w= .ok (.enter 321 #[x]) w:=by kernel_rfl
theorem SB(x:v_)(w:y_):(callMethod (.iface 179 x) "Size" #[]).run prog w= .ok (.enter 313 #[x]) w:=by kernel_rfl
theorem S9(x:v_)(w:y_):(callMethod (.iface 174 x) "Size" #[]).run prog w= .ok (.enter 310 #[x]) w:=by kernel_rfl
theorem QR(x:v_)(w:y_):(callMethod (.iface 182 x) "Size" #[]).run prog w= .ok (.enter 315 #[x]) w:=by kernel_rfl
theorem SA(x:v_)(w:y_):(callMethod (.iface 210 x) "Size" #[]).run prog w= .ok (.enter 317 #[x]) w:=by kernel_rfl
theorem Pj(x:v_)(w:y_):(callMethod (.iface 211 x) "Size" #[]).run prog w= .ok (.enter 319 #[x]) w:=by kernel_rfl
def i_:ReM→Nat
 | .eps=>2
 | .cls _=>2
 | .cat a b=>i_ a+i_ b
 | .alt a b=>i_ a+i_ b+2
 | .star a=>i_ a+2
 | .and_ _ _=>0
 | .minus _ _=>0
def Ca(p q:Nat):Z':=⟨p,q,true,0#256⟩
def HS(p q:Nat)(s:BitVec 256):Z':=⟨p,q,false,s⟩
def AV:ReM→Nat→Nat×Nat×List Z'
 | .eps,n=>(n,n+1,[Ca n (n+1)])
 | .cls s,n=>(n,n+1,[HS n (n+1) s])
 | .cat a b,n=>((AV a n).1,(AV b (n+i_ a)).2.1,(AV a n).2.2++(AV b (n+i_ a)).2.2++[Ca (AV a n).2.1 (AV b (n+i_ a)).1])
 | .alt a b,n=>(n,n+1+i_ a+i_ b,(AV a (n+1)).2.2++(AV b (n+1+i_ a)).2.2++
   [Ca n (AV a (n+1)).1,Ca n (AV b (n+1+i_ a)).1,Ca (AV a (n+1)).2.1 (n+1+i_ a+i_ b),Ca (AV b (n+1+i_ a)).2.1 (n+1+i_ a+i_ b)])
 | .star a,n=>(n,n+1+i_ a,(AV a (n+1)).2.2++[Ca n (AV a (n+1)).1,Ca n (n+1+i_ a),Ca (AV a (n+1)).2.1 (AV a (n+1)).1,Ca (AV a (n+1)).2.1 (n+1+i_ a)])
 | .and_ _ _,n=>(n,n,[])
 | .minus _ _,n=>(n,n,[])
theorem CS:∀(r:ReM),r.plain=true→∀n,(AV r n).2.2.length+1≤2*i_ r
 | .eps,_,n=>by simp[AV,i_]
 | .cls _,_,n=>by simp[AV,i_]
 | .cat a b,h,n=>by
   simp only[ReM.plain,h_]at h;have c:=CS a h.1 n;have d:=CS b h.2 (n+i_ a);simp only[AV,i_,Q_,j_,J'];omega
 | .alt a b,h,n=>by
   simp only[ReM.plain,h_]at h;have c:=CS a h.1 (n+1);have d:=CS b h.2 (n+1+i_ a);simp only[AV,i_,Q_,j_,J'];omega
 | .star a,h,n=>by
   have c:=CS a h (n+1);simp only[AV,i_,Q_,j_,J'];omega
 | .and_ _ _,h,_=>by cases h
 | .minus _ _,h,_=>by cases h
theorem EN:∀(r:ReM),r.plain=true→∀n,n≤(AV r n).1∧(AV r n).1<n+i_ r∧n≤(AV r n).2.1∧(AV r n).2.1<n+i_ r
 | .eps,_,n=>by simp only[AV,i_];omega
 | .cls _,_,n=>by simp only[AV,i_];omega
 | .cat a b,h,n=>by
   simp only[ReM.plain,h_]at h;have c:=EN a h.1 n;have d:=EN b h.2 (n+i_ a);simp only[AV,i_];omega
 | .alt a b,h,n=>by simp only[AV,i_];omega
 | .star a,h,n=>by simp only[AV,i_];omega
 | .and_ _ _,h,_=>by cases h
 | .minus _ _,h,_=>by cases h
def bdL(n:Nat)(v sub:v_):List v_:=[C_ n,C_ 0,C_ 0,v,sub,C_ 0]
abbrev tBd:x_:=321
section
variable{B:Nat→Prop}{H0 H:Aa}{rest:List Pc}{bb n:Nat}{v sub:v_}
theorem Ek{K:v_→Aa→Prop}(a:E_ B H0 H (pB tBd bb (bdL n v sub)::rest))(d:n≤2000000)(k:∀H',E_ B H0 H' (pB tBd bb (bdL (n+1) v sub)::rest)→K (.int .i64 (n:Int)) H'):
  Aj prog 222 #[H_ bb] H K:=by
 refine Aj.mk (R:=fun r H'=>r= .int .i64 (n:Int)∧E_ B H0 H' (pB tBd bb (bdL (n+1) v sub)::rest)) ?_ fun r H' ⟨b,c⟩=>by rw[b];exact k H' c
 refine Al.of_vc func222 rfl (call222 _) (fa ?_);refine fa ?_;refine lT ((a.blk 0 rfl).cellE rfl) ?_;(conv=>whnf);rw[R_ n (by omega)];refine fa ?_;refine fa ?_;refine Bh a 0 rfl (show 0<6 by decide) rfl fun H1 st1=>(fa ?_);refine fa ?_;refine lT ((st1.blk 0 rfl).cellE rfl) ?_;(conv=>whnf);rw[n_ (x:=(n:Int)+1-1) (by omega),show(n:Int)+1-1=(n:Int) by omega];(conv=>whnf);exact⟨rfl,st1⟩
theorem TT{p q:Nat}(a:p≤2000000)(b:q≤2000000)(s:Bool)(t:BitVec 256):(Z'.mk p q s t).Ok:=⟨Co (by omega),Co (by omega)⟩
theorem VT(p q:Nat){S:Nat→Prop}{H:Aa}{K:v_→Prop}(k:K (.agg (edL (Ca p q)).toArray)):
  A7 prog (Instr.build 332 [(0,C_ p),(1,C_ q),(2,.bool true)].toArray) S H K:=by
 have e:edL (Ca p q)=[C_ p,C_ q,.bool true,.int .u64 0,.int .u64 0,.int .u64 0,.int .u64 0]:=by
  have h:∀i,wd 0#256 i=0:=fun i=>by unfold wd;simp
  simp[edL,Ca,h]
 rw[e]at k;exact Ah underlying332 rfl _ Mp _ (by kernel_rfl) k
theorem Ys(x y:Int)(w0 a b c:v_){S:Nat→Prop}{H:Aa}{K:v_→Prop}(d:w0.oneCell'=true)(e:a.oneCell'=true)(f:b.oneCell'=true)(g:c.oneCell'=true)(k:K (.agg [C_ x,C_ y,.bool false,w0,a,b,c].toArray)):
  A7 prog (Instr.build 332 [(0,C_ x),(1,C_ y),(3,.agg [w0,a,b,c].toArray)].toArray) S H K:=
 Ah underlying332 rfl _ Mp [C_ x,C_ y,.bool false,w0,a,b,c] (by kernel_rfl) k
theorem VQ(p q:Nat)(s:BitVec 256){S:Nat→Prop}{H:Aa}{K:v_→Prop}(k:K (.agg (edL (HS p q s)).toArray)):
  A7 prog (Instr.build 332 [(0,C_ p),(1,C_ q),(3,.agg (An s).toArray)].toArray) S H K:=by
 unfold HS edL at k;unfold An;exact Ys _ _ _ _ _ _ rfl rfl rfl rfl k
theorem FU{K:v_→Aa→Prop}{a:Option Addr}{c p q:Nat}{es:List Z'}(h:E_ B H0 H (pB tBd bb (bdL n (.slice a es.length c) sub)::pS tEd 332 a es.length c es::rest))(l:p≤2000000)(m:q≤2000000)(G:es.length+1≤4194304)
  (k:∀a' d H',E_ B H0 H' (pB tBd bb (bdL n (.slice a' (es++[Ca p q]).length d) sub)::pS tEd 332 a' (es++[Ca p q]).length d (es++[Ca p q])::rest)→K (.tuple #[]) H'):
  Aj prog 223 #[H_ bb,C_ p,C_ q] H K:=by
 refine Aj.mk (R:=fun r H'=>r= .tuple #[]∧∃a' d,E_ B H0 H' (pB tBd bb (bdL n (.slice a' (es++[Ca p q]).length d) sub)::pS tEd 332 a' (es++[Ca p q]).length d (es++[Ca p q])::rest)) ?_ fun r H' ⟨t,a',d,w⟩=>by rw[t];exact k a' d H' w
 refine Al.of_vc func223 rfl (call223 _) (fa ?_);refine fa ?_;refine B_ ((h.blk 0 rfl).cellE rfl) trivial (VT p q (Az JT (edL (Ca p q)) rfl rfl (by decide) (by decide) ?_));intro y H1 x z e f;have st1:=h.skip x f;refine Qn (ys:=[Ca p q]) st1 1 JT rfl (e.cells (o:=0) (cs:=edL (Ca p q)) fun j v A=>by rw[P_];exact A) (Ty.reps_one ⟨rfl,TT l m _ _⟩) rfl (fun u C=>Ycc.1 (OS _) u C) (by simp only[j_,J'];omega) (by decide) fun D E H9 g _=>?_;refine fa ?_;refine fa ?_;refine Bh g 0 rfl (show 3<6 by decide) rfl fun H10 b=>?_;(conv=>whnf);have F:es.length+[Ca p q].length=(es++[Ca p q]).length:=by simp
 rw[F]at b;exact⟨rfl,D,E,b⟩
theorem Zt{K:v_→Aa→Prop}{a:Option Addr}{c:Nat}{es:List Z'}{s:BitVec 256}(M:E_ B H0 H (pB tBd bb (bdL n (.slice a es.length c) sub)::pS tEd 332 a es.length c es::rest))(X:n≤1000000)(Y:es.length+1≤4194304)
  (k:∀a' g H',E_ B H0 H' (pB tBd bb (bdL (n+2) (.slice a' (es++[HS n (n+1) s]).length g) sub)::pS tEd 332 a' (es++[HS n (n+1) s]).length g (es++[HS n (n+1) s])::rest)→K (.tuple #[C_ n,C_ ((n+1:Nat):Int)]) H'):
  Aj prog 224 #[H_ bb,Bf s] H K:=by
 refine Aj.mk (R:=fun r H'=>r= .tuple #[C_ n,C_ ((n+1:Nat):Int)]∧∃a' g,E_ B H0 H' (pB tBd bb (bdL (n+2) (.slice a' (es++[HS n (n+1) s]).length g) sub)::pS tEd 332 a' (es++[HS n (n+1) s]).length g (es++[HS n (n+1) s])::rest)) ?_ fun r H' ⟨N,a',g,O⟩=>by rw[N];exact k a' g H' O
 refine Al.of_vc func224 rfl (call224 _) (BC (An s) rfl ?_);intro x H1 P t w z;have st1:=(M.box P t w z).perm (Yda _ _);have A:E_ B H0 H1 (pB tBd bb (bdL n (.slice a es.length c) sub)::pB 227 x (An s)::pS tEd 332 a es.length c es::rest):=st1.perm (List.Perm.swap _ _ _);refine Ek A (by omega) fun H3 C=>(Ek C (by omega) fun H4 b=>?_);have q:=b.apart2 (i:=0) (j:=2) rfl rfl (by decide);have l:=b.apart2 (i:=1) (j:=2) rfl rfl (by decide);refine Au.heldZ (fun k=>k<H4.size∧¬N_ (.slice a es.length c) k) [15] (sq [0,1,2,3,4,5,6,7,8,9] (.f 10 (.f 11 (sq [12,13,14] (.f 15 .e))))) rfl (by kernel_rfl) ?_;have D:bb<H4.size∧¬N_ (.slice a es.length c) bb:=⟨(b.in_ 0 rfl rfl).2,fun h=>q bb rfl (.inl h)⟩;have E:x<H4.size∧¬N_ (.slice a es.length c) x:=⟨(b.in_ 1 rfl rfl).2,fun h=>l x rfl (.inl h)⟩;refine fa ?_;refine fa ?_;refine B_ ((b.blk 0 rfl).cellE rfl) D ?_;refine L_ (cs:=An s) ((b.blk 1 rfl).cells fun j v F=>by rw[P_];exact F) E ?_;refine VQ n (n+1) s (Az JT (edL (HS n (n+1) s)) rfl rfl (by decide) (by decide) ?_);intro y H5 Q S G m;have I:=b.skip Q m;refine⟨m.mono fun k p=>by have:=p.1;omega,?_⟩;refine Qn (ys:=[HS n (n+1) s]) I 2 JT rfl (G.cells (o:=0) (cs:=edL (HS n (n+1) s)) fun j v F=>by rw[P_];exact F) (Ty.reps_one ⟨rfl,TT (by omega) (by omega) _ _⟩) rfl (fun u T=>Ycc.1 (OS _) u T) (by simp only[j_,J'];omega) (by decide) fun U V H9 J L=>?_;refine⟨(m.mono fun k p=>by have:=p.1;omega).trans (L.mono fun k p=>⟨by have:=p.1;omega,p.2⟩),?_⟩;refine fa ?_;refine fa ?_;refine Bh J 0 rfl (show 3<6 by decide) rfl fun H10 d=>?_;(conv=>whnf);have W:es.length+[HS n (n+1) s].length=(es++[HS n (n+1) s]).length:=by simp
 rw[W]at d;exact⟨rfl,U,V,(d.perm (List.Perm.swap _ _ _)).sub (Ydd _ _)⟩
end
theorem JG:(prog.info? 167).bind (·.zero)=some (.agg #[]):=rfl
theorem Iu:(prog.info? 230).bind (·.zero)=some (.agg #[.int .u64 0,.int .u64 0,.int .u64 0,.int .u64 0]):=rfl
theorem LA:(prog.info? 179).bind (·.zero)=some (.agg #[.nilIface,.nilIface]):=rfl
theorem Uy:(prog.info? 174).bind (·.zero)=some (.agg #[.nilIface,.nilIface]):=rfl
theorem AaW:(prog.info? 182).bind (·.zero)=some (.agg #[.nilIface]):=rfl
theorem AeX{B:Nat→Prop}{H0:Aa}{bb:Nat}{sub:v_}:∀(r:ReM),r.plain=true→∀{H:Aa} {rest:List Pc} {n:Nat} {a:Option Addr} {c:Nat} {es:List Z'} (u:E_ B H0 H (pB tBd bb (bdL n (.slice a es.length c) sub)::pS tEd 332 a es.length c es::rest)),n+i_ r≤1000000→es.length+2*i_ r≤4000000→
  Al prog 208 #[H_ bb,Av r] H fun v H'=>v= .tuple #[C_ ((AV r n).1:Nat),C_ ((AV r n).2.1:Nat)]∧∃a' N,E_ B H0 H' (pB tBd bb (bdL (n+i_ r) (.slice a' (es++(AV r n).2.2).length N) sub)::pS tEd 332 a' (es++(AV r n).2.2).length N (es++(AV r n).2.2)::rest):=fun r=>by
 induction r with
 | eps=>
   intro d H rest n a c es u D E;simp only[i_]at D E;refine Al.of_vc func208 rfl (call208 _) (fa ?_);refine lT ((u.blk 0 rfl).cellE rfl) ?_;refine Cs underlying167 (by intro w h;cases h) ?_;refine Aw (.agg #[]) [] rfl rfl ?_;intro x H1 F k l m;have st1:E_ B H0 H1 (pB 167 x []::pB tBd bb (bdL n (.slice a es.length c) sub)::pS tEd 332 a es.length c es::rest):=(u.box F k l m).perm (Yda _ _);refine AD (cs:=[]) st1 0 rfl rfl (J_ _) rfl fun H2 e=>?_;have p:E_ B H0 H2 (pB tBd bb (bdL n (.slice a es.length c) sub)::pS tEd 332 a es.length c es::rest):=e.sub (Ydd _ _);refine Ek p (by omega) fun H4 f=>(Ek f (by omega) fun H5 q=>(FU q (by omega) (by omega) (by omega) fun a' N H6 y=>?_));(conv=>whnf);exact⟨rfl,a',N,y⟩
 | cls s=>
   intro d H rest n a c es u D E;simp only[i_]at D E;refine Al.of_vc func208 rfl (call208 _) (fa ?_);refine lT ((u.blk 0 rfl).cellE rfl) ?_;refine Cn underlying167 (by intro w h;cases h) JG (by decide) ?_;refine Cs underlying230 (by intro w h;cases h) ?_;refine Aw _ [.int .u64 0,.int .u64 0,.int .u64 0,.int .u64 0] Iu rfl ?_;intro x H1 F k l m;have st1:E_ B H0 H1 (pB 230 x [.int .u64 0,.int .u64 0,.int .u64 0,.int .u64 0]::pB tBd bb (bdL n (.slice a es.length c) sub)::pS tEd 332 a es.length c es::rest):=(u.box F k l m).perm (Yda _ _);refine AD (cs:=An s) st1 0 rfl rfl (J_ _) rfl fun H2 e=>?_;rw[Bx (show(An s).length=4 from rfl)]at e;refine fa ?_;refine lN (cs:=An s) ((e.blk 0 rfl).cells fun j v W=>by simpa using W) ?_;have p:E_ B H0 H2 (pB tBd bb (bdL n (.slice a es.length c) sub)::pS tEd 332 a es.length c es::rest):=e.sub (Ydd _ _);refine Zt p (by omega) (by omega) fun a' N H4 f=>?_;(conv=>whnf);exact⟨rfl,a',N,f⟩
 | cat b g z G=>
   intro d H rest n a c es u D E;simp only[ReM.plain,h_]at d;simp only[i_]at D E;have l1:=CS b d.1 n;have l2:=CS g d.2 (n+i_ b);have R:=EN b d.1 n;have X:=EN g d.2 (n+i_ b);refine Al.of_vc func208 rfl (call208 _) (fa ?_);refine lT ((u.blk 0 rfl).cellE rfl) ?_;refine Cn underlying167 (by intro w h;cases h) JG (by decide) ?_;refine Cn underlying230 (by intro w h;cases h) Iu (by decide) ?_;refine Cs underlying179 (by intro w h;cases h) ?_;refine Aw _ [.nilIface,.nilIface] LA rfl ?_;intro x H1 F k l m;have st1:E_ B H0 H1 (pB 179 x [.nilIface,.nilIface]::pB tBd bb (bdL n (.slice a es.length c) sub)::pS tEd 332 a es.length c es::rest):=(u.box F k l m).perm (Yda _ _);refine AD (cs:=[Av b,Av g]) st1 0 rfl rfl (J_ _) (by simp[Ec]) fun H2 e=>?_;rw[Bx (show [Av b,Av g].length=2 from rfl)]at e;refine fa ?_;refine lT ((e.blk 0 rfl).cellE rfl) ?_;have p:E_ B H0 H2 (pB tBd bb (bdL n (.slice a es.length c) sub)::pS tEd 332 a es.length c es::pB 179 x [Av b,Av g]::rest):=e.pickN 3 [1,2,0] (by decide);refine Aj.mk (z d.1 p (by omega) (by omega)) ?_;rintro _ H4 ⟨rfl,a4,c4,f⟩;refine fa ?_;refine lT ((f.blk 2 rfl).cellE rfl) ?_;refine Aj.mk (G d.2 f (by omega) (by rw[Q_];omega)) ?_;rintro _ H5 ⟨rfl,S,T,q⟩;refine FU q (by omega) (by omega) (by rw[Q_,Q_];omega) fun U V H6 y=>?_;(conv=>whnf);have O:es++(AV b n).2.2++(AV g (n+i_ b)).2.2++[Ca (AV b n).2.1 (AV g (n+i_ b)).1]=es++(AV (.cat b g) n).2.2:=by simp[AV]
   rw[O,YcX]at y;exact⟨rfl,U,V,y.pickN 3 [0,1] (by decide)⟩
 | alt b g z G=>
   intro d H rest n a c es u D E;simp only[ReM.plain,h_]at d;simp only[i_]at D E;have l1:=CS b d.1 (n+1);have l2:=CS g d.2 (n+1+i_ b);have R:=EN b d.1 (n+1);have X:=EN g d.2 (n+1+i_ b);refine Al.of_vc func208 rfl (call208 _) (fa ?_);refine lT ((u.blk 0 rfl).cellE rfl) ?_;refine Cn underlying167 (by intro w h;cases h) JG (by decide) ?_;refine Cn underlying230 (by intro w h;cases h) Iu (by decide) ?_;refine Cn underlying179 (by intro w h;cases h) LA (by decide) ?_;refine Cs underlying174 (by intro w h;cases h) ?_;refine Aw _ [.nilIface,.nilIface] Uy rfl ?_;intro x H1 F k l m;have st1:E_ B H0 H1 (pB 174 x [.nilIface,.nilIface]::pB tBd bb (bdL n (.slice a es.length c) sub)::pS tEd 332 a es.length c es::rest):=(u.box F k l m).perm (Yda _ _);refine AD (cs:=[Av b,Av g]) st1 0 rfl rfl (J_ _) (by simp[Ec]) fun H2 e=>?_;rw[Bx (show [Av b,Av g].length=2 from rfl)]at e;have p:E_ B H0 H2 (pB tBd bb (bdL n (.slice a es.length c) sub)::pS tEd 332 a es.length c es::pB 174 x [Av b,Av g]::rest):=e.pickN 3 [1,2,0] (by decide);refine Ek p (by omega) fun H4 f=>(fa ?_);refine B_ ((f.blk 2 rfl).cellE rfl) trivial (Aj.mk (z d.1 f (by omega) (by omega)) ?_);rintro _ H5 ⟨rfl,S,T,q⟩;refine fa ?_;refine lT ((q.blk 2 rfl).cellE rfl) ?_;refine Aj.mk (G d.2 q (by omega) (by rw[Q_];omega)) ?_;rintro _ H6 ⟨rfl,U,V,y⟩;refine Ek y (by omega) fun H7 I=>?_;refine FU I (by omega) (by omega) (by simp only[Q_];omega) fun Y Z H8 J=>?_;refine FU J (by omega) (by omega) (by simp only[Q_,j_,J'];omega) fun a9 c9 H9 K=>?_;refine FU K (by omega) (by omega) (by simp only[Q_,j_,J'];omega) fun P Q H10 A=>?_;refine FU A (by omega) (by omega) (by simp only[Q_,j_,J'];omega) fun L M H11 t=>?_;(conv=>whnf);have O:es++(AV b (n+1)).2.2++(AV g (n+1+i_ b)).2.2++[Ca n (AV b (n+1)).1]++[Ca n (AV g (n+1+i_ b)).1]++[Ca (AV b (n+1)).2.1 (n+1+i_ b+i_ g)]++[Ca (AV g (n+1+i_ b)).2.1 (n+1+i_ b+i_ g)]=es++(AV (.alt b g) n).2.2:=by simp[AV]
   rw[O,show n+1+i_ b+i_ g+1=n+i_ (.alt b g) by simp only[i_];omega]at t;exact⟨rfl,L,M,t.pickN 3 [0,1] (by decide)⟩
 | star b z=>
   intro d H rest n a c es u D E;have C:b.plain=true:=d;simp only[i_]at D E;have l1:=CS b C (n+1);have R:=EN b C (n+1);refine Al.of_vc func208 rfl (call208 _) (fa ?_);refine lT ((u.blk 0 rfl).cellE rfl) ?_;refine Cn underlying167 (by intro w h;cases h) JG (by decide) ?_;refine Cn underlying230 (by intro w h;cases h) Iu (by decide) ?_;refine Cn underlying179 (by intro w h;cases h) LA (by decide) ?_;refine Cn underlying174 (by intro w h;cases h) Uy (by decide) ?_;refine Cs underlying182 (by intro w h;cases h) ?_;refine Aw _ [.nilIface] AaW rfl ?_;intro x H1 F k l m;have st1:E_ B H0 H1 (pB 182 x [.nilIface]::pB tBd bb (bdL n (.slice a es.length c) sub)::pS tEd 332 a es.length c es::rest):=(u.box F k l m).perm (Yda _ _);refine AD (cs:=[Av b]) st1 0 rfl rfl (J_ _) (by simp[Ec]) fun H2 e=>?_;rw[Bx (show [Av b].length=1 from rfl)]at e;have p:E_ B H0 H2 (pB tBd bb (bdL n (.slice a es.length c) sub)::pS tEd 332 a es.length c es::pB 182 x [Av b]::rest):=e.pickN 3 [1,2,0] (by decide);refine Ek p (by omega) fun H4 f=>(fa ?_);refine B_ ((f.blk 2 rfl).cellE rfl) trivial (Aj.mk (z C f (by omega) (by omega)) ?_);rintro _ H5 ⟨rfl,S,T,q⟩;refine Ek q (by omega) fun H7 I=>?_;refine FU I (by omega) (by omega) (by simp only[Q_];omega) fun Y Z H8 J=>?_;refine FU J (by omega) (by omega) (by simp only[Q_,j_,J'];omega) fun a9 c9 H9 K=>?_;refine FU K (by omega) (by omega) (by simp only[Q_,j_,J'];omega) fun P Q H10 A=>?_;refine FU A (by omega) (by omega) (by simp only[Q_,j_,J'];omega) fun L M H11 t=>?_;(conv=>whnf);have O:es++(AV b (n+1)).2.2++[Ca n (AV b (n+1)).1]++[Ca n (n+1+i_ b)]++[Ca (AV b (n+1)).2.1 (AV b (n+1)).1]++[Ca (AV b (n+1)).2.1 (n+1+i_ b)]=es++(AV (.star b) n).2.2:=by simp[AV]
   rw[O,show n+1+i_ b+1=n+i_ (.star b) by simp only[i_];omega]at t;exact⟨rfl,L,M,t.pickN 3 [0,1] (by decide)⟩
 | and_=>intro h;cases h
 | minus=>intro h;cases h
section
variable{α:Type}{T:Ty α}{e:x_}{a:Option Addr}{n cap:Nat}{xs ys:List α}{B S:Nat→Prop}{H0 H:Aa}{ps:List Pc}
end
def MC:ReM→x_
 | .eps=>167
 | .cls _=>230
 | .cat _ _=>179
 | .alt _ _=>174
 | .star _=>182
 | .and_ _ _=>210
 | .minus _ _=>211
def EJ:ReM→v_
 | .eps=>.agg #[]
 | .cls s=>Bf s
 | .cat a b=>.agg #[Av a,Av b]
 | .alt a b=>.agg #[Av a,Av b]
 | .star a=>.agg #[Av a]
 | .and_ a b=>.agg #[Av a,Av b]
 | .minus a b=>.agg #[Av a,Av b]
theorem C7(r:ReM):Av r= .iface (MC r) (EJ r):=by cases r<;>rfl
def JR:ReM→FuncId
 | .eps=>308
 | .cls _=>321
 | .cat _ _=>313
 | .alt _ _=>310
 | .star _=>315
 | .and_ _ _=>317
 | .minus _ _=>319
theorem Jc(r:ReM)(w:y_):(callMethod (.iface (MC r) (EJ r)) "Size" #[]).run prog w= .ok (.enter (JR r) #[EJ r]) w:=by
 cases r with
 | eps=>exact SD _ w
 | cls=>exact SC _ w
 | cat=>exact SB _ w
 | alt=>exact S9 _ w
 | star=>exact QR _ w
 | and_=>exact SA _ w
 | minus=>exact Pj _ w
theorem Th(r:ReM)(H:Aa):AZ prog 311 #[Av r] H (.iface (MC r) (EJ r)):=by
 rw[C7];refine Al.of_vc func311 rfl (call311 _) (Aa3 underlying66 ?_);(conv=>whnf);exact⟨rfl,A_.refl _ _⟩
theorem PI:∀(r:ReM),r.nodes≤1000000000→∀(H:Aa),AZ prog (JR r) #[EJ r] H (.int .i64 (r.nodes:Int)):=fun r=>by
 induction r
 all_goals
  intro A H
 case eps=>
  refine Al.of_vc func308 rfl (call308 _) (BC [] rfl ?_);intro x H1 j d c g;have st1:=(St.nil H).box j d c g;(conv=>whnf);exact⟨rfl,st1.old⟩
 case cls s=>
  refine Al.of_vc func321 rfl (call321 _) (BC (An s) rfl ?_);intro x H1 j d c g;have st1:=(St.nil H).box j d c g;(conv=>whnf);exact⟨rfl,st1.old⟩
 case star a iha=>
  simp only[ReM.nodes]at A;refine Al.of_vc func315 rfl (call315 _) (BC [Av a] rfl ?_);intro x H1 j d c g;have st1:=(St.nil H).box j d c g;refine fa ?_;refine B_ (c.cellE rfl) trivial (Ak (Th a H1) fun H2 h=>?_);have u:=st1.call h;refine Gg.mk (JR a) #[EJ a] (Jc a) (iha (by omega) H2) ?_;rintro _ H3 ⟨rfl,l⟩;have w:=u.call l;(conv=>whnf);rw[n_ (x:=1+(a.nodes:Int)) (by omega)];(conv=>whnf);exact⟨by simp only[ReM.nodes];simp,w.old⟩
 case cat a b iha ihb | alt a b iha ihb | and_ a b iha ihb | minus a b iha ihb=>
  simp only[ReM.nodes]at A
  first | refine Al.of_vc func313 rfl (call313 _) ?_ | refine Al.of_vc func310 rfl (call310 _) ?_ | refine Al.of_vc func317 rfl (call317 _) ?_ | refine Al.of_vc func319 rfl (call319 _) ?_
  refine BC [Av a,Av b] rfl ?_;intro x H1 j d c g;have st1:=(St.nil H).box j d c g;have t:=c.lt;refine Au.heldZ (D_ H1) [] (sq [0,1,5,6] (.f 2 (.f 3 (sq [4] (.f 7 (.f 8 (sq [9] (.f 10 .e)))))))) rfl (by kernel_rfl) ?_;(conv=>whnf);first | refine fa ?_
  refine B_ (c.cellE rfl) t ?_;(conv=>whnf);first | refine fa ?_
  refine B_ (c.cellE rfl) t (Ak (Th a H1) fun H2 h=>(⟨h,?_⟩));refine Gg.mk (JR a) #[EJ a] (Jc a) (iha (by omega) H2) ?_;rintro _ H3 ⟨rfl,l⟩;have m:=h.trans (l.mono fun k n=>Ae h n);refine⟨m,?_⟩;(conv=>whnf);rw[n_ (x:=1+(a.nodes:Int)) (by omega)];refine Ak (Th b H3) fun H4 y=>?_;have p:=m.trans (y.mono fun k n=>Ae m n);refine⟨p,?_⟩;refine Gg.mk (JR b) #[EJ b] (Jc b) (ihb (by omega) H4) ?_;rintro _ H5 ⟨rfl,z⟩;have q:=p.trans (z.mono fun k n=>Ae p n);refine⟨q,?_⟩;(conv=>whnf);rw[n_ (x:=1+(a.nodes:Int)+(b.nodes:Int)) (by omega)];refine⟨q,?_⟩;(conv=>whnf);exact⟨by simp only[ReM.nodes];simp,st1.old.trans (q.mono fun k n=>st1.up n)⟩
theorem D6:∀r:ReM,i_ r≤2*r.nodes
 | .eps=>by simp[i_,ReM.nodes]
 | .cls _=>by simp[i_,ReM.nodes]
 | .cat a b=>by have:=D6 a;have:=D6 b;simp only[i_,ReM.nodes];omega
 | .alt a b=>by have:=D6 a;have:=D6 b;simp only[i_,ReM.nodes];omega
 | .star a=>by have:=D6 a;simp only[i_,ReM.nodes];omega
 | .and_ a b=>by simp[i_]
 | .minus a b=>by simp[i_]
def Be(r:ReM):O_:=⟨(i_ r:Int),((AV r 0).1:Int),((AV r 0).2.1:Int),(AV r 0).2.2⟩
def Ag3:v_:=.agg #[C_ 0,C_ 0,C_ 0,.slice none 0 0]
def BldR(H H':Aa)(r:ReM)(v:v_):Prop:=A_ (D_ H) H H'∧if 2000<r.nodes then v= .tuple #[Ag3,C_ 24]else
 ∃ea ec,v= .tuple #[.agg (nfL (Be r) (.slice ea (Be r).edges.length ec)).toArray,C_ 0]∧M_ tEd none_ H' H.size 332 (.slice ea (Be r).edges.length ec) (Be r).edges
theorem bd_z:(prog.info? 321).bind (·.zero)=some (.agg #[C_ 0,C_ 0,C_ 0,.slice none 0 0,.nilFunc,C_ 0]):=rfl
def K1(b:Nat):BitVec 256:=ofB 0#256 [b]
def Cz:List Nat→ReM
 | []=>.eps
 | b::l=>l.foldl (fun r c=>.cat r (.cls (K1 c))) (.cls (K1 b))
theorem Tq{l:List Nat}(h:l≠[])(c:Nat):Cz (l++[c])= .cat (Cz l) (.cls (K1 c)):=by
 cases l with
 | nil=>exact absurd rfl h
 | cons b l=>simp[Cz,List.foldl_append]
theorem Lh(l:List Nat):(Cz l).plain=true:=by
 cases l with
 | nil=>rfl
 | cons b l=>
   unfold Cz;have a:∀(l:List Nat) (r:ReM),r.plain=true→(l.foldl (fun r c=>ReM.cat r (.cls (K1 c))) r).plain=true:=by
    intro l
    induction l with
    | nil=>exact fun r h=>h
    | cons c l d=>exact fun r h=>d _ (by simp[ReM.plain,h])
   exact a l _ rfl
theorem RE:∀(l:List Nat),(Cz l).nodes+1=max 2 (2*l.length):=by
 intro l;cases l with
 | nil=>rfl
 | cons b l=>
   unfold Cz;have a:∀(l:List Nat) (r:ReM),(l.foldl (fun r c=>ReM.cat r (.cls (K1 c))) r).nodes=r.nodes+2*l.length:=by
    intro l
    induction l with
    | nil=>exact fun r=>rfl
    | cons c l d=>intro r;rw[List.foldl_cons,d];simp only[ReM.nodes,j_];omega
   rw[a];simp only[ReM.nodes,j_];omega
def UJ(l:List Nat):v_:=match l with | []=>.nilIface | _=>Av (Cz l)
theorem ZP{s:ByteArray}{i:Nat}{c:UInt8}(h:s.data[i]?=some c):byN (s.extract i (i+1))=[c.toNat]:=by
 have e:=(Yaa.1 h).1;unfold byN;rw[ByteArray.data_extract,Array.toList_extract,List.extract_eq_take_drop];have:(s.data.toList.drop i).take (i+1-i)=[c]:=by
  rw[show i+1-i=1 by omega];have a:s.data.toList[i]?=some c:=by rw[Array.getElem?_toList];exact h
  have⟨b,d⟩:=X_.1 a;rw[List.drop_eq_getElem_cons b,d];rfl
 rw[this];rfl
theorem YF(s:ByteArray)(hs:s.size≤1048576)(H:Aa):AZ prog 78 #[.string s] H (Av (Cz (byN s))):=by
 refine Al.of_vc func78 rfl (call78 _) ?_;have a:=Lv s;by_cases r:s.size=0
 ·have f:byN s=[]:=YaA (by omega);have t:s=⟨#[]⟩:=Ds (by
   have:s.data.toList=[]:=YaA (by rw[Array.length_toList];exact r);rw[this])
  have u:(s.toList==(⟨#[]⟩:ByteArray).toList)=true:=by rw[t];simp
  (conv=>whnf);rw[u];refine Ah underlying167 rfl _ JG [] rfl ?_;(conv=>whnf);exact⟨by rw[f];rfl,A_.refl _ _⟩
 ·have u:(s.toList==(⟨#[]⟩:ByteArray).toList)=false:=by
   cases h:(s.toList==(⟨#[]⟩:ByteArray).toList)with
   | false=>rfl
   | true=>
     rw[AbN]at h;rw[h]at r;exact absurd rfl r
  (conv=>whnf);rw[u];(conv=>whnf);refine A8.mk [3,12] (fun i:Nat=>[UJ ((byN s).take i),C_ i]) (fun i H2=>i≤s.size∧St H H2 []) (fun i _=>s.size-i) ?_ ?_
  ·(conv=>whnf);exact⟨0,rfl,l_ _,St.nil H⟩
  ·rintro i H2 D ⟨J,g⟩;refine Ag.m2 (fun F=>?_) (fun F=>?_)
   ·have⟨c,E⟩:=Ae9 (s:=s) (k:=i) (by omega);have w:IntKind.wrap .i64 ((i:Int)+1)=((i+1:Nat):Int):=by rw[w64 (by omega) (by omega)];omega
    refine Af.run ?_;(conv=>whnf);rw[w];refine RI (l:=(i:Int)) (h:=((i+1:Nat):Int)) underlying9 (by omega) (by omega) (by omega) ?_;rw[Yau,Yau];refine Ak (of_p (s.extract i (i+1)) (by simp;omega) H2) fun H3 y=>?_;have z:=g.call y;rw[ZP E];refine Ah underlying230 rfl _ Iu (An (K1 c.toNat)) (by unfold An;kernel_rfl) ?_;refine BV z _ [.int .u64 0,.int .u64 0,.int .u64 0,.int .u64 0] Iu rfl fun x H4 A=>(AD (cs:=An (K1 c.toNat)) A 0 rfl rfl (J_ _) rfl fun H5 d=>?_);rw[Bx (show(An (K1 c.toNat)).length=4 from rfl)]at d;have m:=Ai (OH E);have n:AL H5 x 0 (An (K1 c.toNat)):=(d.blk 0 rfl).cells fun j v G=>by rw[P_];exact G
    by_cases B:i=0
    ·subst B;refine AcD underlying66 (L_ (cs:=An (K1 c.toNat)) n trivial ?_);(conv=>whnf);rw[w];refine⟨rfl,0+1,?_,⟨by omega,d.pick [] (by decide)⟩,by omega⟩;rw[m];rfl
    ·have p:(byN s).take i≠[]:=fun e=>by
      have h:=congrArg List.length e;rw[YaN,a,J']at h;omega
     have C:UJ ((byN s).take i)= .iface (MC (Cz ((byN s).take i))) (EJ (Cz ((byN s).take i))):=by
      rw[←C7];cases h:(byN s).take i with
      | nil=>exact absurd h p
      | cons b l=>rfl
     have q:UJ ((byN s).take (i+1))= .iface 179 (.agg #[.iface (MC (Cz ((byN s).take i))) (EJ (Cz ((byN s).take i))),.iface 230 (Bf (K1 c.toNat))]):=by
      have:UJ ((byN s).take (i+1))=Av (Cz ((byN s).take (i+1))):=by
       cases h:(byN s).take (i+1)with
       | nil=>
         have I:=congrArg List.length h;rw[YaN,a,J']at I;omega
       | cons b l=>rfl
      rw[this,m,Tq p,←C7];rfl
     rw[C];generalize MC (Cz ((byN s).take i))=NT at*;generalize EJ (Cz ((byN s).take i))=NP at*;refine Aa3 underlying66 (L_ (cs:=An (K1 c.toNat)) n trivial (Ah underlying179 rfl _ LA [.iface NT NP,.iface 230 (Bf (K1 c.toNat))] rfl ?_));(conv=>whnf);rw[w];refine⟨rfl,i+1,?_,⟨by omega,d.pick [] (by decide)⟩,by omega⟩;rw[q]
   ·obtain rfl:i=s.size:=by omega
    (conv=>whnf);rw[List.take_of_length_le (by rw[a];exact J_ _)];refine⟨?_,g.old⟩;cases h:byN s with
    | nil=>rw[h]at a;simp at a;omega
    | cons b l=>rfl
section
variable{l:List Nat}
end
theorem K0{K:Type} [DecidableEq K]:∀{L M:List K},L.Nodup→(∀x∈L,x∈M)→L.length≤M.length
 | [],M,_,_=>l_ _
 | x::L,M,hn,h=>by
   have a:=List.nodup_cons.1 hn;have d:=K0 (M:=M.erase x) a.2 fun y b=>(List.mem_erase_of_ne fun e:y=x=>a.1 (by rw[←e];exact b)).2 (h y (by simp[b]));have c:=h x (by simp);have f:=List.length_erase_of_mem c;have g:=List.length_pos_of_mem c;rw[j_];omega
section
variable{l:List Nat}
end
structure BR where
 p:Nat
 q:Nat
 u:Nat
 es:List Z'
def shE(n:Int)(e:Z'):Z':=⟨e.fr+n,e.to+n,e.sil,if e.sil then 0#256 else e.set⟩
def Qa(a:O_):Bool:=(a.has a.start&&a.has a.fin)&&a.edges.all fun e=>a.has e.fr&&a.has e.to
section
variable{σ α β:Type}
def BN(x:σ×Except Int α)(f:α→σ→σ×Except Int β):σ×Except Int β:=match x with
 | (s,.error e)=>(s,.error e)
 | (s,.ok a)=>f a s
def R1(x:σ×Except Int O_)(n:Nat):σ×Except Int BR:=
 BN x fun a s=>if Qa a=true then(s,.ok ⟨n+a.start.toNat,n+a.fin.toNat,a.st.toNat,a.edges.map (shE n)⟩)else(s,.error 2)
theorem NE{x:σ×Except Int α}{f:α→σ→σ×Except Int β}{s:σ}{a:α}(h:x=(s,.ok a)):BN x f=f a s:=by rw[h];rfl
theorem RY{x:σ×Except Int α}{f:α→σ→σ×Except Int β}{s:σ}{e:Int}(h:x=(s,.error e)):BN x f=(s,.error e):=by rw[h];rfl
theorem DW{x:σ×Except Int α}{f:α→σ→σ×Except Int β}{s:σ}{b:β}(h:BN x f=(s,.ok b)):∃c a,x=(c,.ok a)∧f a c=(s,.ok b):=by
 have⟨c,r⟩:=x;cases r with
 | error e=>cases h
 | ok a=>exact⟨c,a,rfl,h⟩
end
theorem Tw{a:O_}:Qa a=true↔a.has a.start=true∧a.has a.fin=true∧∀e∈a.edges,a.has e.fr=true∧a.has e.to=true:=by
 unfold Qa;simp only[h_,Ycc,and_assoc]
section
attribute [local irreducible] AN Bb AY
inductive PA.Live(d:PA):Nat→Prop
 | fin {q:Nat}:q<d.n→d.fi q=true→d.Live q
 | step {q b:Nat}:q<d.n→b<256→d.Live (d.st q b)→d.Live q
theorem PA.Live.lt{d:PA}{q:Nat}(h:d.Live q):q<d.n:=by cases h<;>assumption
open Classical in
noncomputable def PA.use(d:PA)(q:Nat):Bool:=decide (d.Live q)
theorem PA.use_iff{d:PA}{q:Nat}:d.use q=true↔d.Live q:=by unfold PA.use;simp
theorem PA.use_lt{d:PA}{q:Nat}(h:d.use q=true):q<d.n:=(PA.use_iff.1 h).lt
noncomputable def PA.place(d:PA)(q:Nat):Nat:=((Al6 q).filter d.use).length
noncomputable def PA.count(d:PA):Nat:=d.place d.n
noncomputable def PA.set(d:PA)(q t:Nat):BitVec 256:=bvN fun b=>decide (d.st q b=t)
noncomputable def PA.hopsTo(d:PA)(q k:Nat):List Z':=(Al6 k).filterMap fun t=>if(d.use t&&(d.set q t != 0#256))=true then some (HS (d.place q) (d.place t) (d.set q t))else none
noncomputable def PA.endE(d:PA)(q:Nat):List Z':=if d.fi q=true then [Ca (d.place q) d.count]else []
noncomputable def PA.edgesTo(d:PA)(k:Nat):List Z':=(Al6 k).flatMap fun q=>if d.use q=true then d.hopsTo q d.n++d.endE q else []
noncomputable def Fl(d:PA):O_:=if d.use 0=true then⟨d.count+1,0,d.count,d.edgesTo d.n⟩else⟨2,0,1,[]⟩
section
variable{d:PA}
theorem PA.place_succ(q:Nat):d.place (q+1)=d.place q+if d.use q=true then 1 else 0:=by
 unfold PA.place;rw[List.range_succ,List.filter_append,Q_];cases h:d.use q<;>simp[h]
theorem PA.place_mono{q t:Nat}(h:q≤t):d.place q≤d.place t:=by
 obtain⟨k,rfl⟩:=Nat.exists_eq_add_of_le h;clear h
 induction k with
 | zero=>exact J_ _
 | succ k a=>rw[←YcX,PA.place_succ];omega
theorem PA.place_lt{q t:Nat}(a:d.use q=true)(h:q<t):d.place q<d.place t:=by
 have b:=PA.place_succ (d:=d) q;rw[I_ a]at b;have c:=PA.place_mono (d:=d) (show q+1≤t from h);omega
theorem PA.place_count{q:Nat}(a:d.use q=true):d.place q<d.count:=PA.place_lt a (PA.use_lt a)
theorem PA.place_le(q:Nat):d.place q≤q:=by
 unfold PA.place;have:=List.length_filter_le d.use (Al6 q);rwa [List.length_range]at this
theorem PA.count_le:d.count≤d.n:=PA.place_le _
theorem PA.mem_edges{e:Z'}:e∈d.edgesTo d.n↔∃q,d.use q=true∧((∃t,d.use t=true∧d.set q t≠0#256∧e=HS (d.place q) (d.place t) (d.set q t))∨(d.fi q=true∧e=Ca (d.place q) d.count)):=by
 unfold PA.edgesTo;rw[List.mem_flatMap];constructor
 ·rintro⟨q,j,a⟩;split at a
  ·rename_i f;refine⟨q,f,?_⟩;rcases List.mem_append.1 a with a | a
   ·unfold PA.hopsTo at a;have⟨t,k,b⟩:=YcR.1 a;split at b
    ·rename_i c;rw[h_,bne_iff_ne]at c;exact .inl ⟨t,c.1,c.2,(AlH.inj b).symm⟩
    ·cases b
   ·unfold PA.endE at a;split at a
    ·rename_i g;exact .inr ⟨g,V_.1 a⟩
    ·cases a
  ·cases a
 ·rintro⟨q,f,h⟩;refine⟨q,Ych.2 (PA.use_lt f),?_⟩;rw[I_ f];rcases h with⟨t,b,c,rfl⟩ | ⟨b,rfl⟩
  ·refine YaU _ ?_;unfold PA.hopsTo;refine YcR.2 ⟨t,Ych.2 (PA.use_lt b),?_⟩;rw[I_ (by rw[h_,bne_iff_ne];exact⟨b,c⟩)]
  ·refine List.mem_append_right _ ?_;unfold PA.endE;rw[I_ b];exact V_.2 rfl
theorem Vu(g:d.n≤65535):(Fl d).has (Fl d).start=true∧(Fl d).has (Fl d).fin=true∧∀e∈(Fl d).edges,(Fl d).has e.fr=true∧(Fl d).has e.to=true:=by
 have h:=PA.count_le (d:=d);unfold Fl;split
 ·refine⟨O_.has_iff.2 ⟨Int.le_refl _,by show(0:Int)<(d.count:Int)+1;omega,by show(d.count:Int)+1≤65536;omega⟩,O_.has_iff.2 ⟨by show(0:Int)≤(d.count:Int);omega,by show(d.count:Int)<(d.count:Int)+1;omega,by show(d.count:Int)+1≤65536;omega⟩,fun e b=>?_⟩;have a:∀k:Nat,k≤d.count→O_.has ⟨d.count+1,0,d.count,d.edgesTo d.n⟩ (k:Int)=true:=fun k j=>O_.has_iff.2 ⟨by omega,by show(k:Int)<(d.count:Int)+1;omega,by show(d.count:Int)+1≤65536;omega⟩;obtain⟨q,c,⟨t,f,l,rfl⟩ | ⟨f,rfl⟩⟩:=PA.mem_edges.1 b
  ·exact⟨a _ (Ydg (PA.place_count c)),a _ (Ydg (PA.place_count f))⟩
  ·exact⟨a _ (Ydg (PA.place_count c)),a _ (J_ _)⟩
 ·exact⟨by decide,by decide,fun e b=>by cases b⟩
theorem QN(a:d.n≤65535):Qa (Fl d)=true:=Tw.2 (Vu a)
end
end
def catR(A C:BR):BR:=⟨A.p,C.q,A.u+C.u,A.es++C.es++[Ca A.q C.p]⟩
def altR(n:Nat)(A C:BR):BR:=⟨n,n+1+A.u+C.u,A.u+C.u+2,A.es++C.es++[Ca n A.p,Ca n C.p,Ca A.q (n+1+A.u+C.u),Ca C.q (n+1+A.u+C.u)]⟩
def AcX(n:Nat)(A:BR):BR:=⟨n,n+1+A.u,A.u+2,A.es++[Ca n A.p,Ca n (n+1+A.u),Ca A.q A.p,Ca A.q (n+1+A.u)]⟩
section
attribute [local irreducible] AN Bb AY
theorem E_.front{B:Nat→Prop}{H0 H:Aa}{ps:List Pc}{q:Pc}(b:E_ B H0 H (ps++[q])):E_ B H0 H (q::ps):=by
 have hd:=Ycj.1 b.dis;refine⟨b.old,b.lt0,b.size,fun p a=>b.oks p ?_,fun p a=>b.rng p ?_,Yct.2 ⟨fun p a k d c=>hd.2.2 p a q (by simp) k c d,hd.1⟩⟩
 ·rcases Ybe.1 a with rfl | a
  ·simp
  ·simp[a]
 ·rcases Ybe.1 a with rfl | a
  ·simp
  ·simp[a]
theorem E_.tail{B:Nat→Prop}{H0 H:Aa}{ps:List Pc}{q:Pc}(a:E_ B H0 H (q::ps)):E_ B H0 H ps:=
 ⟨a.old,a.lt0,a.size,fun p b=>a.oks p (by simp[b]),fun p b=>a.rng p (by simp[b]),(Yct.1 a.dis).2⟩
section
variable{B:Nat→Prop}{H0 H:Aa}{rest:List Pc}{xb mb fc most:Nat}{fa:Option Addr}{F:List (Int×Int)}{k:Int×Int}
end
section
variable{S:Nat→Prop}{H:Aa}{pa pb pf:Nat}{va vb:v_}{a b:Option AM}{x:Int×Int}{c:Nat}{ends:Bool→Bool→Bool}{f:FuncId}
end
section
variable{S:Nat→Prop}{H:Aa}{va vb:v_}{a b:Option AM}{ends:Bool→Bool→Bool}{f:FuncId}{m:Int}
def andB(x y:Bool):Bool:=x&&y
end
end
theorem Kn{S:Nat→Prop}{H:Aa}{v:v_}{a:O_}{b:Int}(h:NfV S H v a)(m:b<1∨4096<b):
  AZ prog 200 #[v,C_ b] H (.tuple #[.pointer none,C_ 2]):=by
 refine Al.of_vc func200 rfl (call200 _) (SM h fun n q c r=>?_);subst c;intro p H1 k d e f;have st1:=(St.nil H).box k d e f;by_cases j:b<1
 ·have g:decide (b<(1:Int))=true:=g_ j;(conv=>whnf);rw[g];(conv=>whnf);exact⟨rfl,st1.old⟩
 ·have g:decide (b<(1:Int))=false:=a_ j;have l:decide ((4096:Int)<b)=true:=s_;(conv=>whnf);rw[g];(conv=>whnf);rw[l];(conv=>whnf);exact⟨rfl,st1.old⟩
section
attribute [local irreducible] AN Bb AY
noncomputable def D8(a:O_)(b:Int):Except Int (List (List Int)):=if b<1∨4096<b then .error 2 else match Mn a b.toNat with
 | none=>.error 40
 | some F=>.ok F
theorem WR{a:O_}{b:Int}(h:b<1∨4096<b):D8 a b= .error 2:=by unfold D8;rw[I_ h]
theorem TO{a:O_}{b:Nat}(c:1≤b)(d:b≤4096):D8 a (b:Int)=match Mn a b with
 | none=>.error 40
 | some F=>.ok F:=by
 unfold D8;rw[G_ (by omega),Yau]
theorem Mm{a:O_}{b e:Int}(h:D8 a b= .error e):e≠0∧0≤e∧e≤40:=by
 unfold D8 at h;split at h
 ·injection h with h;omega
 ·split at h
  ·injection h with h;omega
  ·cases h
theorem L2{a:O_}{b:Int}{F:List (List Int)}(h:D8 a b= .ok F):∃m:Nat,b=(m:Int)∧1≤m∧m≤4096∧Mn a m=some F:=by
 unfold D8 at h;split at h
 ·cases h
 ·rename_i d;refine⟨b.toNat,by omega,by omega,by omega,?_⟩;split at h
  ·cases h
  ·rename_i F' c;injection h with h
   rw[c,h]
end
section
attribute [local irreducible] AN Bb AY EA
section
variable{K:Type} [DecidableEq K]{step:K→Nat→K}{fin:K→Bool}{F:List K}
def paF(step:K→Nat→K)(fin:K→Bool)(F:List K):PA:=⟨F.length,fun q b=>((F[q]?).bind fun x=>F.findIdx? (·=step x b)).getD 0,fun q=>((F[q]?).map fin).getD false⟩
structure NA(step:K→Nat→K)(F:List K):Prop where
 nd:F.Nodup
 pos:1≤F.length
 cl:∀x∈F,∀b,b<256→step x b∈F
omit [DecidableEq K]in
theorem JH{F:List K}(a:F.Nodup){t u:Nat}{x:K}(f:F[t]?=some x)(g:F[u]?=some x):t=u:=by
 have⟨b,c⟩:=X_.1 f;have⟨d,e⟩:=X_.1 g;rcases Nat.lt_trichotomy t u with h | h | h
 ·exact absurd (c.trans e.symm) (Ya6.1 a t u b d h)
 ·exact h
 ·exact absurd (e.trans c.symm) (Ya6.1 a u t d b h)
theorem QB{x:K}(h:x∈F):∃i,F.findIdx? (·=x)=some i∧F[i]?=some x:=by
 cases a:F.findIdx? (·=x)with
 | none=>rw[List.findIdx?_eq_none_iff]at a;have:=a x h;simp at this
 | some i=>
   obtain⟨b,c,-⟩:=List.findIdx?_eq_some_iff_getElem.1 a;exact⟨i,rfl,by rw[List.getElem?_eq_getElem b];simpa using c⟩
theorem Pv(h:NA step F){q b:Nat}{x:K}(a:F[q]?=some x)(c:b<256):F[(paF step fin F).st q b]?=some (step x b):=by
 have⟨i,d,f⟩:=QB (h.cl x (d_ a) b c);have e:(paF step fin F).st q b=i:=by
  show((F[q]?).bind fun x=>F.findIdx? (·=step x b)).getD 0=i;rw[a];show(F.findIdx? (·=step x b)).getD 0=i;rw[d];rfl
 rw[e];exact f
theorem SP{q:Nat}{x:K}(a:F[q]?=some x):(paF step fin F).fi q=fin x:=by
 show((F[q]?).map fin).getD false=fin x;rw[a];rfl
theorem XT(h:NA step F):(paF step fin F).Ok:=⟨h.pos,fun q b a c=>by
 have⟨x,d⟩:=Am (l:=F) (k:=q) a;exact(X_.1 (Pv (fin:=fin) h d c)).1⟩
theorem LF{most:Nat}{start:K}(c:1≤most)(h:EA most step start=some F):NA step F∧F[0]?=some start∧F.length≤most:=by
 have⟨m,n,p,r⟩:=Mo c h;refine⟨⟨p,m,?_⟩,r,n⟩;unfold EA at h;cases hd:Gj most step (Al6 256) start with
 | none=>rw[hd]at h;cases h
 | some z=>
   have⟨G,rows⟩:=z;rw[hd]at h;simp only[Option.map_some,AlH.injEq]at h;subst h;have d:=MR c G.length G rows (OP c hd) fun j u=>u;intro x w b f;have⟨q,g⟩:=List.getElem?_of_mem w;have⟨row,a⟩:=Am (l:=rows) (k:=q) (by rw[d.rl];exact(X_.1 g).1);have e:=d.cols row (d_ a);have⟨t,y⟩:=Am (l:=row) (k:=b) (by rw[e];simpa using f);exact d_ (d.ok q b row b t x a (List.getElem?_range f) y g)
end
structure IsPA(o:Option AM)(d:PA):Prop where
 n:e_ o=d.n
 st:∀q b:Nat,q<d.n→b<256→Ar o (q:Int) b=(d.st q b:Int)
 fi:∀q:Nat,q<d.n→AG o (q:Int)=d.fi q
noncomputable def Gk(b:Int)(a:O_):Except Int PA:=match D8 a b with
 | .error e=>.error e
 | .ok F=>.ok (paF (Bj a) (fun X=>decide (a.fin∈X)) F)
def UE(d1 d2:PA)(x:Nat×Nat)(c:Nat):Nat×Nat:=if c<256 then(d1.st x.1 c,d2.st x.2 c)else x
def prN(d1 d2:PA)(m:Nat):Option (List (Nat×Nat)):=EA m (UE d1 d2) (0,0)
def endQ(ends:Bool→Bool→Bool)(d1 d2:PA)(x:Nat×Nat):Bool:=ends (d1.fi x.1) (d2.fi x.2)
def prX(b:Int)(ends:Bool→Bool→Bool)(d1 d2:PA):Except Int PA:=if b<1∨4096<b then .error 2 else match prN d1 d2 b.toNat with
 | none=>.error 40
 | some F=>.ok (paF (UE d1 d2) (endQ ends d1 d2) F)
noncomputable def N1(b:Int)(x:Nat×Except Int BR):Nat×Except Int PA:=BN x fun A s=>if 65536<A.u then(s,.error 40)else match Gk b ⟨A.u,A.p,A.q,A.es⟩with
 | .error e=>(s,.error e)
 | .ok d=>(max s d.n,.ok d)
noncomputable def MY(b:Int)(ends:Bool→Bool→Bool)(f g:Nat→Nat×Except Int PA)(s:Nat):Nat×Except Int O_:=BN (f s) fun d1 s1=>BN (g s1) fun d2 s2=>match prX b ends d1 d2 with
 | .error e=>(s2,.error e)
 | .ok d=>(max s2 d.n,.ok (Fl d))
noncomputable def Cu(b:Int):ReM→Nat→Nat→Nat×Except Int BR
 | .eps,n,s=>(s,.ok ⟨n,n+1,2,[Ca n (n+1)]⟩)
 | .cls t,n,s=>(s,.ok ⟨n,n+1,2,[HS n (n+1) t]⟩)
 | .cat x y,n,s=>BN (Cu b x n s) fun A s1=>BN (Cu b y (n+A.u) s1) fun C s2=>(s2,.ok (catR A C))
 | .alt x y,n,s=>BN (Cu b x (n+1) s) fun A s1=>BN (Cu b y (n+1+A.u) s1) fun C s2=>(s2,.ok (altR n A C))
 | .star x,n,s=>BN (Cu b x (n+1) s) fun A s1=>(s1,.ok (AcX n A))
 | .and_ x y,n,s=>R1 (MY b andB (fun s=>N1 b (Cu b x 0 s)) (fun s=>N1 b (Cu b y 0 s)) s) n
 | .minus x y,n,s=>R1 (MY b outB (fun s=>N1 b (Cu b x 0 s)) (fun s=>N1 b (Cu b y 0 s)) s) n
noncomputable def DX(b:Int)(r:ReM)(s:Nat):Nat×Except Int PA:=N1 b (Cu b r 0 s)
theorem OQ{b:Int}{a:O_}{d:PA}(h:Gk b a= .ok d):∃F,D8 a b= .ok F∧d=paF (Bj a) (fun X=>decide (a.fin∈X)) F∧NA (Bj a) F∧F[0]?=some (Kh a)∧d.Ok∧(d.n:Int)≤b∧d.n≤4096:=by
 unfold Gk at h;cases hd:D8 a b with
 | error e=>rw[hd]at h;cases h
 | ok F=>
   rw[hd]at h;injection h with h
   obtain⟨m,rfl,f,k,g⟩:=L2 hd;have⟨c,j,l⟩:=LF f g;subst h;exact⟨F,rfl,rfl,c,j,XT c,by show(F.length:Int)≤(m:Int);omega,by show F.length≤4096;omega⟩
theorem WS{b:Int}{a:O_}{e:Int}(h:Gk b a= .error e):D8 a b= .error e∧e≠0:=by
 unfold Gk at h;cases hd:D8 a b with
 | error c=>rw[hd]at h;injection h with h;subst h;exact⟨rfl,(Mm hd).1⟩
 | ok F=>rw[hd]at h;cases h
theorem SQ{b:Int}{ends:Bool→Bool→Bool}{a c d:PA}(h:prX b ends a c= .ok d):∃F,prN a c b.toNat=some F∧d=paF (UE a c) (endQ ends a c) F∧NA (UE a c) F∧F[0]?=some (0,0)∧d.Ok∧(d.n:Int)≤b∧d.n≤4096∧1≤b∧b≤4096:=by
 unfold prX at h;split at h
 ·cases h
 ·rename_i g;cases hd:prN a c b.toNat with
  | none=>rw[hd]at h;cases h
  | some F=>
    rw[hd]at h;injection h with h
    have⟨e,f,j⟩:=LF (by omega) hd;subst h;exact⟨F,rfl,rfl,e,f,XT e,by show(F.length:Int)≤b;omega,by show F.length≤4096;omega,by omega,by omega⟩
theorem Bt{σ α β:Type}{x:σ×Except Int α}{f:α→σ→σ×Except Int β}{s:σ}{e:Int}(h:BN x f=(s,.error e)):x=(s,.error e)∨∃b a,x=(b,.ok a)∧f a b=(s,.error e):=by
 have⟨b,r⟩:=x;cases r with
 | error c=>
   have h:((b,.error c):σ×Except Int β)=(s,.error e):=h;cases h;exact .inl rfl
 | ok a=>exact .inr ⟨b,a,rfl,h⟩
theorem Yv{b:Int}{ends:Bool→Bool→Bool}{f g:Nat→Nat×Except Int PA}{s p:Nat}{N:O_}(h:MY b ends f g s=(p,.ok N)):∃j a k c d,f s=(j,.ok a)∧g j=(k,.ok c)∧prX b ends a c= .ok d∧N=Fl d∧p=max k d.n:=by
 have⟨j,a,q,r⟩:=DW h;have⟨k,c,t,l⟩:=DW r;cases m:prX b ends a c with
 | error e=>simp only[m]at l;cases l
 | ok d=>simp only[m]at l;cases l;exact⟨j,a,k,c,d,q,t,m,rfl,rfl⟩
theorem TW{b:Int}{x:Nat×Except Int BR}{g:Nat}{d:PA}(h:N1 b x=(g,.ok d)):∃c A,x=(c,.ok A)∧A.u≤65536∧Gk b ⟨A.u,A.p,A.q,A.es⟩= .ok d∧g=max c d.n:=by
 have⟨c,A,j,a⟩:=DW h;split at a
 ·cases a
 ·rename_i k;cases f:Gk b ⟨A.u,A.p,A.q,A.es⟩with
  | error e=>simp only[f]at a;cases a
  | ok d=>simp only[f]at a;cases a;exact⟨c,A,j,by omega,f,rfl⟩
theorem UZ{b:Int}{r:ReM}{s a:Nat}{d:PA}(h:DX b r s=(a,.ok d)):d.Ok∧(d.n:Int)≤b∧d.n≤4096:=by
 have⟨j,A,k,l,c,m⟩:=TW h;obtain⟨F,-,-,-,-,e,f,g⟩:=OQ c;exact⟨e,f,g⟩
end
section
variable{B:Nat→Prop}{H0 H:Aa}{rest:List Pc}{bb n:Nat}{v sub:v_}{er:Int}
end
section
variable{B:Nat→Prop}{H0 H:Aa}{rest:List Pc}{bb n:Nat}{v sub:v_}{er:Bool}
end
abbrev pe(x:v_):List PanicEntry:=[{v:=x,recovered:=false}]
def T5(R E:v_→Aa→Prop):Ending→Aa→Prop
 | .returned v,H=>R v H
 | .panicked c,H=>∃x,c=pe x∧E x H
 | .outgrown,_=>False
theorem T5.mono{R R' E E':v_→Aa→Prop}{e:Ending}{H:Aa}(h:T5 R E e H)(a:∀v H,R v H→R' v H)(b:∀v H,E v H→E' v H):T5 R' E' e H:=by
 cases e with
 | returned v=>exact a v H h
 | panicked c=>have⟨x,d,f⟩:=h;exact⟨x,d,b x H f⟩
 | outgrown=>exact h
def Ay(P:w_)(f:FuncId)(args:Array v_)(H:Aa)(R E:v_→Aa→Prop):Prop:=
 ∀w:y_,w.heap=H→(callFunc f args).run P w= .ok (.enter f args) w∧Calls P f args w fun e w'=>Y_ w w'∧T5 R E e w'.heap
theorem Ay.mono{P:w_}{f:FuncId}{a:Array v_}{H:Aa}{R R' E E':v_→Aa→Prop}(h:Ay P f a H R E)(c:∀v H,R v H→R' v H)(d:∀v H,E v H→E' v H):Ay P f a H R' E':=fun w b=>
 ⟨(h w b).1,(h w b).2.mono fun e k ⟨g,j⟩=>⟨g,j.mono c d⟩⟩
theorem Al.pan{P:w_}{f:FuncId}{a:Array v_}{H:Aa}{R E:v_→Aa→Prop}(h:Al P f a H R):Ay P f a H R E:=fun w b=>
 ⟨(h w b).1,(h w b).2.mono fun e j ⟨v,c,d,g⟩=>by subst c;exact⟨d,g⟩⟩
structure Ab(P:w_)(f:FuncId)(args:Array v_)(H:Aa)(K E:v_→Aa→Prop):Prop where
 in_::
 out_:Ay P f args H K E
theorem Ab.mk{P:w_}{f:FuncId}{a:Array v_}{H:Aa}{K R E E':v_→Aa→Prop}(h:Ay P f a H R E')(k:∀v H',R v H'→K v H')(e:∀v H',E' v H'→E v H'):Ab P f a H K E:=
 ⟨h.mono k e⟩
theorem Ab.of{P:w_}{f:FuncId}{a:Array v_}{H:Aa}{K E:v_→Aa→Prop}(h:Aj P f a H K):Ab P f a H K E:=⟨h.out_.pan⟩
structure AtX(ds:List Deferred)(fr:Fr)(a:Act):Prop where
 tmps:a.tmps.toList=fr
 defers:a.defers=ds
theorem AtX.at_{fr:Fr}{a:Act}(h:AtX [] fr a):At fr a:=⟨h.tmps,h.defers⟩
theorem AtX.bare{ds:List Deferred}{fr:Fr}{a:Act}(h:AtX ds fr a):At fr {tmps:=a.tmps,defers:=[]}:=⟨h.tmps,rfl⟩
theorem AtX.evalF{ds:List Deferred}{fr:Fr}{a:Act}(h:AtX ds fr a):a.eval=evF fr:=by
 rw[←h.bare.evalF];funext x;cases x<;>rfl
theorem AtX.put{ds:List Deferred}{fr:Fr}{a:Act}(h:AtX ds fr a)(b:Option Tmp)(v:v_):AtX ds (match b with | none=>fr | some d=>fr.set d v) (a.put b v):=by
 obtain⟨rfl,c⟩:=h;cases b with
 | none=>exact⟨rfl,c⟩
 | some d=>exact⟨by simp[Act.put],c⟩
theorem Ab5{a:Act}{b:Option Tmp}{v c:v_}(h:({tmps:=a.tmps,defers:=[]}:Act).put b v=({tmps:=a.tmps,defers:=[]}:Act).put b c):a.put b v=a.put b c:=by
 cases b with
 | none=>rfl
 | some d=>
   have:=congrArg Act.tmps h;simp only[Act.put]at this ⊢;rw[this]
def Wi(P:w_)(o:Oper)(a:Act)(w:y_)(K E:v_→Aa→Prop):Prop:=
 ∀Q:Exit→Act→y_→Prop,(∀x w',Y_ w w'→E x w'.heap→Q (.panic (pe x)) a w')→o.wp P a w (fun a' w'=>∃v,a'=a.put o.dst v∧Y_ w w'∧K v w'.heap) Q
theorem AeU{P:w_}{o:Oper}{a:Act}{w:y_}{K E:v_→Aa→Prop}(h:RQ P o {tmps:=a.tmps,defers:=[]} w K):Wi P o a w K E:=by
 intro Q _;have b:=h (fun e _ w=>Q e a w);unfold Oper.wp at b ⊢;have q:({tmps:=a.tmps,defers:=[]}:Act).eval=a.eval:=by funext x;cases x<;>rfl
 rw[q]at b;revert b;generalize (execOp a.eval o).run P w=r;intro b;cases r with
 | ok nx t=>
   cases nx with
   | value v=>
     have⟨k,e,g,j⟩:=b;exact⟨k,Ab5 e,g,j⟩
   | skip=>
     have⟨k,e,g,j⟩:=b;exact⟨k,Ab5 e,g,j⟩
   | defer d=>
     have⟨k,e,g,j⟩:=b;have:=congrArg Act.defers e;cases l:o.dst<;>rw[l]at this<;>simp[Act.put]at this
   | enter f m=>
     refine Calls.mono b ?_;intro e n g;cases e with
     | returned v=>
       have⟨k,e,j,p⟩:=g;exact⟨k,Ab5 e,j,p⟩
     | panicked c=>exact g
     | outgrown=>obtain⟨_,w,j⟩:=g;exact⟨a,w,j⟩
   | row row m=>
     refine Rows.mono b ?_;intro v n g;have⟨k,e,j,p⟩:=g;exact⟨k,Ab5 e,j,p⟩
   | _=>exact b.elim
 | halt s t=>
   cases s<;>first | exact b | exact b.elim
def W7(P:w_)(f:v_)(args:List v_)(H:Aa)(K E:v_→Aa→Prop):Prop:=
 match f with
 | .func (.func g) first cap=>Ab P g (first.toList++args++cap.toList).toArray H K E
 | _=>False
def Re(P:w_)(o:Oper)(fr:Fr)(H:Aa)(K:v_→Aa→Prop)(E:Fr→v_→Aa→Prop):Prop:=
 match o.op with
 | .panic x=>U' fr x fun v=>match v with
   | .iface t y=>E fr (.iface t y) H
   | _=>False
 | .call {callee:=.value f,args, .. }=>U' fr f fun g=>HG fr args.toList fun vs=>W7 P g vs H K (E fr)
 | _=>opK P false (fun _=>True) o fr H K
theorem Ab.out{P:w_}{f:FuncId}{a:Array v_}{H:Aa}{K E:v_→Aa→Prop}(h:Ab P f a H K E):Ay P f a H K E:=by exact h.out_
theorem Fp{P:w_}{o:Oper}{ds:List Deferred}{fr:Fr}{a:Act}{w:y_}{K:v_→Aa→Prop}{E:Fr→v_→Aa→Prop}(j:AtX ds fr a)(h:Re P o fr w.heap K E):Wi P o a w K (E fr):=by
 unfold Re at h;split at h
 ·rename_i x l;rw[HF]at h;split at h
  ·rename_i t y m;intro Q n;have:(execOp a.eval o).run P w= .halt (.panic (.iface t y)) w:=by
    rw[j.evalF];simp only[execOp,l,m];simp[Instr.panic,goPanic]
   unfold Oper.wp;rw[this];exact n _ w (Y_.refl w) h
  ·exact h.elim
 ·rename_i f b k l;simp only[HF,Im,←Yac]at h;unfold W7 at h;split at h
  ·rename_i g first cap r
   intro Q n;have e:(first.toList++(AlN (evF fr) b).toList++cap.toList).toArray=first++AlN (evF fr) b++cap:=Array.ext' (by simp)
   have p:=h.out;rw[e]at p;have u:(execOp a.eval o).run P w=(callFunc g (first++AlN (evF fr) b++cap)).run P w:=by
    rw[j.evalF];simp only[execOp,l,resolve,r,Deferred.ofValue];simp[invoke]
   unfold Oper.wp;rw[u,(p w rfl).1];refine(p w rfl).2.mono ?_;intro e z ⟨d,q⟩;cases e with
   | returned v=>exact⟨v,rfl,d,q⟩
   | panicked c=>
     obtain⟨x,rfl,m⟩:=q;exact n x z d m
   | outgrown=>exact q.elim
  ·exact h.elim
 ·exact AeU (Cc j.bare h)
def Pd(P:w_)(o:Oper)(want:Bool)(t:Nat)(fr:Fr)(H:Aa)(K:Fr→Aa→Prop)(E:Fr→v_→Aa→Prop):Prop:=
 rdK fr t fun v=>match v with
  | .bool b=>Ag b
    (wrK fr t (.bool true) fun fr1=>match want with
     | true=>Re P o fr1 H (fun v H'=>Ck o.dst fr1 v fun fr'=>apK K fr' H') E
     | false=>Ck o.dst fr1 undef fun fr'=>apK K fr' H)
    (wrK fr t (.bool false) fun fr1=>match want with
     | false=>Re P o fr1 H (fun v H'=>Ck o.dst fr1 v fun fr'=>apK K fr' H') E
     | true=>Ck o.dst fr1 undef fun fr'=>apK K fr' H)
  | .tuple _=>Ck o.dst fr undef fun fr'=>apK K fr' H
  | _=>False
def KY(P:w_)(all:List Oper)(E:Fr→v_→Aa→Prop)(l:List Oper):Fr→Aa→(Fr→Aa→Prop)→Prop:=
 List.rec (motive:=fun _=>Fr→Aa→(Fr→Aa→Prop)→Prop) (fun fr H K=>K fr H) (fun o _ ih fr H K=>
  match o.guard with
  | none=>Re P o fr H (fun v H'=>Ck o.dst fr v fun fr'=>ih fr' H' K) E
  | some (j,want)=>match(all[j]?).bind (·.dst)with
    | none=>False
    | some t=>Pd P o want t fr H (fun fr' H'=>ih fr' H' K) E) l
theorem SO(P:w_)(all rest:List Oper)(o:Oper)(E:Fr→v_→Aa→Prop)(fr:Fr)(H:Aa)(K:Fr→Aa→Prop):KY P all E (o::rest) fr H K=
  (match o.guard with
  | none=>Re P o fr H (fun v H'=>Ck o.dst fr v fun a=>KY P all E rest a H' K) E
  | some (j,want)=>match(all[j]?).bind (·.dst)with
    | none=>False
    | some t=>Pd P o want t fr H (fun a H'=>KY P all E rest a H' K) E):=rfl
theorem Zb{c:List Oper}{ds:List Deferred}{fr:Fr}{a:Act}(d:AtX ds fr a){j t:Nat}(e:(c[j]?).bind (·.dst)=some t){b:Bool}(f:rd fr t= .bool b):yielded c.toArray a.tmps j=some b:=
 Hg d.bare e f
theorem RL{b:List Oper}{ds:List Deferred}{fr:Fr}{a:Act}(c:AtX ds fr a){j t:Nat}(d:(b[j]?).bind (·.dst)=some t){vs:Array v_}(e:rd fr t= .tuple vs):yielded b.toArray a.tmps j=none:=
 Hh c.bare d e
theorem HN{P:w_}{all:List Oper}{ds:List Deferred}{E:Fr→v_→Aa→Prop}{Q:Exit→Act→y_→Prop}{w0:y_}(n:∀x fr a' f,AtX ds fr a'→Y_ w0 f→E fr x f.heap→Q (.panic (pe x)) a' f):∀(l:List Oper) (fr:Fr) (a:Act) (w:y_) (K:Fr→Aa→Prop),AtX ds fr a→Y_ w0 w→
  (∀d a' f,AtX ds d a'→Y_ w0 f→K d f.heap→Q .normal a' f)→
  KY P all E l fr w.heap K→wpList P all.toArray Q l a w
 | [],fr,a,w,K,hat,he,hq,h=>hq fr a w hat he h
 | o::l,fr,a,w,K,hat,he,hq,h=>by
   have go:∀(c:Bool),(c=true→Wi P o a w (fun v H'=>Ck o.dst fr v fun d=>KY P all E l d H' K) (E fr))→
     (c=false→Ck o.dst fr undef fun d=>KY P all E l d w.heap K)→
     Region.wanted o (yielded all.toArray a.tmps)=c→wpList P all.toArray Q (o::l) a w:=by
    intro c u y z;unfold wpList;rw[z];cases c with
    | true=>
      refine .inl (Oper.wp_mono ?_ (u rfl _ fun x f e A=>n x fr a f hat (he.trans e) A));rintro a' f ⟨v,rfl,e,p⟩;rw[Bi]at p;exact HN n l _ _ _ K (hat.put o.dst v) (he.trans e) hq p
    | false=>
      have q:=y rfl;rw[Bi]at q;exact HN n l _ _ _ K (hat.put o.dst undef) he hq q
   rw[SO]at h;split at h
   ·rename_i g;exact go true (fun _=>Fp hat h) (fun h=>by cases h) (by simp[Region.wanted,g])
   ·rename_i j c g;split at h
    ·exact h.elim
    ·rename_i t r;unfold Pd at h;simp only[apK]at h;rw[Dk]at h;split at h
     ·rename_i b k;have m:=Zb hat r k;have hs:fr.set t (.bool b)=fr:=D5 k (by simp[undef]);cases b<;>cases c<;>simp only[Ag,EG,hs]at h
      ·exact go true (fun _=>Fp hat h) (fun h=>by cases h) (by simp[Region.wanted,g,m])
      ·exact go false (fun h=>by cases h) (fun _=>h) (by simp[Region.wanted,g,m])
      ·exact go false (fun h=>by cases h) (fun _=>h) (by simp[Region.wanted,g,m])
      ·exact go true (fun _=>Fp hat h) (fun h=>by cases h) (by simp[Region.wanted,g,m])
     ·rename_i vs k;exact go false (fun h=>by cases h) (fun _=>h) (by simp[Region.wanted,g,RL hat r k])
     ·exact h.elim
def Tz(E:Fr→v_→Aa→Prop)(l:List Oper):Prop:=∀o∈l,∀d,o.dst=some d→∀fr v x H,E (fr.set d v) x H→E fr x H
theorem AQ(E:v_→Aa→Prop)(l:List Oper):Tz (fun _=>E) l:=fun _ _ _ _ _ _ _ _ h=>h
structure AE(P:w_)(ds:List Deferred)(l:List Oper)(fr:Fr)(H:Aa)(K:Fr→Aa→Prop)(E:Fr→v_→Aa→Prop):Prop where
 in_::
 out_:∀(id:Nat) (Q:Exit→Act→y_→Prop) (a:Act) (w:y_),AtX ds fr a→w.heap=H→(∀x fr a' w',AtX ds fr a'→Y_ w w'→E fr x w'.heap→Q (.panic (pe x)) a' w')→
  (Tz E l→∀c,∀o∈l,∀v a w,Q (.panic c) (a.put o.dst v) w→Q (.panic c) a w)→
  (∀fr' a' w',AtX ds fr' a'→Y_ w w'→K fr' w'.heap→Q .normal a' w')→(Code.region id l.toArray true).wp P Q a w
theorem AE.of{P:w_}{l:List Oper}{fr:Fr}{H:Aa}{K:Fr→Aa→Prop}{E:Fr→v_→Aa→Prop}(h:Au P l fr H K):AE P [] l fr H K E:=by
 refine⟨fun id Q a w b g _ _ j=>?_⟩;refine Code.wp_mono (Q:=fun e a w=>Q e a w∧∀c,e≠ .panic c) (fun e a w h=>h.1) ?_;exact h.out id _ a w b.at_ g (fun c a w h=>h.2 c rfl) fun d a' k f m n=>⟨j d a' k ⟨f.tmps,f.defers⟩ m n,fun c=>by simp⟩
def Zai(P:w_)(S:Nat→Prop)(Z:List Nat)(H0:Aa)(all:List Oper)(E:Fr→v_→Aa→Prop)(i:Nat)(fr:Fr)(H:Aa)(next:Fr→Aa→Prop):Prop:=
 match all[i]? with
 | none=>False
 | some o=>match o.guard with
   | some _=>False
   | none=>match Z.contains i with
     | true=>Re P o fr H (fun v H'=>Ck o.dst fr v fun fr'=>next fr' H') E
     | false=>Re P o fr H (fun v H'=>A_ S H0 H'∧Ck o.dst fr v fun fr'=>next fr' H') E
def Uc(P:w_)(S:Nat→Prop)(Z:List Nat)(H0:Aa)(all:List Oper)(E:Fr→v_→Aa→Prop)(s:Sch):Fr→Aa→(Fr→Aa→Prop)→Prop:=
 Sch.rec (motive:=fun _=>Fr→Aa→(Fr→Aa→Prop)→Prop) (fun fr H K=>K fr H)
  (fun i _ ih fr H K=>match all[i]? with
   | none=>False
   | some o=>match o.guard with
     | some _=>False
     | none=>match I7 o&&Eg P o with
       | true=>Jw P S o fr H fun v=>Ck o.dst fr v fun fr'=>ih fr' H K
       | false=>False)
  (fun i _ ih fr H K=>Zai P S Z H0 all E i fr H fun fr' H'=>ih fr' H' K)
  (fun i _ j _ ih ih' fr H K=>(Zai P S Z H0 all E i fr H fun fr' H'=>ih fr' H' K)∧Zai P S Z H0 all E j fr H fun fr' H'=>ih' fr' H' K) s
theorem ZZ(P:w_)(S:Nat→Prop)(Z:List Nat)(H0:Aa)(all:List Oper)(E:Fr→v_→Aa→Prop)(i:Nat)(s:Sch)(fr:Fr)(H:Aa)(K:Fr→Aa→Prop):Uc P S Z H0 all E (.q i s) fr H K=
  (match all[i]? with
   | none=>False
   | some o=>match o.guard with
     | some _=>False
     | none=>match I7 o&&Eg P o with
       | true=>Jw P S o fr H fun v=>Ck o.dst fr v fun a=>Uc P S Z H0 all E s a H K
       | false=>False):=rfl
theorem HW{P:w_}{S:Nat→Prop}{Z:List Nat}{w0:y_}{all:List Oper}{ds:List Deferred}{E:Fr→v_→Aa→Prop}{Q:Exit→Act→y_→Prop}(p:∀x fr a' c,AtX ds fr a'→Y_ w0 c→E fr x c.heap→Q (.panic (pe x)) a' c){i:Nat}{fr:Fr}{a:Act}{w:y_}{next:Fr→Aa→Prop}{N:Act→y_→Prop}
  (d:AtX ds fr a) (f:Y_ w0 w) (h:Zai P S Z w0.heap all E i fr w.heap next)
  (q:∀g a' c,AtX ds g a'→Y_ w0 c→(Z.contains i=false→Cls w0 S c)→next g c.heap→N a' c):wpOp P all.toArray Q i N a w:=by
 unfold Zai at h;split at h
 ·exact h.elim
 ·rename_i o r;have m:all.toArray[i]?=some o:=by simpa using r
  split at h
  ·exact h.elim
  ·rename_i t;have e:Region.wanted o (yielded all.toArray a.tmps)=true:=by simp[Region.wanted,t]
   unfold wpOp;rw[m];dsimp only;rw[I_ e];split at h
   ·rename_i u;refine .inl (Oper.wp_mono ?_ (Fp d h _ fun x c b n=>p x fr a c d (f.trans b) n));rintro a' c ⟨v,rfl,b,j⟩;rw[Bi]at j;exact q _ _ _ (d.put o.dst v) (f.trans b) (fun k=>by rw[u]at k;cases k) j
   ·refine .inl (Oper.wp_mono ?_ (Fp d h _ fun x c b n=>p x fr a c d (f.trans b) n));rintro a' c ⟨v,rfl,b,l,j⟩;rw[Bi]at j;exact q _ _ _ (d.put o.dst v) (f.trans b) (fun _=>⟨f.trans b,l⟩) j
theorem SW(a:Act)(b:Option Tmp)(v:v_):(a.put b v).defers=a.defers:=by cases b<;>rfl
theorem Ep{P:w_}{S:Nat→Prop}{Z:List Nat}{w0:y_}{all:List Oper}{ds:List Deferred}{E:Fr→v_→Aa→Prop}{Q:Exit→Act→y_→Prop}(hs:Region.noSelect all.toArray=true)
  (z:∀x fr a' m,AtX ds fr a'→Y_ w0 m→E fr x m.heap→Q (.panic (pe x)) a' m) (n:∀c,∀o∈all,∀v a w,Q (.panic c) (a.put o.dst v) w→Q (.panic c) a w):∀(l:Sch) (d:Array Bool) (fr:Fr) (a:Act) (w:y_) (K:Fr→Aa→Prop),AtX ds fr a→Y_ w0 w→(Ls Z l=false→Cls w0 S w)→Zaf all.toArray d→
  (∀p a' m,AtX ds p a'→Y_ w0 m→K p m.heap→Q .normal a' m)→BZ all.toArray Z l d=true→l.even=true→
  Uc P S Z w0.heap all E l fr w.heap K→Ig P all.toArray Q (Cls w0 S) Z l.len d a w
 | .e,d,fr,a,w,K,hat,he,_,_,hq,hB,_,h=>⟨by simpa [BZ]using hB,hq fr a w hat he h⟩
 | .q i s,d,fr,a,w,K,hat,he,A,hsh,hq,hB,hev,h=>by
   have A:=A rfl;simp only[BZ,h_,Yap,Ycc]at hB;obtain⟨⟨⟨⟨B,g⟩,U⟩,V⟩,r⟩:=hB;rw[ZZ]at h;split at h
   ·exact h.elim
   ·rename_i o T;have D:all.toArray[i]?=some o:=by simpa using T
    have F:i∈Region.ready .any all.toArray d:=by simpa using B
    split at h
    ·exact h.elim
    ·rename_i W;have C:Region.wanted o (yielded all.toArray a.tmps)=true:=by simp[Region.wanted,W]
     split at h
     ·have⟨v,X,t⟩:=C2 h;rw[Bi]at t;refine Dc (v:=v) (f:=all.toArray.size) D (Region.noSelect_spec hs) (fun c a' m Y=>n c o (d_ T) v a' m Y) U (fun j G=>V j (by simpa using G)) s.len d a w hsh (Region.free_spec D g) F
       (.inl ⟨C,fun m N=>?_⟩) A ?_
      ·rw[hat.evalF];exact X m fun k t=>(N.2 k t).trans (A.2 k t).symm
      ·exact Ep hs z n s _ _ _ w K (hat.put o.dst v) he (fun _=>A) (hsh.put F) hq r hev t
     ·exact h.elim
 | .f i s,d,fr,a,w,K,hat,he,A,hsh,hq,hB,hev,h=>by
   simp only[BZ,h_,Yar,Yap,beq_iff_eq]at hB;obtain⟨⟨B,g⟩,r⟩:=hB;refine⟨(fun H=>by rw[B]at H;cases H),fun j G=>?_⟩;have O:=G;rw[B]at G;obtain rfl:j=i:=by simpa using G
   refine HW z hat he h fun p a' m I J u L=>⟨u,Ep hs z n s _ _ _ m K I J (fun y=>?_) (hsh.put O) hq r hev L⟩;rcases g with g | g
   ·exact u g
   ·rw[g]at y;cases y
 | .b i s j s',d,fr,a,w,K,hat,he,A,hsh,hq,hB,hev,h=>by
   simp only[BZ,h_,Yar,Yap,beq_iff_eq]at hB;obtain⟨⟨⟨B,g⟩,r⟩,R⟩:=hB;simp only[Sch.even,h_,beq_iff_eq]at hev;obtain⟨⟨e1,e2⟩,e3⟩:=hev;refine⟨(fun H=>by rw[B]at H;cases H),fun k t=>?_⟩;have M:=t;rw[B]at t;rcases Ybe.1 t with rfl | t
   ·refine HW z hat he h.1 fun p a' m I J u L=>⟨u,Ep hs z n s _ _ _ m K I J (fun y=>?_) (hsh.put M) hq r e1 L⟩;rcases g with g | g
    ·exact u g.1
    ·rw[g.1]at y;cases y
   ·obtain rfl:k=j:=by simpa using t
    rw[e3];refine HW z hat he h.2 fun p a' m I J u L=>⟨u,Ep hs z n s' _ _ _ m K I J (fun y=>?_) (hsh.put M) hq R e2 L⟩;rcases g with g | g
    ·exact u g.2
    ·rw[g.2]at y;cases y
theorem AE.held{P:w_}{ds:List Deferred}{l:List Oper}{fr:Fr}{H:Aa}{K:Fr→Aa→Prop}{E:Fr→v_→Aa→Prop}(S:Nat→Prop)(Z:List Nat)(b:Sch)(d:Tz E l)(m:P.follows .mixedOrders=true)
  (c:(Region.noSelect l.toArray&&(b.len==l.length)&&b.even&&BZ l.toArray Z b (AgY l.length false))=true)
  (h:Uc P S Z H l E b fr H K):AE P ds l fr H K E:=by
 refine⟨?_⟩;intro id Q a w e n p f q;subst n;simp only[h_,beq_iff_eq]at c;refine wp_region_any m (Fz (S:=Cls w S) (Z:=Z) _ _ _ _ ?_);have g:Zaf l.toArray (AgY l.length false):=fun j o _ k=>by
  rw[YbL,YbM]at k;split at k<;>simp at k
 have:=Ep (P:=P) (S:=S) (Z:=Z) (w0:=w) (Q:=Q) c.1.1.1 p (f d) b (AgY l.length false) fr a {w with drawn:=w.drawn+1} K e ⟨rfl,rfl,rfl⟩ (fun _=>⟨⟨rfl,rfl,rfl⟩,A_.refl _ _⟩) g q c.2 c.1.2 h;rw[c.1.1.2]at this;simpa using this
def Dd(ds:List Deferred)(w0:y_)(E:Fr→v_→Aa→Prop)(Q:Exit→Fr→Aa→Prop):Exit→Act→y_→Prop
 | .panic c,a,w=>∃fr,AtX ds fr a∧Y_ w0 w∧∃x,c=pe x∧E fr x w.heap
 | .outgrown,_,_=>False
 | e,a,w=>∃fr,AtX ds fr a∧Y_ w0 w∧Q e fr w.heap
structure CA(P:w_)(ds:List Deferred)(E:Fr→v_→Aa→Prop)(c:Code)(fr:Fr)(H:Aa)(X:List (Nat×(Fr→Aa→Prop)))(kr:Fr→Aa→Prop):Prop where
 in_::
 out_:∀(a:Act) (w:y_),AtX ds fr a→w.heap=H→(Code.loop c).wp P (Dd ds w E (Qx (fun _ _=>False) X kr)) a w
structure Ao(P:w_)(ds:List Deferred)(E:Fr→v_→Aa→Prop)(x y:Code)(fr:Fr)(H:Aa)(kn:Fr→Aa→Prop)(X:List (Nat×(Fr→Aa→Prop)))(kr:Fr→Aa→Prop):Prop where
 in_::
 out_:∀(a:Act) (w:y_),AtX ds fr a→w.heap=H→(Code.seq x y).wp P (Dd ds w E (Qx kn X kr)) a w
def vcP(P:w_)(ds:List Deferred)(E:Fr→v_→Aa→Prop)(c:Code):Fr→Aa→(Fr→Aa→Prop)→List (Nat×(Fr→Aa→Prop))→(Fr→Aa→Prop)→Prop:=
 Code.rec (motive:=fun _=>Fr→Aa→(Fr→Aa→Prop)→List (Nat×(Fr→Aa→Prop))→(Fr→Aa→Prop)→Prop)
  (fun fr H kn _ _=>kn fr H)
  (fun _ ops draw fr H kn _ _=>match draw with
   | false=>KY P ops.toList E ops.toList fr H kn
   | true=>AE P ds ops.toList fr H kn E)
  (fun a b iha ihb fr H kn X kr=>match Ku a with
   | true=>Ao P ds E a b fr H kn X kr
   | false=>iha fr H (fun fr' H'=>ihb fr' H' kn X kr) X kr)
  (fun c _ _ ihx ihy fr H kn X kr=>match c with
   | .tmp t=>rdK fr t fun v=>match v with
     | .bool b=>Ag b (wrK fr t (.bool true) fun fr1=>ihx fr1 H kn X kr) (wrK fr t (.bool false) fun fr1=>ihy fr1 H kn X kr)
     | _=>False
   | .const (.bool b)=>Ag b (ihx fr H kn X kr) (ihy fr H kn X kr)
   | _=>False)
  (fun id _ ih fr H kn X kr=>ih fr H kn ((id,kn)::X) kr)
  (fun c _ fr H _ X kr=>CA P ds E c fr H X kr)
  (fun _ _ _ _ _ _ _ _ _ _ _=>False)
  (fun id fr H _ X _=>NN X id fr H)
  (fun _ _ _ _ _ _ _=>False)
  (fun _ _ _ _ _ _=>False)
  (fun _ _ _ _ _ _=>False)
  (fun fr H _ _ kr=>kr fr H)
  (fun _ _ _ _ _ _=>False) c
section
variable(P:w_)(ds:List Deferred)(E:Fr→v_→Aa→Prop)(a b:Code)(fr:Fr)(H:Aa)(kn:Fr→Aa→Prop)(X:List (Nat×(Fr→Aa→Prop)))(kr:Fr→Aa→Prop)
theorem Tv(id:Nat)(a:Array Oper)(b:Bool):vcP P ds E (.region id a b) fr H kn X kr=(match b with
   | false=>KY P a.toList E a.toList fr H kn
   | true=>AE P ds a.toList fr H kn E):=rfl
theorem AbT:vcP P ds E (.seq a b) fr H kn X kr=(match Ku a with
   | true=>Ao P ds E a b fr H kn X kr
   | false=>vcP P ds E a fr H (fun c H'=>vcP P ds E b c H' kn X kr) X kr):=rfl
theorem YP(c:z_):vcP P ds E (.cond c a b) fr H kn X kr=(match c with
   | .tmp t=>rdK fr t fun v=>match v with
     | .bool x=>Ag x (wrK fr t (.bool true) fun d=>vcP P ds E a d H kn X kr) (wrK fr t (.bool false) fun d=>vcP P ds E b d H kn X kr)
     | _=>False
   | .const (.bool x)=>Ag x (vcP P ds E a fr H kn X kr) (vcP P ds E b fr H kn X kr)
   | _=>False):=rfl
theorem Wc(id:Nat):vcP P ds E (.block id a) fr H kn X kr=vcP P ds E a fr H kn ((id,kn)::X) kr:=rfl
end
theorem CA.out{P:w_}{ds:List Deferred}{E:Fr→v_→Aa→Prop}{c:Code}{fr:Fr}{H:Aa}{X:List (Nat×(Fr→Aa→Prop))}{kr:Fr→Aa→Prop}(h:CA P ds E c fr H X kr):
  ∀(a:Act) (w:y_),AtX ds fr a→w.heap=H→(Code.loop c).wp P (Dd ds w E (Qx (fun _ _=>False) X kr)) a w:=by exact h.out_
theorem Ao.out{P:w_}{ds:List Deferred}{E:Fr→v_→Aa→Prop}{x y:Code}{fr:Fr}{H:Aa}{kn:Fr→Aa→Prop}{X:List (Nat×(Fr→Aa→Prop))}{kr:Fr→Aa→Prop}(h:Ao P ds E x y fr H kn X kr):
  ∀(a:Act) (w:y_),AtX ds fr a→w.heap=H→(Code.seq x y).wp P (Dd ds w E (Qx kn X kr)) a w:=by exact h.out_
theorem Dd.env{ds:List Deferred}{w0 d:y_}{E:Fr→v_→Aa→Prop}{Q:Exit→Fr→Aa→Prop}(b:Y_ w0 d):∀{e:Exit} {a:Act} {w:y_},Dd ds d E Q e a w→Dd ds w0 E Q e a w
 | .normal,_,_,⟨fr,h1,h2,h3⟩ | .exit _,_,_,⟨fr,h1,h2,h3⟩ | .goto _,_,_,⟨fr,h1,h2,h3⟩ | .ret,_,_,⟨fr,h1,h2,h3⟩=>⟨fr,h1,b.trans h2,h3⟩
 | .panic c,_,_,⟨fr,h1,h2,h3⟩=>⟨fr,h1,b.trans h2,h3⟩
theorem Dd.mono{ds:List Deferred}{w0:y_}{E:Fr→v_→Aa→Prop}{Q Q':Exit→Fr→Aa→Prop}(b:∀e fr H,Q e fr H→Q' e fr H):∀{e:Exit} {a:Act} {w:y_},Dd ds w0 E Q e a w→Dd ds w0 E Q' e a w
 | .normal,_,_,⟨fr,h1,h2,h3⟩ | .exit _,_,_,⟨fr,h1,h2,h3⟩ | .goto _,_,_,⟨fr,h1,h2,h3⟩ | .ret,_,_,⟨fr,h1,h2,h3⟩=>⟨fr,h1,h2,b _ _ _ h3⟩
 | .panic c,_,_,h=>h
theorem K6{P:w_}{ds:List Deferred}{E:Fr→v_→Aa→Prop}{x y:Code}{kn d:Fr→Aa→Prop}{X:List (Nat×(Fr→Aa→Prop))}{kr:Fr→Aa→Prop}{a:Act}{w:y_}
  (g:x.wp P (Dd ds w E (Qx d X kr)) a w)
  (j:∀fr a' b,AtX ds fr a'→Y_ w b→d fr b.heap→y.wp P (Dd ds b E (Qx kn X kr)) a' b):(Code.seq x y).wp P (Dd ds w E (Qx kn X kr)) a w:=by
 refine wp_seq (Code.wp_mono ?_ g);intro e a' b h;cases e with
 | normal=>
   have⟨fr,k,f,m⟩:=h;exact Code.wp_mono (fun e a w h=>Dd.env f h) (j fr a' b k f m)
 | exit id=>exact h
 | goto l=>exact h
 | ret=>exact h
 | panic c=>exact h
 | outgrown=>exact h
theorem BE{P:w_}{ds:List Deferred}{E:Fr→v_→Aa→Prop}:∀(c:Code) (fr:Fr) (kn:Fr→Aa→Prop) (X:List (Nat×(Fr→Aa→Prop))) (kr:Fr→Aa→Prop) (a:Act) (w:y_),AtX ds fr a→
  vcP P ds E c fr w.heap kn X kr→c.wp P (Dd ds w E (Qx kn X kr)) a w
 | .skip,fr,kn,X,kr,a,w,hat,h=>wp_skip ⟨fr,hat,Y_.refl w,h⟩
 | .region id ops draw,fr,kn,X,kr,a,w,hat,h=>by
   rw[Tv]at h;cases draw with
   | false=>
     have:=wp_region_lit (P:=P) (id:=id) (l:=ops.toList) (HN (P:=P) (all:=ops.toList) (ds:=ds) (E:=E) (Q:=Dd ds w E (Qx kn X kr)) (w0:=w) (fun x fr a' m j k g=>⟨fr,j,k,x,rfl,g⟩) ops.toList fr a w kn hat (Y_.refl w) (fun f a' m j k g=>⟨f,j,k,g⟩) h);simpa using this
   | true=>
     have:=h.out_ id (Dd ds w E (Qx kn X kr)) a w hat rfl (fun x fr a' m j k g=>⟨fr,j,k,x,rfl,g⟩) (fun r c o D v a m h=>by
      have⟨fr2,j,k,x,g,p⟩:=h;have⟨q,z⟩:=j;rw[SW]at z;refine⟨a.tmps.toList,⟨rfl,z⟩,k,x,g,?_⟩;cases hd:o.dst with
      | none=>rw[hd]at q;rw[←q]at p;exact p
      | some d=>
        rw[hd]at q;refine r o D d hd _ v x _ ?_;rw[←q]at p;simpa [Act.put]using p) (fun f a' m j k g=>⟨f,j,k,g⟩)
     simpa using this
 | .seq x y,fr,kn,X,kr,a,w,hat,h=>by
   rw[AbT]at h;split at h
   ·exact h.out a w hat rfl
   ·exact K6 (BE x fr _ X kr a w hat h) fun f a' m j _ g=>BE y f kn X kr a' m j g
 | .cond c x y,fr,kn,X,kr,a,w,hat,h=>by
   rw[YP]at h;split at h
   ·rename_i t;rw[Dk]at h;split at h
    ·rename_i b A;have hs:fr.set t (.bool b)=fr:=D5 A (by simp[undef]);have B:a.eval (.tmp t)= .bool b:=by rw[hat.evalF];exact A
     cases b<;>simp only[Ag,EG,hs]at h
     ·exact wp_cond_false B (BE y fr kn X kr a w hat h)
     ·exact wp_cond_true B (BE x fr kn X kr a w hat h)
    ·exact h.elim
   ·rename_i b;cases b<;>simp only[Ag]at h
    ·exact wp_cond_false rfl (BE y fr kn X kr a w hat h)
    ·exact wp_cond_true rfl (BE x fr kn X kr a w hat h)
   ·exact h.elim
 | .block id c,fr,kn,X,kr,a,w,hat,h=>by
   rw[Wc]at h;refine wp_block (Code.wp_mono ?_ (BE c fr kn _ kr a w hat h));intro e a' m h;cases e with
   | exit u=>
     have⟨f,j,k,g⟩:=h;simp only[Qx,NN]at g;simp only[Exit.inBlock];split at g
     ·rename_i n;have:=Nat.eq_of_beq_eq_true n;rw[I_ this.symm];exact⟨f,j,k,g⟩
     ·rename_i n;have:id≠u:=Nat.ne_of_beq_eq_false n;rw[G_ (Ne.symm this)];exact⟨f,j,k,g⟩
   | normal=>exact h
   | goto l=>exact h
   | ret=>exact h
   | panic c=>exact h
   | outgrown=>exact h
 | .loop c,fr,kn,X,kr,a,w,hat,h=>Code.wp_mono (fun e a w=>Dd.mono fun e fr H C=>by
   cases e<;>first | exact C | exact C.elim) (h.out a w hat rfl)
 | .exit id,fr,kn,X,kr,a,w,hat,h=>wp_exit ⟨fr,hat,Y_.refl w,h⟩
 | .ret,fr,kn,X,kr,a,w,hat,h=>wp_ret ⟨fr,hat,Y_.refl w,h⟩
 | .rangeFunc ..,_,_,_,_,_,_,_,h=>h.elim
 | .scope _,_,_,_,_,_,_,_,h=>h.elim
 | .label _,_,_,_,_,_,_,_,h=>h.elim
 | .goto _,_,_,_,_,_,_,_,h=>h.elim
 | .refuse _,_,_,_,_,_,_,_,h=>h.elim
theorem CA.mk{P:w_}{ds:List Deferred}{E:Fr→v_→Aa→Prop}{c:Code}{fr:Fr}{H:Aa}{X:List (Nat×(Fr→Aa→Prop))}{kr:Fr→Aa→Prop}{α:Type}(ts:List Nat)(enc:α→List v_)(I:α→Aa→Prop)(m:α→Aa→Nat)
  (M:P3 fr ts fun vs=>∃x,vs=enc x∧I x H)
  (K:∀(x:α) (H1:Aa) (k:Nat→v_),I x H1→GR k fr (Hf c []) fun t=>Tx t ts (enc x) fun f=>
   vcP P ds E c f H1 (fun d H'=>I9 (Hf c []) fr d (P3 d ts fun vs=>∃y,vs=enc y∧I y H'∧m y H'<m x H1)) X kr):CA P ds E c fr H X kr:=by
 generalize Hf c []=ws at K;refine⟨?_⟩;intro a w u N;subst N;have p:=M;rw[FL]at p;have⟨O,z,A⟩:=p
 let J (n:Nat) (a':Act) (w':y_):Prop:=∃d x,AtX ds d a'∧Y_ w w'∧Fj (fun _=>undef) d ws=Fj (fun _=>undef) fr ws∧ts.map (rd d)=enc x∧I x w'.heap∧m x w'.heap=n
 refine Lj J ?_ _ a w ⟨fr,O,u,Y_.refl w,rfl,z,A,rfl⟩;rintro n a1 L ⟨f,Q,q,b,B,C,D,rfl⟩;have h:=K Q L.heap (rd f) D;rw[Ct,I0,CT B,←C,GD ts f]at h;refine Code.wp_mono ?_ (BE c f _ X kr a1 L q h);intro e a2 R g;cases e with
 | normal=>
   have⟨fr2,r,j,g⟩:=g;simp only[Qx,I9,Ct,FL]at g;have⟨F,y,S,G,T⟩:=g;exact⟨m y R.heap,T,fr2,y,r,b.trans j,F,S,G,rfl⟩
 | exit id=>exact Dd.env b g
 | goto l=>exact Dd.env b g
 | ret=>exact Dd.env b g
 | panic c=>exact Dd.env b g
 | outgrown=>exact g
theorem Ao.run{P:w_}{ds:List Deferred}{E:Fr→v_→Aa→Prop}{x y:Code}{fr:Fr}{H:Aa}{kn:Fr→Aa→Prop}{X:List (Nat×(Fr→Aa→Prop))}{kr:Fr→Aa→Prop}
  (h:vcP P ds E x fr H (fun b H'=>vcP P ds E y b H' kn X kr) X kr):Ao P ds E x y fr H kn X kr:=by
 refine⟨?_⟩;intro a w c d;subst d;exact K6 (BE x fr _ X kr a w c h) fun b a' e f _ g=>BE y b kn X kr a' e f g
theorem Ao.cut{P:w_}{ds:List Deferred}{E:Fr→v_→Aa→Prop}{x y:Code}{fr:Fr}{H:Aa}{kn:Fr→Aa→Prop}{X:List (Nat×(Fr→Aa→Prop))}{kr:Fr→Aa→Prop}{α:Type}(ts:List Nat)(enc:α→List v_)(I:α→Aa→Prop)
  (h:vcP P ds E x fr H (fun c H'=>I9 (Hf x []) fr c (P3 c ts fun vs=>∃y,vs=enc y∧I y H')) X kr)
  (k:∀(z:α) (H1:Aa) (d:Nat→v_),I z H1→GR d fr (Hf x []) fun e=>Tx e ts (enc z) fun b=>vcP P ds E y b H1 kn X kr):Ao P ds E x y fr H kn X kr:=by
 generalize Hf x []=ws at h k;refine⟨?_⟩;intro a w f l;subst l;refine K6 (BE x fr _ X kr a w f h) fun b a1 g m _ j=>?_;simp only[I9,Ct,FL]at j;have⟨n,z,p,q⟩:=j;have h:=k z g.heap (rd b) q;rw[Ct,I0,CT n,←p,GD ts b]at h;exact BE y b kn X kr a1 g m h
theorem SX{P:w_}{fn:Func}{ds:List Deferred}{fr:Fr}{a:Act}{w:y_}{R:v_→Aa→Prop}(b:AtX ds fr a)(h:P7 P fn.results.toList fr w.heap R):
  ∃v,(results fn a.tmps).run P w= .ok v w∧R v w.heap:=MP (a:={tmps:=a.tmps,defers:=[]}) b.bare h
theorem Ay.of_vc{P:w_}{f:FuncId}{fn:Func}{c:Code}{a:Array v_}{H:Aa}{R E:v_→Aa→Prop}(p:P.funcs[f]?=some fn)(q:fn.body=some c)
  (j:∀w:y_,(callFunc f a).run P w= .ok (.enter f a) w)
  (h:MD (a.toList++AhM (fn.ntmps-a.size) undef) fun fr=>vcP P [] (fun _=>E) c fr H (fun k H'=>P7 P fn.results.toList k H' R) [] (fun k H'=>P7 P fn.results.toList k H' R)):
  Ay P f a H R E:=by
 intro w r;subst r;refine⟨j w,?_⟩;refine calls_of_wp p q ?_;rw[HM]at h;have n:AtX [] (a.toList++AhM (fn.ntmps-a.size) undef) {tmps:=a++AgY (fn.ntmps-a.size) undef,defers:=[]}:=⟨by simp,rfl⟩;refine Code.wp_mono ?_ (BE c _ _ _ _ _ w n h);intro e a' m b;have fin:∀fr,AtX [] fr a'→Y_ w m→P7 P fn.results.toList fr m.heap R→a'.defers=[]∧∃v,(results fn a'.tmps).run P m= .ok v m∧Y_ w m∧R v m.heap:=by
  intro fr g b d;have⟨v,t,u⟩:=SX g d;exact⟨g.defers,v,t,b,u⟩
 cases e with
 | normal=>have⟨fr,g,b,d⟩:=b;exact fin fr g b d
 | ret=>have⟨fr,g,b,d⟩:=b;exact fin fr g b d
 | exit id=>have⟨fr,g,b,d⟩:=b;exact d.elim
 | goto l=>have⟨fr,g,b,d⟩:=b;exact d.elim
 | panic c=>have⟨fr,g,d,x,y,z⟩:=b;exact⟨g.defers,d,x,y,z⟩
 | outgrown=>exact b.elim
def Ht(P:w_)(rs:List ResultVar)(fr:Fr)(H:Aa):(List v_→Prop)→Prop:=
 List.rec (motive:=fun _=>(List v_→Prop)→Prop) (fun R=>R []) (fun r _ ih R=>match r with
  | .tmp t=>rdK fr t fun v=>ih fun vs=>R (v::vs)
  | .cell a t=>rdK fr a fun p=>ldK P t p H fun v=>ih fun vs=>R (v::vs)) rs
def Rp(vs:List v_):v_:=match vs with
 | [v]=>v
 | vs=>.tuple vs.toArray
def GX(tmps:Array v_)(r:ResultVar):Sem v_:=match r with
 | .tmp t=>pure (tmps.getD t undef)
 | .cell a t=>do loadVar t (←asAddr (tmps.getD a undef))
theorem Ja{P:w_}{fr:Fr}{a:Act}{w:y_}(b:At fr a):∀(c:List ResultVar) (R:List v_→Prop),Ht P c fr w.heap R→
  ∃vs:List v_,(c.mapM (GX a.tmps)).run P w= .ok vs w∧R vs
 | [],R,h=>⟨[],by simp,h⟩
 | .tmp t::c,R,h=>by
   have e:rdK fr t (fun v=>Ht P c fr w.heap fun vs=>R (v::vs)):=h;rw[Dk]at e;have⟨vs,j,f⟩:=Ja b c _ e;have d:a.tmps.getD t undef=rd fr t:=b.eval (.tmp t);have g:(GX a.tmps (.tmp t)).run P w= .ok (rd fr t) w:=by simp[GX,d]
   refine⟨rd fr t::vs,?_,f⟩;rw[Yde,Sem.run_bind,g];simp only[Result.andThen_ok,Sem.run_bind,j,Sem.run_pure]
 | .cell x t::c,R,h=>by
   have e:rdK fr x (fun p=>ldK P t p w.heap fun v=>Ht P c fr w.heap fun vs=>R (v::vs)):=h;rw[Dk]at e;have⟨p,v,k,l,f⟩:=EZ e;have⟨vs,m,n⟩:=Ja b c _ f;have d:a.tmps.getD x undef=rd fr x:=b.eval (.tmp x);have g:(GX a.tmps (.cell x t)).run P w= .ok v w:=by simp[GX,d,k,asAddr,l]
   refine⟨v::vs,?_,n⟩;rw[Yde,Sem.run_bind,g];simp only[Result.andThen_ok,Sem.run_bind,m,Sem.run_pure]
theorem Gb{P:w_}{fn:Func}{ds:List Deferred}{fr:Fr}{a:Act}{w:y_}{R:v_→Prop}(b:AtX ds fr a)(h:Ht P fn.results.toList fr w.heap fun vs=>R (Rp vs)):
  ∃v,(results fn a.tmps).run P w= .ok v w∧R v:=by
 have⟨vs,c,d⟩:=Ja (a:={tmps:=a.tmps,defers:=[]}) b.bare _ _ h;refine⟨Rp vs,?_,d⟩;have e:results fn a.tmps=(do
  let vs ←fn.results.mapM (GX a.tmps)
  pure (if h:vs.size=1 then vs[0]else .tuple vs)):=rfl
 have e2:(fn.results.mapM (GX a.tmps)).run P w= .ok vs.toArray w:=by
  rw[Array.mapM_eq_mapM_toList];have f:(List.toArray <$> fn.results.toList.mapM (GX a.tmps))=(fn.results.toList.mapM (GX a.tmps) >>= fun l=>pure l.toArray):=rfl;rw[f,Sem.run_bind,c];simp
 rw[e,Sem.run_bind,e2];simp only[Result.andThen_ok,Sem.run_pure]
 match vs with
 | []=>rfl
 | [v]=>rfl
 | _::_::_=>rfl
def recB(o0 o1:Oper)(t0 t1:Nat):Prop:=(∃ats,o0.op= .call {callee:=.builtin .recover,args:= #[],argTypes:=ats})∧o0.guard=none∧o0.dst=some t0∧o1.op= .assign (.tmp t0)∧o1.guard=none∧o1.dst=some t1
inductive Ad4:FrameMode→FrameMode→v_→Prop
 | ret:Ad4 .returning .returning .nilIface
 | pan (x:v_):Ad4 (.panicking (pe x)) (.panicking [{v:=x,recovered:=true}]) x
theorem Cj{P:w_}{g:FuncId}{fn:Func}{G:Nat}{b j:Oper}{x Q:Nat}{rest:Code}{a:Array v_}{u y:FrameMode}{rv:v_}{H:Aa}{R:Aa→Prop}(T:P.funcs[g]?=some fn)(U:fn.body=some (.seq (.region G #[b,j] false) rest))
  (V:recB b j x Q) (W:Ad4 u y rv) (C:fn.results= #[])
  (h:MD (a.toList++AhM (fn.ntmps-a.size) undef) fun fr=>rdK fr x fun _=>rdK (fr.set x rv) x fun v=>v=rv∧wrK fr x rv fun I=>wrK I Q rv fun fr2=>vc P rest fr2 H (fun _ H'=>R H') [] (fun _ H'=>R H')):
  ∀w:y_,w.heap=H→CallsD P g a u w fun e p d=>e= .returned (.tuple #[])∧p=y∧Y_ w d∧R d.heap:=by
 intro w X;subst X;rw[HM]at h;simp only[Dk,EG]at h;have⟨J,h⟩:=h;obtain⟨⟨Y,Z⟩,b1,K,b3,b4,S⟩:=V;refine callsD_of_wpS T U ?_;intro k m L
 let q:Act:={tmps:=a++AgY (fn.ntmps-a.size) undef,defers:=[]}
 have D:At (a.toList++AhM (fn.ntmps-a.size) undef) q:=⟨by simp[q],rfl⟩;refine wpS_seq (wpS_region ?_);have z:(execOp q.eval b).run P w= .ok .recover w:=by
  simp only[execOp,Z,resolve];simp[invoke,builtin]
 have E:∀(F:Frame),{k with mode:=y}=F→wpOpsS P #[b,j] (Exit.thenS (rest.wpS P (bodyPostS P fn k m fun e p d=>e= .returned (.tuple #[])∧p=y∧Y_ w d∧R d.heap)) (bodyPostS P fn k m fun e p d=>e= .returned (.tuple #[])∧p=y∧Y_ w d∧R d.heap)) [1] (q.put b.dst rv) (F::m) w:=by
  intro F M;have r:=D.put b.dst rv;have A:(execOp (q.put b.dst rv).eval j).run P w= .ok (.value rv) w:=by
   rw[r.evalF,K];simp only[execOp,b3];have:evF ((a.toList++AhM (fn.ntmps-a.size) undef).set x rv) (.tmp x)=rv:=J;simp[this]
  have N:Region.wanted j (yielded #[b,j] (q.put b.dst rv).tmps)=true:=by simp[Region.wanted,b4]
  unfold wpOpsS;have g1:(#[b,j]:Array Oper)[1]?=some j:=rfl;rw[g1];simp only[N,if_true,A];simp only[Oper.upon,wpOpsS,Exit.thenS];refine wpS_of_wp ?_;have t:=r.put j.dst rv;rw[K,S]at t;rw[K,S];refine Code.wp_mono ?_ (BS rest _ _ _ _ _ w t h);intro e a' d f;have fin:∀fr,At fr a'→Y_ w d→R d.heap→a'.defers=[]∧∃p,F::m={k with mode:=p}::m∧∃v,(results fn a'.tmps).run P d= .ok v d∧Ending.returned v= .returned (.tuple #[])∧p=y∧Y_ w d∧R d.heap:=by
   intro fr B f n;refine⟨B.defers,y,by rw[M],.tuple #[],?_,rfl,rfl,f,n⟩;simp[results,C]
  cases e with
  | normal=>have⟨fr,B,f,n⟩:=f;exact fin fr B f n
  | ret=>have⟨fr,B,f,n⟩:=f;exact fin fr B f n
  | exit id=>have⟨fr,B,f,n⟩:=f;exact n.elim
  | goto l=>have⟨fr,B,f,n⟩:=f;exact n.elim
  | panic c=>exact f.elim
  | outgrown=>exact f.elim
 have O:Region.wanted b (yielded #[b,j] q.tmps)=true:=by simp[Region.wanted,b1]
 show wpOpsS P #[b,j] _ [0,1] q (k::m) w;unfold wpOpsS;have g0:(#[b,j]:Array Oper)[0]?=some b:=rfl;rw[g0];simp only[O,if_true,z];cases W with
 | ret=>
   have:recoverD (k::m)=none:=by simp[recoverD,L]
   rw[this];exact E k (by rw[←L])
 | pan=>
   have:recoverD (k::m)=some (rv,{k with mode:=.panicking [{v:=rv,recovered:=true}]}::m):=by simp[recoverD,L]
   rw[this];exact E _ rfl
structure BX(P:w_)(g:FuncId)(args:Array v_)(u u':FrameMode)(H:Aa)(K:Aa→Prop):Prop where
 in_::
 out_:∀w:y_,w.heap=H→CallsD P g args u w fun e u2 w'=>e= .returned (.tuple #[])∧u2=u'∧Y_ w w'∧K w'.heap
theorem BX.mk{P:w_}{g:FuncId}{a:Array v_}{u c:FrameMode}{H:Aa}{K R:Aa→Prop}(h:∀w:y_,w.heap=H→CallsD P g a u w fun e d b=>e= .returned (.tuple #[])∧d=c∧Y_ w b∧R b.heap)(k:∀H',R H'→K H'):BX P g a u c H K:=
 ⟨fun w f=>(h w f).mono fun e d b ⟨j,l,m,n⟩=>⟨j,l,m,k _ n⟩⟩
def defB(o1 o2:Oper)(tc:Nat)(g:FuncId)(cap:Array z_):Prop:=
 o1.op= .makeFunc (.func g) #[] cap∧o1.guard=none∧o1.dst=some tc∧(∃ats,o2.op= .defer {callee:=.value (.tmp tc),args:= #[],argTypes:=ats})∧o2.guard=none∧o2.dst=none
abbrev dfr(g:FuncId)(vs:List v_):Deferred:={target:=.fn (.func g) vs.toArray,args:= #[]}
structure Bu(P:w_)(fn:Func)(R:v_→Aa→Prop)(c:Code)(fr:Fr)(H:Aa):Prop where
 in_::
 out_:∀(a:Act) (w w0:y_),At fr a→w.heap=H→Y_ w0 w→c.wp P (bodyPostD P fn fun e w'=>∃v,e= .returned v∧Y_ w0 w'∧R v w'.heap) a w
theorem Al.of_rest{P:w_}{f:FuncId}{fn:Func}{c:Code}{a:Array v_}{H:Aa}{R:v_→Aa→Prop}(d:P.funcs[f]?=some fn)(e:fn.body=some c)(b:∀w:y_,(callFunc f a).run P w= .ok (.enter f a) w)
  (h:MD (a.toList++AhM (fn.ntmps-a.size) undef) fun fr=>Bu P fn R c fr H):Al P f a H R:=by
 intro w g;refine⟨b w,?_⟩;rw[HM]at h;exact calls_of_wp_defers d e (h.out_ _ w w ⟨by simp,rfl⟩ g (Y_.refl w))
theorem Bu.seq{P:w_}{fn:Func}{A B:Code}{fr:Fr}{H:Aa}{R:v_→Aa→Prop}(h:vc P A fr H (fun g H1=>Bu P fn R B g H1) [] (fun k H4=>Ht P fn.results.toList k H4 fun q=>R (Rp q) H4)):Bu P fn R (.seq A B) fr H:=by
 refine⟨fun a w w0 m r p=>?_⟩;subst r;refine wp_seq (Code.wp_mono ?_ (BS A _ _ _ _ a w m h));intro e a1 n f;cases e with
 | ret=>
   have⟨fr,b,j,d⟩:=f;show Leaves P fn a1.tmps _ a1.defers .returning n;rw[b.defers];have⟨v,t,e2⟩:=Gb (fn:=fn) (ds:=[]) (R:=fun v=>R v n.heap) ⟨b.tmps,b.defers⟩ d;exact⟨v,t,v,rfl,p.trans j,e2⟩
 | exit id=>have⟨fr,b,j,d⟩:=f;exact d.elim
 | goto l=>have⟨fr,b,j,d⟩:=f;exact d.elim
 | panic c=>exact f.elim
 | outgrown=>exact f.elim
 | normal=>
   have⟨g,b,j,d⟩:=f;exact d.out_ a1 n w0 b rfl (p.trans j)
theorem Bu.defer_{P:w_}{fn:Func}{B:Code}{D:Nat}{j o2:Oper}{m:Nat}{g:FuncId}{cap:Array z_}{fr2:Fr}{H:Aa}{R:v_→Aa→Prop}(Q:defB j o2 m g cap)(S:∀(vs:Array v_) (w:y_),(callFunc g vs).run P w= .ok (.enter g vs) w)
  (h:HG fr2 cap.toList fun vs=>wrK fr2 m (.func (.func g) #[] vs.toArray) fun t=>rdK t m fun fv=>fv= .func (.func g) #[] vs.toArray∧
    vcP P [dfr g vs] (fun b x H4=>BX P g vs.toArray (.panicking (pe x)) (.panicking [{v:=x,recovered:=true}]) H4 fun H5=>Ht P fn.results.toList b H5 fun p=>R (Rp p) H5) B t H
     (fun b H4=>BX P g vs.toArray .returning .returning H4 fun H5=>Ht P fn.results.toList b H5 fun p=>R (Rp p) H5) []
     (fun b H4=>BX P g vs.toArray .returning .returning H4 fun H5=>Ht P fn.results.toList b H5 fun p=>R (Rp p) H5)):
  Bu P fn R (.seq (.region D #[j,o2] false) B) fr2 H:=by
 refine⟨fun a2 q w m1 T y=>?_⟩;subst T;obtain⟨U,V,E,⟨W,X⟩,Y,Z⟩:=Q;rw[Im]at h;simp only[EG,Dk]at h;have⟨m4,m5⟩:=h;have F:(execOp a2.eval j).run P q= .ok (.value (.func (.func g) #[] (cap.toList.map (evF fr2)).toArray)) q:=by
  rw[m1.evalF];simp only[execOp,U];simp only[←Yac,Array.toArray_toList];simp[Instr.makeFunc]
 have a:=m1.put j.dst (.func (.func g) #[] (cap.toList.map (evF fr2)).toArray);rw[E]at a;have G:(execOp (a2.put j.dst (.func (.func g) #[] (cap.toList.map (evF fr2)).toArray)).eval o2).run P q= .ok (.defer (dfr g (cap.toList.map (evF fr2)))) q:=by
  rw[E,a.evalF];simp only[execOp,X,resolve];have:evF (fr2.set m (.func (.func g) #[] (cap.toList.map (evF fr2)).toArray)) (.tmp m)= .func (.func g) #[] (cap.toList.map (evF fr2)).toArray:=m4;simp[this,Deferred.ofValue]
 refine wp_seq (wp_region_lit (l:=[j,o2]) ?_);have w1:Region.wanted j (yielded #[j,o2] a2.tmps)=true:=by simp[Region.wanted,V]
 have I:∀N,Region.wanted o2 (yielded #[j,o2] N)=true:=fun N=>by simp[Region.wanted,Y]
 unfold wpList;simp only[w1,if_true];refine .inl ?_;unfold Oper.wp;rw[F];simp only[Oper.upon];unfold wpList;simp only[I,if_true];refine .inl ?_;unfold Oper.wp;rw[G];simp only[Oper.upon,wpList,Exit.then];rw[E];have z:AtX [dfr g (cap.toList.map (evF fr2))] (fr2.set m (.func (.func g) #[] (cap.toList.map (evF fr2)).toArray)) ({(a2.put (some m) (.func (.func g) #[] (cap.toList.map (evF fr2)).toArray))with defers:=dfr g (cap.toList.map (evF fr2))::(a2.put (some m) (.func (.func g) #[] (cap.toList.map (evF fr2)).toArray)).defers}.put o2.dst undef):=by
  rw[Z];exact⟨a.tmps,by show _::_=_;rw[a.defers]⟩
 refine Code.wp_mono ?_ (BE B _ _ _ _ _ q z m5);intro e A n r;have C:∀w:y_,(invoke (.fn (.func g) (cap.toList.map (evF fr2)).toArray) #[]).run P w= .ok (.enter g (cap.toList.map (evF fr2)).toArray) w:=fun w=>by
  simp only[invoke];rw[Array.empty_append];exact S _ w
 have fin:∀fr,AtX [dfr g (cap.toList.map (evF fr2))] fr A→Y_ q n→(BX P g (cap.toList.map (evF fr2)).toArray .returning .returning n.heap fun H5=>Ht P fn.results.toList fr H5 fun p=>R (Rp p) H5)→
   Leaves P fn A.tmps (fun e O=>∃v,e= .returned v∧Y_ w O∧R v O.heap) A.defers .returning n:=by
  intro fr d k f;rw[d.defers];refine leaves_cons (fun h=>by cases h) (C n) ((f.out_ n rfl).mono ?_);rintro e u J ⟨rfl,rfl,K,L⟩;have⟨v,M,e2⟩:=Gb (fn:=fn) (R:=fun v=>R v J.heap) d L;exact⟨v,M,v,rfl,(y.trans k).trans K,e2⟩
 cases e with
 | normal=>have⟨fr,d,k,f⟩:=r;exact fin fr d k f
 | ret=>have⟨fr,d,k,f⟩:=r;exact fin fr d k f
 | exit id=>have⟨fr,d,k,f⟩:=r;exact f.elim
 | goto l=>have⟨fr,d,k,f⟩:=r;exact f.elim
 | outgrown=>exact r.elim
 | panic c=>
   obtain⟨fr,d,k,x,rfl,f⟩:=r;show Leaves P fn A.tmps _ A.defers (.panicking (pe x)) n;rw[d.defers];refine leaves_cons (fun h=>by cases h) (C n) ((f.out_ n rfl).mono ?_);rintro e u J ⟨rfl,rfl,K,L⟩;have⟨v,M,e2⟩:=Gb (fn:=fn) (R:=fun v=>R v J.heap) d L;exact⟨v,M,v,rfl,(y.trans k).trans K,e2⟩
def Y1:ResultVar→Nat
 | .tmp t=>t
 | .cell a _=>a
theorem Om{fr:Fr}{d t:Nat}{v:v_}(h:d≠t):rd (fr.set d v) t=rd fr t:=by
 unfold rd;rw[Ya5,Ya5,Ya4 h]
theorem MQ{P:w_}{fr:Fr}{d:Nat}{v:v_}{H:Aa}:∀{b:List ResultVar} {R:List v_→Prop},(∀r∈b,d≠Y1 r)→Ht P b (fr.set d v) H R→Ht P b fr H R
 | [],R,_,h=>h
 | .tmp t::b,R,hd,h=>by
   have c:rdK (fr.set d v) t (fun a=>Ht P b (fr.set d v) H fun vs=>R (a::vs)):=h;show rdK fr t (fun a=>Ht P b fr H fun vs=>R (a::vs));rw[Dk]at c ⊢;have f:d≠t:=hd _ YbZ;rw[Om f]at c;exact MQ (fun r g=>hd r (YbX _ g)) c
 | .cell x t::b,R,hd,h=>by
   have c:rdK (fr.set d v) x (fun p=>ldK P t p H fun a=>Ht P b (fr.set d v) H fun vs=>R (a::vs)):=h;show rdK fr x (fun p=>ldK P t p H fun a=>Ht P b fr H fun vs=>R (a::vs));rw[Dk]at c ⊢;have f:d≠x:=hd _ YbZ;rw[Om f]at c;have e:(fun a=>Ht P b (fr.set d v) H fun vs=>R (a::vs))=fun a=>Ht P b (fr.set d v) H fun vs=>R (a::vs):=rfl;revert c;unfold ldK;generalize rd fr x=p;intro c;split at c
   ·have⟨a,j,e2⟩:=c.out_;exact⟨⟨a,j,MQ (fun r g=>hd r (YbX _ g)) e2⟩⟩
   ·exact c.elim
theorem IG{P:w_}{g:FuncId}{vs:Array v_}{b:List ResultVar}{R:v_→Aa→Prop}{l:List Oper}(e:(l.all fun o=>match o.dst with | none=>true | some d=>b.all fun r=> !(d==Y1 r))=true):
  Tz (fun a x H4=>BX P g vs (.panicking (pe x)) (.panicking [{v:=x,recovered:=true}]) H4 fun H5=>Ht P b a H5 fun f=>R (Rp f) H5) l:=by
 intro o j d hd fr v x H h;have c:=Ycc.1 e o j;rw[hd]at c;refine BX.mk h.out_ fun H' k=>MQ (fun r m=>?_) k;have:=Ycc.1 c r m;simpa using this
open Go.Lib
def bt(t:ByteArray)(i:Nat):Nat:=match t.data[i]? with
 | some b=>b.toNat
 | none=>256
theorem CH{t:ByteArray}{i:Nat}(h:i<t.size):∃b,t.data[i]?=some b∧bt t i=b.toNat∧bt t i<256:=by
 have a:i<t.data.size:=h;refine⟨t.data[i],Yad a,?_,?_⟩
 ·unfold bt;rw[Yad a]
 ·unfold bt;rw[Yad a];exact UInt8.toNat_lt _
theorem FV{t:ByteArray}{i:Nat}(h:¬i<t.size):bt t i=256:=by
 have a:¬i<t.data.size:=h;unfold bt;rw[Array.getElem?_eq_none (by omega)]
theorem DR{t:ByteArray}{i:Nat}(h:bt t i≠256):i<t.size:=by
 apply Classical.byContradiction;intro a;exact h (FV a)
def Ks(c:Nat):Option Nat:=if 48≤c∧c≤57 then some (c-48)else if 97≤c∧c≤102 then some (c-87)else none
theorem J9{c v:Nat}(h:Ks c=some v):v<16:=by
 unfold Ks at h;split at h
 ·cases h;omega
 ·split at h
  ·cases h;omega
  ·cases h
def Aa2:ByteArray:=⟨#[48,49,50,51,52,53,54,55,56,57,97,98,99,100,101,102]⟩
theorem S1(c:Nat)(a:c<256):indexByte Aa2.data.toList (UInt8.ofNat c)=match Ks c with | some v=>(v:Int) | none=> -1:=by
 have:∀c:Fin 256,indexByte Aa2.data.toList (UInt8.ofNat c.1)=match Ks c.1 with | some v=>(v:Int) | none=> -1:=by decide+kernel
 exact this ⟨c,a⟩
def Ko(t:ByteArray)(i:Nat):Sum Nat (Nat×Nat):=
 if bt t i=256 then .inl i else if bt t i=110 then .inr (10,i+1)else if bt t i=114 then .inr (13,i+1)else if bt t i=116 then .inr (9,i+1)
 else if bt t i=120 then match Ks (bt t (i+1))with
  | none=>.inl (i+1)
  | some a=>match Ks (bt t (i+2))with
    | none=>.inl (i+2)
    | some b=>.inr (16*a+b,i+3)
 else if bt t i<32∨126<bt t i∨(48≤bt t i∧bt t i≤57)∨(97≤bt t i∧bt t i≤122)∨(65≤bt t i∧bt t i≤90)then .inl i else .inr (bt t i,i+1)
def E0(t s:ByteArray)(i:Nat):Sum Nat (Nat×Nat):=
 if bt t i=92 then Ko t (i+1)else if bt t i<32∨126<bt t i∨spB s (bt t i)=true then .inl i else .inr (bt t i,i+1)
def NI(t:ByteArray)(lo j:Nat)(x:BitVec 256)(f:Nat→BitVec 256→Sum Nat (BitVec 256×Nat)):Sum Nat (BitVec 256×Nat):=
 if bt t j=45 then(match E0 t Vn (j+1)with
  | .inl e=>.inl e
  | .inr (hi,k)=>if hi<lo then .inl (j+1)else f k (x ||| AJ lo hi))
 else f j (x ||| AJ lo lo)
def Hr(t:ByteArray):Nat→Nat→BitVec 256→Sum Nat (BitVec 256×Nat)
 | 0,i,_=>.inl i
 | n+1,i,x=>if bt t i=93 then .inr (x,i+1)else match E0 t Vn i with
   | .inl e=>.inl e
   | .inr (lo,j)=>NI t lo j x (Hr t n)
def KN(t:ByteArray)(i:Nat):Sum Nat (BitVec 256×Nat):=
 match Hr t (t.size+1) (if bt t i=94 then i+1 else i) 0#256 with
 | .inl e=>.inl e
 | .inr (x,k)=>.inr (if bt t i=94 then ~~~x else x,k)
def BI(t:ByteArray)(i:Nat):Sum Nat (BitVec 256×Nat):=
 if bt t i=46 then .inr (~~~(AJ 10 10),i+1)else if bt t i=91 then KN t (i+1)else match E0 t Y4 i with
 | .inl e=>.inl e
 | .inr (b,k)=>.inr (AJ b b,k)
theorem ZK{t:ByteArray}{i:Nat}{c j:Nat}(h:Ko t i= .inr (c,j)):c<256∧i<j∧j≤t.size:=by
 unfold Ko at h;split at h
 ·cases h
 ·rename_i f;have g:=DR f;obtain⟨b,-,-,l⟩:=CH g;split at h
  ·cases h;omega
  ·split at h
   ·cases h;omega
   ·split at h
    ·cases h;omega
    ·split at h
     ·split at h
      ·cases h
      ·rename_i a k;split at h
       ·cases h
       ·rename_i m d;cases h;have n:=J9 k;have p:=J9 d;have q:i+2<t.size:=DR fun e=>by rw[e]at d;cases d
        omega
     ·split at h
      ·cases h
      ·cases h;omega
theorem FH{t s:ByteArray}{i:Nat}{c j:Nat}(h:E0 t s i= .inr (c,j)):c<256∧i<j∧j≤t.size:=by
 unfold E0 at h;split at h
 ·have:=ZK h;omega
 ·split at h
  ·cases h
  ·rename_i a;cases h;have d:i<t.size:=DR fun e=>a (.inr (.inl (by omega)));obtain⟨b,-,-,f⟩:=CH d;omega
theorem Pm{t:ByteArray}:∀{n i:Nat} {x y:BitVec 256} {k:Nat},Hr t n i x= .inr (y,k)→i<k∧k≤t.size
 | 0,i,x,y,k,h=>by cases h
 | n+1,i,x,y,k,h=>by
   unfold Hr at h;split at h
   ·rename_i d;cases h;have a:i<t.size:=DR fun e=>by omega
    omega
   ·split at h
    ·cases h
    ·rename_i lo j b;have:=FH b;unfold NI at h;split at h
     ·split at h
      ·cases h
      ·rename_i a f c;have:=FH c;split at h
       ·cases h
       ·have:=Pm h;omega
     ·have:=Pm h;omega
theorem MN{t:ByteArray}{i:Nat}{y:BitVec 256}{k:Nat}(h:BI t i= .inr (y,k)):i<k∧k≤t.size:=by
 unfold BI at h;split at h
 ·rename_i d;cases h;have f:i<t.size:=DR fun e=>by omega
  omega
 ·split at h
  ·unfold KN at h;split at h
   ·cases h
   ·rename_i x c a;cases h;have:=Pm a;split at this<;>omega
  ·split at h
   ·cases h
   ·rename_i b c a;cases h;have:=FH a;omega
theorem DN:prog.underlying 9=some .string:=rfl
abbrev rdL(t:ByteArray)(i:Nat):List v_:=[.string t,C_ i]
abbrev pRd(r:Nat)(t:ByteArray)(i:Nat):Pc:=pB 316 r (rdL t i)
def Bg(c i:Nat):v_:=.iface 27 (.agg #[C_ c,C_ i,.string ⟨#[]⟩])
theorem K2{H:Aa}{r i:Nat}{t:ByteArray}(a:K_ H r 316 (rdL t i)):AZ prog 234 #[H_ r] H (.tuple #[.int .u8 (if bt t i=256 then 0 else(bt t i:Int)),.bool (decide (bt t i≠256))]):=by
 refine Al.of_vc func234 rfl (call234 _) (Au.lex rfl (by kernel_rfl) (F_ ?_));refine B_ (a.cellE rfl) trivial (F_ ?_);refine lT (a.cellE rfl) ?_;by_cases e:i<t.size
 ·have⟨b,f,c,g⟩:=CH e;have d:decide ((i:Int)<(t.size:Int))=true:=s_;(conv=>whnf);rw[d];refine Au.lex rfl (by kernel_rfl) (F_ ?_);refine B_ (a.cellE rfl) trivial (F_ ?_);refine B_ (a.cellE rfl) trivial (Ci DN rfl f ?_);(conv=>whnf);refine⟨?_,A_.refl _ _⟩;rw[G_ (by omega),s_,c]
 ·have c:=FV e;have d:decide ((i:Int)<(t.size:Int))=false:=m_;(conv=>whnf);rw[d];(conv=>whnf);refine⟨?_,A_.refl _ _⟩;rw[I_ c,m_]
theorem Db{H:Aa}{r:Nat}{e:Nat}:Ay prog 235 #[H_ r,C_ e] H (fun _ _=>False) (fun x H'=>x=Bg 10 e∧H'=H):=by
 refine Ay.of_vc func235 rfl (call235 _) (Ah underlying27 rfl _ rfl [C_ 10,C_ e,.string ⟨#[]⟩] rfl ?_);(conv=>whnf);exact⟨rfl,rfl⟩
theorem Ce{α:Type}{ps:List α}{i:Nat}{p:α}(h:ps[i]?=some p):ps.set i p=ps:=by
 refine List.ext_getElem? fun j=>?_;by_cases a:i=j
 ·subst a;rw[Ya3 (X_.1 h).1,h]
 ·rw[Ya4 a]
theorem Iy{α:Type}{ps:List α}{i:Nat}{p q:α}(h:ps[i]?=some p):(ps.set i q)[i]?=some q:=Ya3 (X_.1 h).1
theorem AcC{B:Nat→Prop}{H0 H:Aa}{ps:List Pc}{k r i:Nat}{t:ByteArray}(y:t.size≤1152921504606846976)(m:E_ B H0 H ps)(d:ps[k]?=some (pRd r t i)):
  Ay prog 244 #[H_ r] H (fun v H'=>∃c:Nat,Ks (bt t i)=some c∧v= .int .u8 (c:Int)∧E_ B H0 H' (ps.set k (pRd r t (i+1))))
   (fun x H'=>Ks (bt t i)=none∧x=Bg 10 i∧E_ B H0 H' (ps.set k (pRd r t i))):=by
 refine Ay.of_vc func244 rfl (call244 _) (Ab.of (Ak (K2 (m.blk k d)) fun H1 g=>?_));have st1:=m.call g;by_cases f:bt t i=256
 ·rw[I_ f,m_];refine Ab.of (Ak (JB Aa2 0 H1) fun H2 e=>?_);have a:=st1.call e;refine Ao.run (F_ ?_);refine B_ ((a.blk k d).cellE rfl) trivial (Ab.mk Db (fun _ _ h=>h.elim) ?_);rintro _ _ ⟨rfl,rfl⟩;exact⟨by rw[f];rfl,rfl,by rw[Ce d];exact a⟩
 ·have n:=DR f;have⟨b,p,q,j⟩:=CH n;rw[G_ f,s_];refine Ab.of (Ak (JB Aa2 (bt t i) H1) fun H2 e=>?_);have a:=st1.call e;rw[S1 _ j];cases u:Ks (bt t i)with
  | none=>
    refine Ao.run (F_ ?_);refine B_ ((a.blk k d).cellE rfl) trivial (Ab.mk Db (fun _ _ h=>h.elim) ?_);rintro _ _ ⟨rfl,rfl⟩;exact⟨rfl,rfl,by rw[Ce d];exact a⟩
  | some c=>
    have z:=J9 u;have w:decide ((c:Int)<0)=false:=m_;refine Ao.run ?_;(conv=>whnf);rw[w];refine F_ ?_;refine lT ((a.blk k d).cellE rfl) ?_;(conv=>whnf);rw[n_ (x:=(i:Int)+1) (by omega)];refine F_ ?_;refine Bh a k d (by simp) rfl fun H3 l=>?_;(conv=>whnf);rw[w8 (x:=(c:Int)) (by omega) (by omega)];(conv=>whnf);exact⟨c,rfl,rfl,l⟩
theorem IM{B:Nat→Prop}{H0 H:Aa}{ps:List Pc}(c:E5 H0)(a:B 2)(b:E_ B H0 H ps):E5 H:=
 ⟨c.1.eq (b.old _ a),b.up a⟩
theorem or16{a b:Nat}(c:b<16):a*2^4 ||| b=16*a+b:=by
 have:=Nat.two_pow_add_eq_or_of_lt (i:=4) (b:=b) (by simpa using c) a;rw[Nat.mul_comm a,←this]
theorem Xb{B:Nat→Prop}{H0 H:Aa}{ps:List Pc}{k r i:Nat}{t:ByteArray}(hE:E5 H0)(M:B 2)(ht:t.size≤1152921504606846976)(st:E_ B H0 H ps)(g:ps[k]?=some (pRd r t i)):
  Ay prog 236 #[H_ r] H (fun v H'=>∃c j:Nat,Ko t i= .inr (c,j)∧v= .int .u8 (c:Int)∧E_ B H0 H' (ps.set k (pRd r t j)))
   (fun x H'=>∃e j:Nat,Ko t i= .inl e∧x=Bg 10 e∧E_ B H0 H' (ps.set k (pRd r t j))):=by
 refine Ay.of_vc func236 rfl (call236 _) (Ab.of (Ak (K2 (st.blk k g)) fun H1 N=>?_));have st1:=st.call N;by_cases D:bt t i=256
 ·rw[I_ D,m_];refine Ao.run ?_;(conv=>whnf);refine F_ ?_;refine B_ ((st1.blk k g).cellE rfl) trivial (Ab.mk Db (fun _ _ h=>h.elim) ?_);rintro _ _ ⟨rfl,rfl⟩;exact⟨i,i,by unfold Ko;rw[I_ D],rfl,by rw[Ce g];exact st1⟩
 have hi:=DR D;have⟨b,ai,F,E⟩:=CH hi;rw[G_ D,s_];obtain⟨c,O⟩:∃c,c=bt t i:=⟨_,rfl⟩;rw[←O]at D E ⊢;refine Ao.run (L_ (cs:=WY) (IM hE M st1).1 trivial ?_);(conv=>whnf);refine CA.mk [22] (fun n:Nat=>[C_ n]) (fun n H1=>n≤3∧(∀j,j<n→(OT j).1≠c)∧E_ B H0 H1 ps) (fun n _=>3-n) ?_ ?_
 ·(conv=>whnf);exact⟨0,rfl,by omega,fun j K=>by omega,st1⟩
 ·rintro n G P ⟨L,A,f⟩;refine Ag.m2 (fun hz=>?_) (fun hz=>?_)
  ·have Q:WY.toArray.extract (n*2) (n*2+2)= #[.int .u8 ((OT n).1:Int),.int .u8 ((OT n).2:Int)]:=by
    have:n=0∨n=1∨n=2:=by omega
    rcases this with rfl | rfl | rfl<;>rfl
   have R:(OT n).1=c→Ko t i= .inr ((OT n).2,i+1):=fun e=>by
    have:n=0∨n=1∨n=2:=by omega
    unfold Ko;rw[←O,G_ D];rcases this with rfl | rfl | rfl<;>(subst e;rfl)
   have aj:(OT n).1<256∧(OT n).2<256:=by
    have:n=0∨n=1∨n=2:=by omega
    rcases this with rfl | rfl | rfl<;>decide
   refine ixvN AgF (by omega) (by omega) ?_;rw[Yau,Q];generalize hl:(OT n).1=l at*;generalize (OT n).2=v at*;refine Aw (.agg #[.int .u8 0,.int .u8 0]) [.int .u8 0,.int .u8 0] AgT rfl ?_;intro p2 H2 S T F U;have V:=f.box S T F U;refine AD (cs:=[.int .u8 (l:Int),.int .u8 (v:Int)]) V ps.length rfl (by rw[YaD (J_ _),YbD];rfl) (J_ _) rfl fun H3 w=>?_;rw[List.set_append_right _ _ (J_ _),YbD,Bx (by rfl)]at w;have E:K_ H3 p2 360 [.int .u8 (l:Int),.int .u8 (v:Int)]:=w.blk ps.length (by rw[YaD (J_ _),YbD];rfl);have I:(ps++[pB 360 p2 [.int .u8 (l:Int),.int .u8 (v:Int)]])[k]?=some (pRd r t i):=by
    rw[List.getElem?_append_left (X_.1 g).1];exact g
   have J:∀{H':Aa} {q:Pc},E_ B H0 H' ((ps++[pB 360 p2 [.int .u8 (l:Int),.int .u8 (v:Int)]]).set k q)→E_ B H0 H' (ps.set k q):=fun h=>by
    rw[List.set_append_left _ _ (X_.1 g).1]at h;exact⟨h.old,h.lt0,h.size,fun p g=>h.oks p (YaU _ g),fun p g=>h.rng p (YaU _ g),(Ycj.1 h.dis).1⟩
   (conv=>whnf);try (refine Ao.run ?_)
   refine F_ ?_;refine lT (E.cellE rfl) ?_;by_cases W:l=c
   ·have d:((l:Int)==(c:Int))=true:=by rw[W];exact beq_self_eq_true _
    (conv=>whnf);rw[d];refine F_ ?_;refine lT ((w.blk k I).cellE rfl) ?_;(conv=>whnf);rw[n_ (x:=(i:Int)+1) (by omega)];refine F_ ?_;refine Bh w k I (by simp) rfl fun H4 m=>?_;have X:K_ H4 p2 360 [.int .u8 (l:Int),.int .u8 (v:Int)]:=m.blk ps.length (by
     rw[Ya4 (by have:=(X_.1 g).1;omega),YaD (J_ _),YbD];rfl)
    refine F_ ?_;refine lT (X.cellE rfl) ?_;(conv=>whnf);exact⟨v,i+1,R W,rfl,J m⟩
   ·have d:((l:Int)==(c:Int))=false:=beq_eq_false_iff_ne.2 (by omega);(conv=>whnf);rw[d];(conv=>whnf);rw[R_ n (by omega)];refine⟨rfl,n+1,rfl,⟨by omega,fun j K=>?_,⟨w.old,w.lt0,w.size,fun p g=>w.oks p (YaU _ g),fun p g=>w.rng p (YaU _ g),(Ycj.1 w.dis).1⟩⟩,by omega⟩;rcases Nat.lt_or_eq_of_le (Nat.le_of_lt_succ K)with K | rfl
    ·exact A j K
    ·rw[hl];exact W
  ·obtain rfl:n=3:=by omega
   have n0:(110:Nat)≠c:=A 0 (by omega);have n1:(114:Nat)≠c:=A 1 (by omega);have n2:(116:Nat)≠c:=A 2 (by omega);have u:Ko t i=(if c=120 then match Ks (bt t (i+1))with
     | none=>.inl (i+1)
     | some a=>match Ks (bt t (i+2))with
       | none=>.inl (i+2)
       | some b=>.inr (16*a+b,i+3)
    else if c<32∨126<c∨(48≤c∧c≤57)∨(97≤c∧c≤122)∨(65≤c∧c≤90)then .inl i else .inr (c,i+1)):=by
    unfold Ko;rw[←O,G_ D,G_ (Ne.symm n0),G_ (Ne.symm n1),G_ (Ne.symm n2)]
   by_cases Y:c=120
   ·rw[I_ Y]at u;have d:((c:Int)==(120:Int))=true:=by rw[Y];rfl
    (conv=>whnf);try (refine Ao.run ?_)
    (conv=>whnf);rw[d];refine F_ ?_;refine lT ((f.blk k g).cellE rfl) ?_;(conv=>whnf);rw[n_ (x:=(i:Int)+1) (by omega)];refine F_ ?_;refine Bh f k g (by simp) rfl fun H4 m=>?_;have Z:(ps.set k (pRd r t (i+1)))[k]?=some (pRd r t (i+1)):=Iy g;replace m:E_ B H0 H4 (ps.set k (pRd r t (i+1))):=m;refine Ab.mk (AcC ht m Z) ?_ ?_
    ·rintro _ H5 ⟨a,ha,rfl,y⟩;have ak:=J9 ha;rw[Ydb]at y;have a0:(ps.set k (pRd r t (i+1+1)))[k]?=some (pRd r t (i+1+1)):=Iy g;refine AfY (b:=4) (by decide) (Lo (by omega)) (Ab.mk (AcC ht y a0) ?_ ?_)
     ·rintro _ H6 ⟨b2,C,rfl,z⟩;have a5:=J9 C;rw[Ydb]at z;refine vor (Lo (by omega)) (Lo (by omega)) ?_;rw[or16 a5];(conv=>whnf);exact⟨16*a+b2,i+3,by rw[u,ha];show(match Ks (bt t (i+1+1))with | none=>_ | some b=>_)=_;rw[C],rfl,z⟩
     ·rintro _ H6 ⟨L,rfl,z⟩;rw[Ydb]at z;exact⟨i+2,i+2,by rw[u,ha];show(match Ks (bt t (i+1+1))with | none=>_ | some b=>_)=_;rw[L],rfl,z⟩
    ·rintro _ H5 ⟨L,rfl,y⟩;rw[Ydb]at y;exact⟨i+1,i+1,by rw[u,L],rfl,y⟩
   ·rw[G_ Y]at u;have d:((c:Int)==(120:Int))=false:=beq_eq_false_iff_ne.2 (by omega);(conv=>whnf);try (refine Ao.run ?_)
    (conv=>whnf);rw[d];clear d;refine Ao.run ?_;(conv=>whnf);by_cases a6:c<32
    ·skip
     have d:decide ((c:Int)<32)=true:=s_;(conv=>whnf);rw[d];clear d;(conv=>whnf);refine F_ ?_;refine B_ ((f.blk k g).cellE rfl) trivial (Ab.mk Db (fun _ _ h=>h.elim) ?_);rintro _ _ ⟨rfl,rfl⟩;exact⟨i,i,by rw[u,I_ (by omega)],rfl,by rw[Ce g];exact f⟩
    ·skip
     have d:decide ((c:Int)<32)=false:=m_;(conv=>whnf);rw[d];clear d;by_cases a7:126<c
     ·skip
      have d:decide ((c:Int)>126)=true:=s_;(conv=>whnf);rw[d];clear d;(conv=>whnf);refine F_ ?_;refine B_ ((f.blk k g).cellE rfl) trivial (Ab.mk Db (fun _ _ h=>h.elim) ?_);rintro _ _ ⟨rfl,rfl⟩;exact⟨i,i,by rw[u,I_ (by omega)],rfl,by rw[Ce g];exact f⟩
     ·skip
      have d:decide ((c:Int)>126)=false:=m_;(conv=>whnf);rw[d];clear d;by_cases a8:48≤c
      ·skip
       have d:decide ((c:Int)≥48)=true:=s_;(conv=>whnf);rw[d];clear d;by_cases a9:c≤57
       ·skip
        have d:decide ((c:Int)≤57)=true:=s_;(conv=>whnf);rw[d];clear d;(conv=>whnf);refine F_ ?_;refine B_ ((f.blk k g).cellE rfl) trivial (Ab.mk Db (fun _ _ h=>h.elim) ?_);rintro _ _ ⟨rfl,rfl⟩;exact⟨i,i,by rw[u,I_ (by omega)],rfl,by rw[Ce g];exact f⟩
       ·skip
        have d:decide ((c:Int)≤57)=false:=m_;(conv=>whnf);rw[d];clear d;by_cases ab:97≤c
        ·skip
         have d:decide ((c:Int)≥97)=true:=s_;(conv=>whnf);rw[d];clear d;by_cases ad:c≤122
         ·skip
          have d:decide ((c:Int)≤122)=true:=s_;(conv=>whnf);rw[d];clear d;(conv=>whnf);refine F_ ?_;refine B_ ((f.blk k g).cellE rfl) trivial (Ab.mk Db (fun _ _ h=>h.elim) ?_);rintro _ _ ⟨rfl,rfl⟩;exact⟨i,i,by rw[u,I_ (by omega)],rfl,by rw[Ce g];exact f⟩
         ·skip
          have d:decide ((c:Int)≤122)=false:=m_;(conv=>whnf);rw[d];clear d;have d:decide ((c:Int)≥65)=true:=s_;(conv=>whnf);rw[d];clear d;have d:decide ((c:Int)≤90)=false:=m_;(conv=>whnf);rw[d];clear d;(conv=>whnf);refine F_ ?_;refine lT ((f.blk k g).cellE rfl) ?_;(conv=>whnf);rw[n_ (x:=(i:Int)+1) (by omega)];refine F_ ?_;refine Bh f k g (by simp) rfl fun H4 m=>?_;(conv=>whnf);exact⟨c,i+1,by rw[u,G_ (by omega)],rfl,m⟩
        ·skip
         have d:decide ((c:Int)≥97)=false:=m_;(conv=>whnf);rw[d];clear d;by_cases ae:65≤c
         ·skip
          have d:decide ((c:Int)≥65)=true:=s_;(conv=>whnf);rw[d];clear d;by_cases ah:c≤90
          ·skip
           have d:decide ((c:Int)≤90)=true:=s_;(conv=>whnf);rw[d];clear d;(conv=>whnf);refine F_ ?_;refine B_ ((f.blk k g).cellE rfl) trivial (Ab.mk Db (fun _ _ h=>h.elim) ?_);rintro _ _ ⟨rfl,rfl⟩;exact⟨i,i,by rw[u,I_ (by omega)],rfl,by rw[Ce g];exact f⟩
          ·skip
           have d:decide ((c:Int)≤90)=false:=m_;(conv=>whnf);rw[d];clear d;(conv=>whnf);refine F_ ?_;refine lT ((f.blk k g).cellE rfl) ?_;(conv=>whnf);rw[n_ (x:=(i:Int)+1) (by omega)];refine F_ ?_;refine Bh f k g (by simp) rfl fun H4 m=>?_;(conv=>whnf);exact⟨c,i+1,by rw[u,G_ (by omega)],rfl,m⟩
         ·skip
          have d:decide ((c:Int)≥65)=false:=m_;(conv=>whnf);rw[d];clear d;(conv=>whnf);refine F_ ?_;refine lT ((f.blk k g).cellE rfl) ?_;(conv=>whnf);rw[n_ (x:=(i:Int)+1) (by omega)];refine F_ ?_;refine Bh f k g (by simp) rfl fun H4 m=>?_;(conv=>whnf);exact⟨c,i+1,by rw[u,G_ (by omega)],rfl,m⟩
      ·skip
       have d:decide ((c:Int)≥48)=false:=m_;(conv=>whnf);rw[d];clear d;have d:decide ((c:Int)≥97)=false:=m_;(conv=>whnf);rw[d];clear d;have d:decide ((c:Int)≥65)=false:=m_;(conv=>whnf);rw[d];clear d;(conv=>whnf);refine F_ ?_;refine lT ((f.blk k g).cellE rfl) ?_;(conv=>whnf);rw[n_ (x:=(i:Int)+1) (by omega)];refine F_ ?_;refine Bh f k g (by simp) rfl fun H4 m=>?_;(conv=>whnf);exact⟨c,i+1,by rw[u,G_ (by omega)],rfl,m⟩
theorem LC{B:Nat→Prop}{H0 H:Aa}{ps:List Pc}{k r i:Nat}{t s:ByteArray}(J:E5 H0)(w:B 2)(K:t.size≤1152921504606846976)(F:E_ B H0 H ps)(d:ps[k]?=some (pRd r t i)):
  Ay prog 221 #[H_ r,.string s] H (fun v H'=>∃c j:Nat,E0 t s i= .inr (c,j)∧v= .int .u8 (c:Int)∧E_ B H0 H' (ps.set k (pRd r t j)))
   (fun x H'=>∃e j:Nat,E0 t s i= .inl e∧x=Bg 10 e∧E_ B H0 H' (ps.set k (pRd r t j))):=by
 refine Ay.of_vc func221 rfl (call221 _) (Ab.of (Ak (K2 (F.blk k d)) fun H1 y=>?_));have st1:=F.call y;by_cases q:bt t i=256
 ·rw[I_ q,m_];refine Ao.run ?_;(conv=>whnf);refine F_ ?_;refine B_ ((st1.blk k d).cellE rfl) trivial (Ab.mk Db (fun _ _ h=>h.elim) ?_);rintro _ _ ⟨rfl,rfl⟩;exact⟨i,i,by unfold E0;rw[q,G_ (by decide),I_ (.inr (.inl (by decide)))],rfl,by rw[Ce d];exact st1⟩
 have L:=DR q;have⟨b,M,N,z⟩:=CH L;rw[G_ q,s_];obtain⟨c,A⟩:∃c,c=bt t i:=⟨_,rfl⟩;rw[←A]at q z ⊢;by_cases n:c=92
 ·have f:((c:Int)==(92:Int))=true:=by rw[n];rfl
  have p:E0 t s i=Ko t (i+1):=by unfold E0;rw[←A,I_ n]
  (conv=>whnf);rw[f];refine F_ ?_;refine lT ((st1.blk k d).cellE rfl) ?_;(conv=>whnf);rw[n_ (x:=(i:Int)+1) (by omega)];refine F_ ?_;refine Bh st1 k d (by simp) rfl fun H4 g=>?_;replace g:E_ B H0 H4 (ps.set k (pRd r t (i+1))):=g;have C:(ps.set k (pRd r t (i+1)))[k]?=some (pRd r t (i+1)):=Iy d;refine Ab.mk (Xb J w K g C) ?_ ?_
  ·rintro _ H5 ⟨a,j,D,rfl,l⟩;rw[Ydb]at l;(conv=>whnf);exact⟨a,j,by rw[p];exact D,rfl,l⟩
  ·rintro _ H5 ⟨e,j,D,rfl,l⟩;rw[Ydb]at l;exact⟨e,j,by rw[p];exact D,rfl,l⟩
 have O:((c:Int)==(92:Int))=false:=beq_eq_false_iff_ne.2 (by omega);have p:E0 t s i=if c<32∨126<c∨spB s c=true then .inl i else .inr (c,i+1):=by unfold E0;rw[←A,G_ n]
 (conv=>whnf);rw[O];refine Ao.run ?_;(conv=>whnf);by_cases G:c<32
 ·skip
  have f:decide ((c:Int)<32)=true:=s_;(conv=>whnf);rw[f];clear f;(conv=>whnf);refine F_ ?_;refine B_ ((st1.blk k d).cellE rfl) trivial (Ab.mk Db (fun _ _ h=>h.elim) ?_);rintro _ _ ⟨rfl,rfl⟩;exact⟨i,i,by rw[p,I_ (by omega)],rfl,by rw[Ce d];exact st1⟩
 ·skip
  have f:decide ((c:Int)<32)=false:=m_;(conv=>whnf);rw[f];clear f;by_cases I:126<c
  ·skip
   have f:decide ((c:Int)>126)=true:=s_;(conv=>whnf);rw[f];clear f;(conv=>whnf);refine F_ ?_;refine B_ ((st1.blk k d).cellE rfl) trivial (Ab.mk Db (fun _ _ h=>h.elim) ?_);rintro _ _ ⟨rfl,rfl⟩;exact⟨i,i,by rw[p,I_ (by omega)],rfl,by rw[Ce d];exact st1⟩
  ·skip
   have f:decide ((c:Int)>126)=false:=m_;(conv=>whnf);rw[f];clear f;refine Ab.of (Ak (JB s c H1) fun H2 E=>?_);have m:=st1.call E;(conv=>whnf);rw[AbF];cases u:spB s c with
   | true=>
     (conv=>whnf);refine F_ ?_;refine B_ ((m.blk k d).cellE rfl) trivial (Ab.mk Db (fun _ _ h=>h.elim) ?_);rintro _ _ ⟨rfl,rfl⟩;exact⟨i,i,by rw[p,I_ (.inr (.inr u))],rfl,by rw[Ce d];exact m⟩
   | false=>
     (conv=>whnf);refine F_ ?_;refine lT ((m.blk k d).cellE rfl) ?_;(conv=>whnf);rw[n_ (x:=(i:Int)+1) (by omega)];refine F_ ?_;refine Bh m k d (by simp) rfl fun H4 g=>?_;(conv=>whnf);exact⟨c,i+1,by rw[p,G_ (by rw[u];simp;omega)],rfl,g⟩
def C3(a:ReM):ReM:=.alt a .eps
def W8(q:Option ReM)(p:ReM):ReM:=match q with
 | none=>p
 | some q=>.cat q p
def D0(a:ReM)(m:Nat):Nat→Option ReM
 | 0=>none
 | k+1=>some (W8 (D0 a m k) (if k<m then a else C3 a))
def F5(a:ReM)(m:Nat)(n:Int):ReM:=
 if n<0 then(if m=0 then .star a else .cat ((D0 a m m).getD .eps) (.star a))else if n=0 then .eps else(D0 a m n.toNat).getD .eps
structure AF where
 place:Int
 alt:Option ReM
 meet:Option ReM
 sign:Nat
 row:Option ReM
 factor:Option ReM
def AC(f:AF):AF:=match f.factor with
 | none=>f
 | some p=>{f with row:=some (W8 f.row p),factor:=none}
def CJ(f:AF):AF:=
 let g:=AC f
 let r:=g.row.getD .eps
 {g with meet:=some (match g.meet with | none=>r | some q=>if g.sign=38 then .and_ q r else .minus q r),row:=none}
def CC(f:AF):AF:=
 let g:=CJ f
 let r:=g.meet.getD .eps
 {g with alt:=some (match g.alt with | none=>r | some q=>.alt q r),meet:=none}
def IB(place:Int):AF:=⟨place,none,none,0,none,none⟩
def IL(t:ByteArray)(i:Nat):Bool:=decide (48≤bt t i∧bt t i≤57)
def DA(t:ByteArray):Nat→Nat→Nat→Nat×Nat
 | 0,i,v=>(v,i)
 | k+1,i,v=>if IL t i then DA t k (i+1) (10*v+(bt t i-48))else(v,i)
def upM(t:ByteArray)(m i:Nat):Sum (Nat×Nat) (Int×Nat):=
 if bt t i=44 then(if bt t (i+1)=125 then .inr (-1,i+1)else if IL t (i+1)then .inr (((DA t 3 (i+1) 0).1:Int),(DA t 3 (i+1) 0).2)else .inl (20,i+1))else .inr ((m:Int),i)
def Mq(t:ByteArray)(from_ m:Nat)(n:Int)(i:Nat):Sum (Nat×Nat) (Nat×Int×Nat):=
 if bt t i=125 then(if 255<m∨255<n∨(0≤n∧n<(m:Int))then .inl (22,from_)else .inr (m,n,i+1))else .inl (20,i)
def Du(t:ByteArray)(from_:Nat):Sum (Nat×Nat) (Nat×Int×Nat):=
 if IL t (from_+1)then(match upM t (DA t 3 (from_+1) 0).1 (DA t 3 (from_+1) 0).2 with
  | .inl e=>.inl e
  | .inr (n,i)=>Mq t from_ (DA t 3 (from_+1) 0).1 n i)
 else .inl (20,from_+1)
theorem FG{t:ByteArray}:∀(k i v:Nat),i≤(DA t k i v).2∧(DA t k i v).2≤i+k∧(i≤t.size→(DA t k i v).2≤t.size)
 | 0,i,v=>⟨J_ _,J_ _,fun h=>h⟩
 | k+1,i,v=>by
   unfold DA;split
   ·rename_i h;have⟨b,c,a⟩:=FG (t:=t) k (i+1) (10*v+(bt t i-48));unfold IL at h;have h:=of_decide_eq_true h;have d:i<t.size:=DR (by omega);exact⟨by omega,by omega,fun _=>a (by omega)⟩
   ·exact⟨J_ _,by omega,fun h=>h⟩
theorem LB{t:ByteArray}:∀(k i v:Nat),(DA t k i v).1<(v+1)*10^k
 | 0,i,v=>by unfold DA;simp
 | k+1,i,v=>by
   unfold DA;split
   ·rename_i h;unfold IL at h;have h:=of_decide_eq_true h;have a:=LB (t:=t) k (i+1) (10*v+(bt t i-48));refine Ybq a ?_;rw[Nat.pow_succ,Nat.mul_comm (10^k) 10,←Nat.mul_assoc];exact Nat.mul_le_mul_right _ (by omega)
   ·show v<(v+1)*10^(k+1);have:1≤10^(k+1):=Nat.one_le_pow _ _ (by omega);have:=Nat.mul_le_mul (J_ (v+1)) this;omega
theorem Md{t:ByteArray}{p m j:Nat}{n:Int}(h:Du t p= .inr (m,n,j)):p<j∧j≤t.size∧m≤255∧n≤255∧(0≤n→(m:Int)≤n)∧ -1≤n:=by
 unfold Du at h;split at h
 ·obtain⟨a1,a2,-⟩:=FG (t:=t) 3 (p+1) 0;generalize DA t 3 (p+1) 0=q at h a1 a2;split at h
  ·cases h
  ·rename_i e c a;have b:q.2≤c∧ -1≤e:=by
    unfold upM at a;split at a
    ·split at a
     ·cases a;exact⟨by omega,by omega⟩
     ·split at a
      ·obtain⟨f,g,-⟩:=FG (t:=t) 3 (q.2+1) 0;cases a;exact⟨by omega,by omega⟩
      ·cases a
    ·cases a;exact⟨J_ _,by omega⟩
   unfold Mq at h;split at h
   ·rename_i d;split at h
    ·cases h
    ·rename_i k;cases h;have:c<t.size:=DR (by omega);refine⟨by omega,by omega,?_,?_,?_,b.2⟩<;>omega
   ·cases h
 ·cases h
def Hj(c:Nat):Bool:=c==42|| c==43|| c==63|| c==123
def Gt(t:ByteArray)(i:Nat):Sum (Nat×Nat) (Nat×Int×Nat):=
 if bt t i=42 then .inr (0,-1,i+1)else if bt t i=43 then .inr (1,-1,i+1)else if bt t i=63 then .inr (0,1,i+1)else Du t i
structure RdS where
 i:Nat
 f:AF
 fs:List AF
def BF(t:ByteArray)(s:RdS):Sum (Nat×Nat) RdS:=
 if Hj (bt t s.i)then(match s.f.factor with
  | none=>.inl (20,s.i)
  | some a=>match Gt t s.i with
    | .inl e=>.inl e
    | .inr (m,n,k)=>.inr ⟨k,{s.f with factor:=some (F5 a m n)},s.fs⟩)
 else if bt t s.i=124 then .inr ⟨s.i+1,CC s.f,s.fs⟩
 else if bt t s.i=38∨bt t s.i=45 then .inr ⟨s.i+1,{CJ s.f with sign:=bt t s.i},s.fs⟩
 else if bt t s.i=41 then(match s.fs with
  | []=>.inl (20,s.i)
  | g::r=>.inr ⟨s.i+1,{g with factor:=(CC s.f).alt},r⟩)
 else if bt t s.i=40 then(if 1000≤s.fs.length then .inl (23,s.i)else .inr ⟨s.i+1,IB s.i,AC s.f::s.fs⟩)
 else match BI t s.i with
  | .inl e=>.inl (10,e)
  | .inr (x,k)=>.inr ⟨k,{AC s.f with factor:=some (.cls x)},s.fs⟩
theorem Rn{t:ByteArray}{s b:RdS}(h:BF t s= .inr b)(hi:s.i<t.size):s.i<b.i∧b.i≤t.size:=by
 unfold BF at h;split at h
 ·rename_i d;split at h
  ·cases h
  ·split at h
   ·cases h
   ·rename_i m n k a;cases h;unfold Gt at a;split at a
    ·cases a;exact⟨Ydf _,hi⟩
    ·split at a
     ·cases a;exact⟨Ydf _,hi⟩
     ·split at a
      ·cases a;exact⟨Ydf _,hi⟩
      ·have:=Md a;exact⟨this.1,this.2.1⟩
 ·split at h
  ·cases h;exact⟨Ydf _,hi⟩
  ·split at h
   ·cases h;exact⟨Ydf _,hi⟩
   ·split at h
    ·split at h
     ·cases h
     ·cases h;exact⟨Ydf _,hi⟩
    ·split at h
     ·split at h
      ·cases h
      ·cases h;exact⟨Ydf _,hi⟩
     ·split at h
      ·cases h
      ·rename_i x k c;cases h;exact MN c
def XV(s:RdS):Sum (Nat×Int) ReM:=match s.fs with
 | []=>let r:=(CC s.f).alt.getD .eps;if 2000<r.nodes then .inl (24,0)else .inr r
 | _::_=>.inl (21,s.f.place)
def AcM(e:Nat×Nat):Nat×Int:=(e.1,(e.2:Int))
def Gu(t:ByteArray):Nat→RdS→Sum (Nat×Int) ReM
 | 0,s=>XV s
 | n+1,s=>if s.i<t.size then(match BF t s with
   | .inl e=>.inl (AcM e)
   | .inr s'=>Gu t n s')else XV s
def BQ(t:ByteArray)(s:RdS):Sum (Nat×Int) ReM:=Gu t (t.size-s.i) s
theorem EP{t:ByteArray}:∀(n m:Nat) (s:RdS),t.size-s.i≤n→t.size-s.i≤m→Gu t n s=Gu t m s
 | 0,0,s,_,_=>rfl
 | 0,m+1,s,h,_=>by unfold Gu;rw[G_ (by omega)]
 | n+1,0,s,_,h=>by unfold Gu;rw[G_ (by omega)]
 | n+1,m+1,s,h1,h2=>by
   unfold Gu;by_cases a:s.i<t.size
   ·rw[I_ a,I_ a];cases hs:BF t s with
    | inl e=>rfl
    | inr b=>
      have:=Rn hs a;exact EP n m b (by omega) (by omega)
   ·rw[G_ a,G_ a]
theorem Ed{t:ByteArray}{s a:RdS}(hi:s.i<t.size)(h:BF t s= .inr a):BQ t s=BQ t a:=by
 have b:=Rn h hi;have e:BQ t s=Gu t (t.size-s.i-1+1) s:=EP _ _ _ (J_ _) (by omega);rw[e,Gu,I_ hi,h];exact EP _ _ _ (by omega) (J_ _)
theorem E1{t:ByteArray}{s:RdS}{e:Nat×Nat}(hi:s.i<t.size)(h:BF t s= .inl e):BQ t s= .inl (AcM e):=by
 have a:BQ t s=Gu t (t.size-s.i-1+1) s:=EP _ _ _ (J_ _) (by omega);rw[a,Gu,I_ hi,h]
theorem Rl{t:ByteArray}{s:RdS}(hi:¬s.i<t.size):BQ t s=XV s:=by
 unfold BQ;rw[show t.size-s.i=0 by omega];rfl
def GW(t:ByteArray):Sum (Nat×Int) ReM:=if 1048576<t.size then .inl (1,0)else BQ t ⟨0,IB (-1),[]⟩
theorem E_.rebase{B:Nat→Prop}{H0 H:Aa}{ps:List Pc}(a:E_ B H0 H ps):E_ B H H ps:=⟨A_.refl _ _,fun k b=>a.up b,J_ _,a.oks,a.rng,a.dis⟩
theorem E_.widen{B:Nat→Prop}{H0 H H':Aa}{ps:List Pc}(d:E_ B H0 H ps)(g:A_ (D_ H) H H')(N:Nat→Prop)(f:∀k,N k→H.size≤k∧k<H'.size):E_ (fun k=>B k∨N k) H' H' ps:=by
 have a:=d.call g;refine⟨A_.refl _ _,fun k b=>?_,J_ _,a.oks,fun p e k b=>⟨fun c=>?_,(a.rng p e k b).2⟩,a.dis⟩
 ·rcases b with b | b
  ·exact a.up b
  ·exact(f k b).2
 ·rcases c with c | c
  ·exact(d.rng p e k b).1 c
  ·have:=(d.rng p e k b).2;have:=(f k c).1;omega
inductive ROp
 | alt
 | cat
 | and_
 | minus
def opR:ROp→ReM→ReM→ReM
 | .alt=>.alt
 | .cat=>.cat
 | .and_=>.and_
 | .minus=>.minus
def opF:ROp→FuncId
 | .alt=>143
 | .cat=>180
 | .and_=>163
 | .minus=>164
theorem V7(op:ROp)(a b:ReM):(opR op a b).nodes=1+a.nodes+b.nodes:=by cases op<;>rfl
def szR(r:ReM):Nat:=min r.nodes 2001
def Ac(r:ReM)(fn:v_):List v_:=[C_ ((szR r:Nat):Int),fn]
inductive BW(B:Nat→Prop)(H:Aa):v_→ReM→Prop
 | leaf {b:Nat} {r:ReM}:B b→K_ H b 66 [Av r]→BW B H (.func (.func 188) #[] #[H_ b]) r
 | join {b1 b2 b3:Nat} {va vb:v_} {ra rb:ReM} (op:ROp):B b1→B b2→B b3→K_ H b1 252 [.func (.func (opF op)) #[] #[]]→K_ H b2 204 (Ac ra va)→K_ H b3 204 (Ac rb vb)→
   BW B H va ra→BW B H vb rb→BW B H (.func (.func 166) #[] #[H_ b1,H_ b2,H_ b3]) (opR op ra rb)
 | star {b:Nat} {va:v_} {ra:ReM}:B b→K_ H b 204 (Ac ra va)→BW B H va ra→BW B H (.func (.func 202) #[] #[H_ b]) (.star ra)
theorem BW.frame{B B':Nat→Prop}{H H':Aa}{v:v_}{r:ReM}(h:BW B H v r)(k:A_ B H H')(s:∀k,B k→B' k):BW B' H' v r:=by
 induction h with
 | leaf a b=>exact .leaf (s _ a) (b.agr k a)
 | join op a b e f g j _ _ c d=>exact .join op (s _ a) (s _ b) (s _ e) (f.agr k a) (g.agr k b) (j.agr k e) c d
 | star a b _ l=>exact .star (s _ a) (b.agr k a) l
theorem UU{B:Nat→Prop}{H H':Aa}(b:A_ B H H')(c:∀k,B k→k<H.size){k:Nat}(a:B k):k<H'.size:=by
 have h:=b k a;rw[Yad (c k a)]at h;exact(Yaa.1 h).1
theorem op_p(op:ROp)(a b:ReM)(H:Aa):AZ prog (opF op) #[Av a,Av b] H (Av (opR op a b)):=by
 have⟨T1,c,d⟩:=BP a;have⟨T2,e,e2⟩:=BP b;cases op with
 | alt=>
   show AZ prog 143 #[Av a,Av b] H (.iface 174 (.agg #[Av a,Av b]));rw[d,e2];refine Al.of_vc func143 rfl (call143 _) (Ah underlying174 rfl _ rfl [.iface T1 c,.iface T2 e] rfl ?_);(conv=>whnf);exact⟨rfl,A_.refl _ _⟩
 | cat=>
   show AZ prog 180 #[Av a,Av b] H (.iface 179 (.agg #[Av a,Av b]));rw[d,e2];refine Al.of_vc func180 rfl (call180 _) (Ah underlying179 rfl _ rfl [.iface T1 c,.iface T2 e] rfl ?_);(conv=>whnf);exact⟨rfl,A_.refl _ _⟩
 | and_=>
   show AZ prog 163 #[Av a,Av b] H (.iface 210 (.agg #[Av a,Av b]));rw[d,e2];refine Al.of_vc func163 rfl (call163 _) (Ah underlying210 rfl _ rfl [.iface T1 c,.iface T2 e] rfl ?_);(conv=>whnf);exact⟨rfl,A_.refl _ _⟩
 | minus=>
   show AZ prog 164 #[Av a,Av b] H (.iface 211 (.agg #[Av a,Av b]));rw[d,e2];refine Al.of_vc func164 rfl (call164 _) (Ah underlying211 rfl _ rfl [.iface T1 c,.iface T2 e] rfl ?_);(conv=>whnf);exact⟨rfl,A_.refl _ _⟩
theorem Lw(cap:Array v_):(((#[]:Array v_).toList++([]:List v_))++cap.toList).toArray=cap:=by simp
theorem AeD{B:Nat→Prop}{H:Aa}{v:v_}{r:ReM}(h:BW B H v r)(w:∀k,B k→k<H.size):∃g cap,v= .func (.func g) #[] cap∧∀H',A_ B H H'→AZ prog g cap H' (Av r):=by
 induction h with
 | @leaf b r h1 h2=>
   refine⟨_,_,rfl,fun H' c=>?_⟩;have x:=h2.agr c h1;refine Al.of_vc func188 rfl (call188 _) (B_ (x.cellE rfl) trivial ?_);(conv=>whnf);exact⟨rfl,A_.refl _ _⟩
 | @join b1 b2 b3 va vb ra rb op h1 h2 h3 h4 h5 h6 _ _ ih1 ih2=>
   refine⟨_,_,rfl,fun H' c=>?_⟩;have q:=h4.agr c h1;have t:=h5.agr c h2;have u:=h6.agr c h3;obtain⟨g1,y,rfl,p1⟩:=ih1;obtain⟨g2,D,rfl,p2⟩:=ih2;refine Al.of_vc func166 rfl (call166 _) (Au.held (D_ H') 9 (sq [0,1,2,4,5] (.f 3 (.f 6 (.f 7 (.f 8 .e))))) rfl (by kernel_rfl) (B_ (q.cellE rfl) q.lt (F_ ?_)));refine B_ (t.cellE rfl) t.lt (F_ ?_);refine B_ (u.cellE rfl) u.lt ?_;(conv=>whnf);rw[Lw];refine Ak (p1 H' c) fun G1 a=>?_;refine⟨a,?_⟩;have m:A_ B H G1:=c.trans (a.mono fun k l=>UU c w l);(conv=>whnf);rw[Lw];refine Ak (p2 G1 m) fun G2 n=>?_;have d:=a.trans (n.mono fun k l=>Ae a l);refine⟨d,?_⟩;refine Ak (op_p op ra rb G2) fun G3 p=>?_;have j:=d.trans (p.mono fun k l=>Ae d l);refine⟨j,?_⟩;(conv=>whnf);refine⟨j,?_⟩;exact⟨rfl,j⟩
 | @star b va ra h1 h2 _ ih=>
   refine⟨_,_,rfl,fun H' c=>?_⟩;have z:=h2.agr c h1;obtain⟨g1,y,rfl,p1⟩:=ih;refine Al.of_vc func202 rfl (call202 _) (F_ ?_);refine lT (z.cellE rfl) ?_;(conv=>whnf);rw[Lw];refine Ak (p1 H' c) fun G1 a=>?_;have⟨T1,A,C⟩:=BP ra;show _;rw[show Av (.star ra)= .iface 182 (.agg #[Av ra])from rfl];rw[C];refine Ah underlying182 rfl _ rfl [.iface T1 A] rfl ?_;(conv=>whnf);exact⟨rfl,a⟩
structure Qj(B:Nat→Prop)(H:Aa)(ps:List Pc)(r:ReM)(v:v_)(H':Aa):Prop where
 ex:∃(B':Nat→Prop) (fn:v_),v= .agg (Ac r fn).toArray∧(∀k,B k→B' k)∧A_ (D_ H) H H'∧E_ B' H' H' ps∧BW B' H' fn r
theorem BW.fn{B:Nat→Prop}{H:Aa}{v:v_}{r:ReM}(h:BW B H v r):∃g c,v= .func (.func g) #[] c:=by
 cases h<;>exact⟨_,_,rfl⟩
theorem Cm{l:List v_}{r:ReM}{v:v_}(h:l.length=2):As l 0 (Ac r v)=Ac r v:=Bq (by rw[h];rfl)
theorem Ax{H:Aa}{b:Nat}{r:ReM}{v:v_}(h:K_ H b 204 (Ac r v)):AL H b 0 (Ac r v):=h.cells (fun j v a=>by rw[P_];exact a)
def Aq:List v_:=[C_ 0,.nilFunc]
theorem CE:(prog.info? 204).bind (·.zero)=some (.agg Aq.toArray):=by kernel_rfl
theorem Qv(n:Nat)(a:n<1152921504606846976)(H:Aa):AZ prog 165 #[C_ n] H (.int .i64 ((min n 2001:Nat):Int)):=by
 refine Al.of_vc func165 rfl (call165 _) (AiK ?_);(conv=>whnf);refine⟨?_,A_.refl _ _⟩
 congr 1
 split<;>omega
theorem Ti(r:ReM):szR r≤2001:=Nat.min_le_right _ _
theorem Pf{B:Nat→Prop}{H0 H:Aa}{ps:List Pc}{r:ReM}(n:E_ B H0 H ps)(p:r.nodes=1):Al prog 177 #[Av r] H (Qj B H ps r):=by
 refine Al.of_vc func177 rfl (call177 _) ?_;have⟨T1,t,m⟩:=BP r;rw[m];refine BC [.iface T1 t] rfl ?_;intro b H1 u w g h;refine Aw (.agg Aq.toArray) Aq CE rfl ?_;intro q H2 x y j c;refine Ah underlying204 rfl _ rfl (Ac r (.func (.func 188) #[] #[H_ b])) (by unfold Ac szR;rw[p];rfl) ?_;refine Zaa (cs:=Ac r (.func (.func 188) #[] #[H_ b])) rfl j (by simp[Ac,Aq]) rfl ?_;intro H3 d e z;rw[Cm rfl]at d;refine lN (cs:=Ac r (.func (.func 188) #[] #[H_ b])) (Ax d) ?_;have l:A_ (D_ H) H H2:=(h.mono fun k a=>by have:k<H.size:=a;omega).trans (c.mono fun k a=>by have:k<H.size:=a;omega);have f:A_ (D_ H) H H3:=l.trans (e.mono fun k a=>by have:k<H.size:=a;omega);have A:K_ H3 b 66 [Av r]:=by
  rw[m];exact(g.agr c (show b<q by omega)).agr e (show b≠q by omega)
 exact⟨_,_,rfl,fun k a=>.inl a,f,n.widen f (fun k=>k=b) (fun k a=>by omega),.leaf (.inr rfl) A⟩
theorem GT{B:Nat→Prop}{H0 H:Aa}{ps:List Pc}{ra rb:ReM}{va vb:v_}(op:ROp)(I:E_ B H0 H ps)(J:BW B H va ra)(K:BW B H vb rb):
  Al prog 142 #[.agg (Ac ra va).toArray,.agg (Ac rb vb).toArray,.func (.func (opF op)) #[] #[]] H (Qj B H ps (opR op ra rb)):=by
 obtain⟨g1,L,rfl⟩:=J.fn;obtain⟨g2,M,rfl⟩:=K.fn;have z1:=Ti ra;have z2:=Ti rb;refine Al.of_vc func142 rfl (call142 _) (BC (Ac ra (.func (.func g1) #[] L)) rfl ?_);intro c H1 P Q A C;refine BC (Ac rb (.func (.func g2) #[] M)) rfl ?_;intro d H2 R S D r;refine BC [.func (.func (opF op)) #[] #[]] rfl ?_;intro f H3 T U E n;refine Aw (.agg Aq.toArray) Aq CE rfl ?_;intro q H4 V W t g;have N:K_ H4 c 204 (Ac ra (.func (.func g1) #[] L)):=((A.agr r (show c<d by omega)).agr n (show c<f by omega)).agr g (show c<q by omega);have O:K_ H4 d 204 (Ac rb (.func (.func g2) #[] M)):=(D.agr n (show d<f by omega)).agr g (show d<q by omega);have X:K_ H4 f 252 [.func (.func (opF op)) #[] #[]]:=E.agr g (show f<q by omega);refine F_ ?_;refine lT (N.cellE rfl) ?_;(conv=>whnf);rw[n_ (x:=1+((szR ra:Nat):Int)) (by omega)];refine F_ ?_;refine lT (O.cellE rfl) ?_;(conv=>whnf);rw[n_ (x:=1+((szR ra:Nat):Int)+((szR rb:Nat):Int)) (by omega)];rw[show 1+((szR ra:Nat):Int)+((szR rb:Nat):Int)=((1+szR ra+szR rb:Nat):Int) by omega];refine Ak (Qv (1+szR ra+szR rb) (by omega) H4) fun H5 j=>?_;have F:min (1+szR ra+szR rb) 2001=szR (opR op ra rb):=by unfold szR;rw[V7];omega
 rw[F];have Y:=Ac (opR op ra rb) (.func (.func 166) #[] #[H_ f,H_ c,H_ d]);refine Ah underlying204 rfl _ rfl (Ac (opR op ra rb) (.func (.func 166) #[] #[H_ f,H_ c,H_ d])) rfl (Zaa (cs:=Ac (opR op ra rb) (.func (.func 166) #[] #[H_ f,H_ c,H_ d])) rfl (t.agr j t.lt) (by simp[Ac,Aq]) rfl ?_);intro H6 u w Z;rw[Cm rfl]at u;refine lN (cs:=Ac (opR op ra rb) (.func (.func 166) #[] #[H_ f,H_ c,H_ d])) (Ax u) ?_;have y:A_ (D_ H) H H4:=(((C.mono fun k a=>by have:k<H.size:=a;omega).trans (r.mono fun k a=>by have:k<H.size:=a;omega)).trans (n.mono fun k a=>by have:k<H.size:=a;omega)).trans (g.mono fun k a=>by have:k<H.size:=a;omega);have p:A_ (D_ H) H H6:=(y.trans (j.mono fun k a=>Ae y a)).trans (w.mono fun k a=>by have:k<H.size:=a;omega);have l5:=Ap j;have m:∀{b:Nat} {e:x_} {l:List v_},K_ H4 b e l→b≠q→K_ H6 b e l:=fun h G=>(h.agr j h.lt).agr w G;have z:A_ B H H6:=p.mono fun k a=>I.up a;exact⟨_,_,rfl,fun k a=>.inl a,p,I.widen p (fun k=>k=f∨k=c∨k=d) (fun k a=>by rcases a with rfl | rfl | rfl<;>omega),
  .join op (.inr (.inl rfl)) (.inr (.inr (.inl rfl))) (.inr (.inr (.inr rfl))) (m X (by omega)) (m N (by omega)) (m O (by omega)) (J.frame z fun k a=>.inl a) (K.frame z fun k a=>.inl a)⟩
theorem PJ{B:Nat→Prop}{H0 H:Aa}{ps:List Pc}{ra:ReM}{va:v_}(t:E_ B H0 H ps)(u:BW B H va ra):
  Al prog 189 #[.agg (Ac ra va).toArray] H (Qj B H ps (.star ra)):=by
 obtain⟨g1,w,rfl⟩:=u.fn;have E:=Ti ra;refine Al.of_vc func189 rfl (call189 _) (BC (Ac ra (.func (.func g1) #[] w)) rfl ?_);intro c H1 y z l m;refine Aw (.agg Aq.toArray) Aq CE rfl ?_;intro q H4 A C e f;have n:K_ H4 c 204 (Ac ra (.func (.func g1) #[] w)):=l.agr f (show c<q by omega);refine F_ ?_;refine lT (n.cellE rfl) ?_;(conv=>whnf);rw[n_ (x:=1+((szR ra:Nat):Int)) (by omega)];rw[show 1+((szR ra:Nat):Int)=((1+szR ra:Nat):Int) by omega];refine Ak (Qv (1+szR ra) (by omega) H4) fun H5 b=>?_;have p:min (1+szR ra) 2001=szR (.star ra):=by unfold szR;show _=min (1+ra.nodes) 2001;omega
 rw[p];refine Ah underlying204 rfl _ rfl (Ac (.star ra) (.func (.func 202) #[] #[H_ c])) rfl (Zaa (cs:=Ac (.star ra) (.func (.func 202) #[] #[H_ c])) rfl (e.agr b e.lt) (by simp[Ac,Aq]) rfl ?_);intro H6 g h D;rw[Cm rfl]at g;refine lN (cs:=Ac (.star ra) (.func (.func 202) #[] #[H_ c])) (Ax g) ?_;have j:A_ (D_ H) H H4:=(m.mono fun k a=>by have:k<H.size:=a;omega).trans (f.mono fun k a=>by have:k<H.size:=a;omega);have d:A_ (D_ H) H H6:=(j.trans (b.mono fun k a=>Ae j a)).trans (h.mono fun k a=>by have:k<H.size:=a;omega);have l5:=Ap b;have r:A_ B H H6:=d.mono fun k a=>t.up a;exact⟨_,_,rfl,fun k a=>.inl a,d,t.widen d (fun k=>k=c) (fun k a=>by omega),.star (.inr rfl) ((n.agr b n.lt).agr h (show c≠q by omega)) (u.frame r fun k a=>.inl a)⟩
theorem Pk{B:Nat→Prop}{H0 H:Aa}{ps:List Pc}{ra:ReM}{va:v_}(E:E_ B H0 H ps)(F:BW B H va ra):
  Al prog 190 #[.agg (Ac ra va).toArray] H (Qj B H ps (C3 ra)):=by
 obtain⟨g1,l,rfl⟩:=F.fn;refine Al.of_vc func190 rfl (call190 _) (BC (Ac ra (.func (.func g1) #[] l)) rfl ?_);intro G H1 m L n g;refine Aw (.agg Aq.toArray) Aq CE rfl ?_;intro q H4 p t u d;have I:K_ H4 G 204 (Ac ra (.func (.func g1) #[] l)):=n.agr d (show G<q by omega);have b:A_ (D_ H) H H4:=(g.mono fun k a=>by have:k<H.size:=a;omega).trans (d.mono fun k a=>by have:k<H.size:=a;omega);have w:=(E.skip m g).box p t u d;refine Au.heldZ (D_ H4) [5] (sq [0,1,2] (.f 3 (.f 4 (.f 5 .e)))) rfl (by kernel_rfl) (L_ (cs:=Ac ra (.func (.func g1) #[] l)) (Ax I) I.lt (Ah underlying167 rfl _ rfl [] rfl (Aj.mk (Pf (r:=.eps) w rfl) ?_)));rintro _ H5 ⟨B1,O,rfl,J,a1,x,ge⟩;refine⟨a1,?_⟩;have h:A_ B H H5:=(b.trans (a1.mono fun k a=>Ae b a)).mono fun k a=>E.up a;refine Aj.mk (GT .alt x (F.frame h J) ge) ?_;rintro _ H6 ⟨B2,P,rfl,M,a2,y,K⟩;have j:=a1.trans (a2.mono fun k a=>Ae a1 a);refine⟨j,?_⟩;obtain⟨g2,z,rfl⟩:=K.fn;refine AX (cs:=Ac (C3 ra) (.func (.func g2) #[] z)) y _ rfl (EB _ _) (by simp[Ac,Aq]) rfl fun H7 c A N=>?_;rw[QO,Cm rfl]at c;have C:K_ H7 q 204 (Ac (C3 ra) (.func (.func g2) #[] z)):=c.blk _ (EB _ _);refine lN (cs:=Ac (C3 ra) (.func (.func g2) #[] z)) (Ax C) ?_;have D:A_ (D_ H) H H6:=b.trans (j.mono fun k a=>Ae b a);exact⟨B2,_,rfl,fun k a=>M k (J k a),D.trans (A.mono fun k a=>by have:k<H.size:=a;omega),c.lft.rebase,K.frame c.old fun k a=>a⟩
theorem JN(a:ReM)(m:Nat):D0 a m 1=some (if 0<m then a else C3 a):=rfl
theorem VM(a:ReM)(m k:Nat)(h:1≤k):∃r,D0 a m k=some r:=by
 obtain⟨j,rfl⟩:∃j,k=j+1:=⟨k-1,by omega⟩;exact⟨_,rfl⟩
theorem Ix(a:ReM)(m k:Nat)(h:1≤k):(D0 a m (k+1)).getD .eps= .cat ((D0 a m k).getD .eps) (if k<m then a else C3 a):=by
 have⟨r,b⟩:=VM a m k h;show(some (W8 (D0 a m k) (if k<m then a else C3 a))).getD .eps=_;rw[b];rfl
def Tr(ps:List Pc)(b3 q6 q7:Nat)(a out:ReM)(va fn:v_):List Pc:=ps++[pB 204 b3 (Ac a va),pB 204 q6 Aq,pB 204 q7 (Ac out fn)]
structure Ad6(B:Nat→Prop)(H:Aa)(ps:List Pc)(b3 q6 q7:Nat)(a out:ReM)(va:v_)(G:Aa):Prop where
 ex:∃(B':Nat→Prop) (fn:v_),(∀k,B k→B' k)∧A_ (D_ H) H G∧E_ B' G G (Tr ps b3 q6 q7 a out va fn)∧BW B' G va a∧BW B' G fn out
theorem UK{B:Nat→Prop}{H0 H:Aa}{ps:List Pc}{a:ReM}{va:v_}{m:Nat}{n:Int}(Y:E_ B H0 H ps)(Q:BW B H va a)(hm:m≤255)(b7: -1≤n)(b8:n≤255)(b9:0≤n→(m:Int)≤n):
  Al prog 204 #[.agg (Ac a va).toArray,C_ m,C_ n] H (Qj B H ps (F5 a m n)):=by
 obtain⟨g1,l,rfl⟩:=Q.fn;refine Al.of_vc func204 rfl (call204 _) (BC (Ac a (.func (.func g1) #[] l)) rfl ?_);intro S H1 ad ae ah T;have st1:=Y.box ad ae ah T;refine Aw (.agg Aq.toArray) Aq CE rfl ?_;intro N H2 ai aj ak a0;have A:=st1.box ai aj ak a0;have p:A_ (D_ H) H H2:=(T.mono fun k b=>by have:k<H.size:=b;omega).trans (a0.mono fun k b=>by have:k<H.size:=b;omega);have a5:A_ B H H2:=p.mono fun k b=>Y.up b;rw[YaC]at A;have am:=Q.frame a5 fun k b=>b;have a6:K_ H2 S 204 (Ac a (.func (.func g1) #[] l)):=A.blk _ (EB _ _);by_cases h1:m=0∧n<0
 ·have y:((m:Int)==0)=true:=by rw[h1.1];rfl
  have Z:decide (n<0)=true:=g_ h1.2;(conv=>whnf);rw[y];(conv=>whnf);rw[Z];refine L_ (cs:=Ac a (.func (.func g1) #[] l)) (Ax a6) trivial (Aj.mk (PJ A am) ?_);rintro _ H3 ⟨B1,f1,rfl,q,a1,z,gs⟩;obtain⟨g2,g,rfl⟩:=gs.fn;refine AX (cs:=Ac (.star a) (.func (.func g2) #[] g)) z _ rfl (U_ ps _ 1) (by simp[Ac,Aq]) rfl fun H4 d C a7=>?_;rw[I',Cm rfl]at d;have t:K_ H4 N 204 (Ac (.star a) (.func (.func g2) #[] g)):=d.blk _ (U_ ps _ 1);refine lN (cs:=Ac (.star a) (.func (.func g2) #[] g)) (Ax t) ?_;have e:F5 a m n= .star a:=by unfold F5;rw[I_ h1.2,I_ h1.1]
  rw[e];exact⟨B1,_,rfl,q,(p.trans (a1.mono fun k b=>Ae p b)).trans (C.mono fun k b=>by have:k<H.size:=b;omega),d.lft.rebase,gs.frame d.old fun k b=>b⟩
 by_cases h2:m=0∧n=0
 ·have y:((m:Int)==0)=true:=by rw[h2.1];rfl
  have Z:decide (n<0)=false:=m_;have d3:(n==0)=true:=by rw[h2.2];rfl
  (conv=>whnf);rw[y];(conv=>whnf);rw[Z];(conv=>whnf);rw[y];(conv=>whnf);rw[d3];refine Ah underlying167 rfl _ rfl [] rfl (Aj.mk (Pf (r:=.eps) A rfl) ?_);rintro _ H3 ⟨B1,f1,rfl,q,a1,z,gs⟩;obtain⟨g2,g,rfl⟩:=gs.fn;refine AX (cs:=Ac .eps (.func (.func g2) #[] g)) z _ rfl (U_ ps _ 1) (by simp[Ac,Aq]) rfl fun H4 d C a7=>?_;rw[I',Cm rfl]at d;have t:K_ H4 N 204 (Ac .eps (.func (.func g2) #[] g)):=d.blk _ (U_ ps _ 1);refine lN (cs:=Ac .eps (.func (.func g2) #[] g)) (Ax t) ?_;have e:F5 a m n= .eps:=by unfold F5;rw[G_ (by omega),I_ h2.2]
  rw[e];exact⟨B1,_,rfl,q,(p.trans (a1.mono fun k b=>Ae p b)).trans (C.mono fun k b=>by have:k<H.size:=b;omega),d.lft.rebase,gs.frame d.old fun k b=>b⟩
 by_cases U:m=0;have y:((m:Int)==0)=true:=by rw[U];rfl
 (conv=>whnf);rw[y];(conv=>whnf);rw[show decide (n<0)=false from m_];(conv=>whnf);rw[y];(conv=>whnf);rw[show(n==0)=false from beq_eq_false_iff_ne.2 (by omega)]
 rotate_left
 have y:((m:Int)==0)=false:=beq_eq_false_iff_ne.2 (by omega);(conv=>whnf);rw[y];(conv=>whnf);rw[y]
 all_goals
  refine L_ (cs:=Ac a (.func (.func g1) #[] l)) (Ax a6) trivial (Aw (.agg Aq.toArray) Aq CE rfl ?_);intro V H3 ao ap aq a8;have z:=A.box ao ap aq a8;rw[YaC]at z;refine AX (cs:=Ac a (.func (.func g1) #[] l)) z _ rfl (U_ ps _ 2) (by simp[Ac,Aq]) rfl fun H4 d C a7=>?_;rw[I']at d;replace d:E_ B H0 H4 (Tr ps S N V a a (.func (.func g1) #[] l) (.func (.func g1) #[] l)):=by
   have e:As Aq 0 (Ac a (.func (.func g1) #[] l))=Ac a (.func (.func g1) #[] l):=Cm rfl;have:=d;rw[e]at this;exact this
  have O:A_ (D_ H) H H4:=(p.trans (a8.mono fun k b=>by have:=Ae p b;omega)).trans (C.mono fun k b=>by have:k<H.size:=b;omega);have D:A_ B H H4:=O.mono fun k b=>Y.up b;have n3:H.size≤V:=by have:=Ap p;omega
  have n6:H.size≤N:=by have:=Ap (show A_ (D_ H) H H1 from T.mono fun k b=>by have:k<H.size:=b;omega);omega
  (conv=>whnf);refine Af.cut [] (fun _:Unit=>[]) (fun _ G=>Ad6 B H ps S N V a ((D0 a m 1).getD .eps) (.func (.func g1) #[] l) G) ?_ ?_
  ·by_cases U:m=0
   ·have y:((m:Int)==0)=true:=by rw[U];rfl
    (conv=>whnf);rw[y];refine L_ (cs:=Ac a (.func (.func g1) #[] l)) (Ax (d.blk _ (EB _ _))) trivial (Aj.mk (Pk d (Q.frame D fun k b=>b)) ?_);rintro _ H5 ⟨B1,f1,rfl,q,a1,au,gs⟩;obtain⟨g2,g,rfl⟩:=gs.fn;refine AX (cs:=Ac (C3 a) (.func (.func g2) #[] g)) au _ rfl (U_ ps _ 2) (by simp[Ac]) rfl fun H6 E aw bd=>?_;unfold Tr at E;rw[I']at E;have e6:As (Ac a (.func (.func g1) #[] l)) 0 (Ac (C3 a) (.func (.func g2) #[] g))=Ac (C3 a) (.func (.func g2) #[] g):=Cm rfl;rw[e6]at E;(conv=>whnf);have a9:A_ (D_ H) H H6:=(O.trans (a1.mono fun k b=>Ae O b)).trans (aw.mono fun k b=>by have:k<H.size:=b;omega);refine⟨rfl,(),rfl,⟨B1,.func (.func g2) #[] g,q,a9,?_,Q.frame (a9.mono fun k b=>Y.up b) q,?_⟩⟩
    ·rw[JN,G_ (by omega)];exact E.rebase
    ·rw[JN,G_ (by omega)];exact gs.frame E.old fun k b=>b
   ·have y:((m:Int)==0)=false:=beq_eq_false_iff_ne.2 (by omega);(conv=>whnf);rw[y];(conv=>whnf);refine⟨rfl,(),rfl,⟨B,.func (.func g1) #[] l,fun k b=>b,O,?_,Q.frame D fun k b=>b,?_⟩⟩
    ·rw[JN,I_ (by omega)];exact d.rebase
    ·rw[JN,I_ (by omega)];exact Q.frame D fun k b=>b
  ·rintro⟨⟩ G0 ay ab;(conv=>whnf);refine A8.mk [8] (fun k:Nat=>[C_ k]) (fun k G=>1≤k∧k≤max m 1∧Ad6 B H ps S N V a ((D0 a m k).getD .eps) (.func (.func g1) #[] l) G) (fun k _=>max m 1-k) ?_ ?_
   ·(conv=>whnf);exact⟨1,rfl,J_ _,by omega,ab⟩
   ·rintro k G az ⟨W,b4,⟨B1,f1,q,ag,h,gv,M⟩⟩;obtain⟨F,I,rfl⟩:=M.fn;refine Ag.m2 (fun hz=>?_) (fun hz=>?_)
    ·(conv=>whnf);try (refine Af.run ?_)
     refine L_ (cs:=Ac ((D0 a m k).getD .eps) (.func (.func F) #[] I)) (Ax (h.blk _ (U_ ps _ 2))) trivial (L_ (cs:=Ac a (.func (.func g1) #[] l)) (Ax (h.blk _ (EB ps _))) trivial (Aj.mk (GT .cat h M gv) ?_));rintro _ G1 ⟨B2,f2,rfl,P,a2,J,R⟩;obtain⟨g2,g,rfl⟩:=R.fn;refine AX (cs:=Ac (opR .cat ((D0 a m k).getD .eps) a) (.func (.func g2) #[] g)) J _ rfl (U_ ps _ 2) (by simp[Ac]) rfl fun G3 j u X=>?_;unfold Tr at j;rw[I']at j;have e:As (Ac ((D0 a m k).getD .eps) (.func (.func F) #[] I)) 0 (Ac (opR .cat ((D0 a m k).getD .eps) a) (.func (.func g2) #[] g))=Ac (opR .cat ((D0 a m k).getD .eps) a) (.func (.func g2) #[] g):=Cm rfl;rw[e]at j;(conv=>whnf);rw[R_ k (by omega)];have K:A_ (D_ H) H G3:=(ag.trans (a2.mono fun k b=>Ae ag b)).trans (u.mono fun k b=>by have:k<H.size:=b;omega);refine⟨rfl,k+1,rfl,⟨by omega,by omega,⟨B2,.func (.func g2) #[] g,fun k b=>P k (q k b),K,?_,Q.frame (K.mono fun k b=>Y.up b) fun k b=>P k (q k b),?_⟩⟩,by omega⟩
     ·rw[Ix _ _ _ W,I_ (by omega)];exact j.rebase
     ·rw[Ix _ _ _ W,I_ (by omega)];exact R.frame j.old fun k b=>b
    ·obtain rfl:k=max m 1:=by omega
     by_cases hn:n<0
     ·have Z:decide (n<0)=true:=g_ hn;have b5:max m 1=m:=by omega
      rw[b5]at M h;(conv=>whnf);try (refine Af.run ?_)
      (conv=>whnf);rw[Z];refine Au.heldZ (D_ G) [4] (sq [0,1] (.f 2 (.f 3 (.f 4 .e)))) rfl (by kernel_rfl) (L_ (cs:=Ac ((D0 a m m).getD .eps) (.func (.func F) #[] I)) (Ax (h.blk _ (U_ ps _ 2))) ((h.in_ _ (U_ ps _ 2) (k:=V) rfl).2) (L_ (cs:=Ac a (.func (.func g1) #[] l)) (Ax (h.blk _ (EB ps _))) ((h.in_ _ (EB ps _) (k:=S) rfl).2) (Aj.mk (PJ h gv) ?_)));rintro _ G1 ⟨B2,f2,rfl,P,a2,J,gs⟩;refine⟨a2,?_⟩;have w:A_ B1 G G1:=a2.mono fun k b=>h.up b;refine Aj.mk (GT .cat J (M.frame w P) gs) ?_;rintro _ G2 ⟨B3,f3,rfl,s3,a3,j,R⟩;have L:=a2.trans (a3.mono fun k b=>Ae a2 b);refine⟨L,?_⟩;obtain⟨g2,g,rfl⟩:=R.fn;refine AX (cs:=Ac (opR .cat ((D0 a m m).getD .eps) (.star a)) (.func (.func g2) #[] g)) j _ rfl (U_ ps _ 1) (by simp[Ac,Aq]) rfl fun G3 c u X=>?_;unfold Tr at c;rw[I',Cm rfl]at c;have t:K_ G3 N 204 (Ac (opR .cat ((D0 a m m).getD .eps) (.star a)) (.func (.func g2) #[] g)):=c.blk _ (U_ ps _ 1);refine lN (cs:=Ac (opR .cat ((D0 a m m).getD .eps) (.star a)) (.func (.func g2) #[] g)) (Ax t) ?_;have e:F5 a m n=opR .cat ((D0 a m m).getD .eps) (.star a):=by unfold F5;rw[I_ hn,G_ (by omega)]<;>rfl
      rw[e];exact⟨B3,_,rfl,fun k b=>s3 k (P k (q k b)),(ag.trans (L.mono fun k b=>Ae ag b)).trans (u.mono fun k b=>by have:k<H.size:=b;omega),c.lft.rebase,R.frame c.old fun k b=>b⟩
     ·have Z:decide (n<0)=false:=a_ hn;obtain⟨nn,rfl⟩:=Int.eq_ofNat_of_zero_le (show 0≤n by omega);(conv=>whnf);try (refine Af.run ?_)
      (conv=>whnf);refine A8.mk [8] (fun k:Nat=>[C_ k]) (fun k G=>max m 1≤k∧k≤nn∧Ad6 B H ps S N V a ((D0 a m k).getD .eps) (.func (.func g1) #[] l) G) (fun k _=>nn-k) ?_ ?_
      ·(conv=>whnf);exact⟨max m 1,rfl,J_ _,by omega,⟨B1,.func (.func F) #[] I,q,ag,h,gv,M⟩⟩
      ·clear q ag h gv M B1;rintro k G b6 ⟨W,b4,⟨B1,f1,q,ag,h,gv,M⟩⟩;obtain⟨F,I,rfl⟩:=M.fn;refine Ag.m2 (fun hz=>?_) (fun hz=>?_)
       ·(conv=>whnf);try (refine Af.run ?_)
        refine Au.heldZ (D_ G) [4] (sq [0,1] (.f 2 (.f 3 (.f 4 .e)))) rfl (by kernel_rfl) (L_ (cs:=Ac ((D0 a m k).getD .eps) (.func (.func F) #[] I)) (Ax (h.blk _ (U_ ps _ 2))) ((h.in_ _ (U_ ps _ 2) (k:=V) rfl).2) (L_ (cs:=Ac a (.func (.func g1) #[] l)) (Ax (h.blk _ (EB ps _))) ((h.in_ _ (EB ps _) (k:=S) rfl).2) (Aj.mk (Pk h gv) ?_)));rintro _ G1 ⟨B2,f2,rfl,P,a2,J,gs⟩;refine⟨a2,?_⟩;have w:A_ B1 G G1:=a2.mono fun k b=>h.up b;refine Aj.mk (GT .cat J (M.frame w P) gs) ?_;rintro _ G2 ⟨B3,f3,rfl,s3,a3,j,R⟩;have L:=a2.trans (a3.mono fun k b=>Ae a2 b);refine⟨L,?_⟩;obtain⟨g2,g,rfl⟩:=R.fn;refine AX (cs:=Ac (opR .cat ((D0 a m k).getD .eps) (C3 a)) (.func (.func g2) #[] g)) j _ rfl (U_ ps _ 2) (by simp[Ac]) rfl fun G3 c u X=>?_;unfold Tr at c;rw[I']at c;have e:As (Ac ((D0 a m k).getD .eps) (.func (.func F) #[] I)) 0 (Ac (opR .cat ((D0 a m k).getD .eps) (C3 a)) (.func (.func g2) #[] g))=Ac (opR .cat ((D0 a m k).getD .eps) (C3 a)) (.func (.func g2) #[] g):=Cm rfl;rw[e]at c;(conv=>whnf);rw[R_ k (by omega)];have K:A_ (D_ H) H G3:=(ag.trans (L.mono fun k b=>Ae ag b)).trans (u.mono fun k b=>by have:k<H.size:=b;omega);refine⟨rfl,k+1,rfl,⟨by omega,by omega,⟨B3,.func (.func g2) #[] g,fun k b=>s3 k (P k (q k b)),K,?_,Q.frame (K.mono fun k b=>Y.up b) fun k b=>s3 k (P k (q k b)),?_⟩⟩,by omega⟩
        ·rw[Ix _ _ _ (by omega),G_ (by omega)];exact c.rebase
        ·rw[Ix _ _ _ (by omega),G_ (by omega)];exact R.frame c.old fun k b=>b
       ·obtain rfl:k=nn:=by omega
        refine L_ (cs:=Ac ((D0 a m k).getD .eps) (.func (.func F) #[] I)) (Ax (h.blk _ (U_ ps _ 2))) trivial (AX (cs:=Ac ((D0 a m k).getD .eps) (.func (.func F) #[] I)) h _ rfl (U_ ps _ 1) (by simp[Ac,Aq]) rfl fun G3 c u X=>?_);unfold Tr at c;rw[I',Cm rfl]at c;have t:K_ G3 N 204 (Ac ((D0 a m k).getD .eps) (.func (.func F) #[] I)):=c.blk _ (U_ ps _ 1);refine lN (cs:=Ac ((D0 a m k).getD .eps) (.func (.func F) #[] I)) (Ax t) ?_;have e:F5 a m (k:Int)=(D0 a m k).getD .eps:=by unfold F5;rw[G_ (by omega),G_ (by omega),Yau]
        rw[e];exact⟨B1,_,rfl,q,ag.trans (u.mono fun k b=>by have:k<H.size:=b;omega),c.lft.rebase,M.frame c.old fun k b=>b⟩
abbrev scL(t:ByteArray)(i:Nat)(ov:v_):List v_:=[.string t,C_ i,ov]
abbrev pSc(s:Nat)(t:ByteArray)(i:Nat)(ov:v_):Pc:=pB 201 s (scL t i ov)
theorem Eh{H:Aa}{s i:Nat}{t:ByteArray}{b:v_}(a:K_ H s 201 (scL t i b)):AZ prog 107 #[H_ s] H (.bool (decide (t.size≤i))):=by
 refine Al.of_vc func107 rfl (call107 _) (Au.lex rfl (by kernel_rfl) (F_ ?_));refine B_ (a.cellE rfl) trivial (F_ ?_);refine lT (a.cellE rfl) ?_;(conv=>whnf);refine⟨?_,A_.refl _ _⟩
 congr 1
 rw[decide_eq_decide];omega
theorem CX{H:Aa}{s i:Nat}{t:ByteArray}{c:v_}(a:K_ H s 201 (scL t i c))(hi:i<t.size):AZ prog 141 #[H_ s] H (.int .u8 (bt t i:Int)):=by
 refine Al.of_vc func141 rfl (call141 _) (Au.lex rfl (by kernel_rfl) (F_ ?_));refine B_ (a.cellE rfl) trivial (F_ ?_);refine lT (a.cellE rfl) ?_;have⟨b,d,e,g⟩:=CH hi;have f:decide ((i:Int)<(t.size:Int))=true:=s_;(conv=>whnf);rw[f];refine Au.lex rfl (by kernel_rfl) (F_ ?_);refine B_ (a.cellE rfl) trivial (F_ ?_);refine B_ (a.cellE rfl) trivial (Ci DN rfl d ?_);(conv=>whnf);refine⟨?_,A_.refl _ _⟩;rw[e]
theorem Cr{H:Aa}{s c e:Nat}:Ay prog 108 #[H_ s,C_ c,C_ e] H (fun _ _=>False) (fun x H'=>x=Bg c e∧H'=H):=by
 refine Ay.of_vc func108 rfl (call108 _) (Ah underlying27 rfl _ rfl [C_ c,C_ e,.string ⟨#[]⟩] rfl ?_);(conv=>whnf);exact⟨rfl,rfl⟩
theorem PD{B:Nat→Prop}{H:Aa}{ps:List Pc}{k s i:Nat}{t:ByteArray}{q:v_}(T:t.size≤1152921504606846976)(hi:i≤t.size)(N:E_ B H H ps)(A:ps[k]?=some (pSc s t i q)):
  Ay prog 203 #[H_ s] H (fun v H'=>IL t i=true∧v= .int .i64 (((DA t 3 i 0).1:Nat):Int)∧E_ B H H' (ps.set k (pSc s t (DA t 3 i 0).2 q)))
   (fun x H'=>IL t i=false∧x=Bg 20 i∧A_ B H H'):=by
 refine Ay.of_vc func203 rfl (call203 _) (AE.of (Au.lex rfl (by kernel_rfl) (F_ ?_)));refine lT ((N.blk k A).cellE rfl) ?_;(conv=>whnf);refine CA.mk [3] (fun x:Nat×Nat=>match x with | (_,v)=>[C_ v]) (fun x G=>match x with | (n,v)=>n≤3∧v<10^n∧DA t 3 i 0=DA t (3-n) (i+n) v∧(n=0∨IL t i=true)∧E_ B H G (ps.set k (pSc s t (i+n) q))) (fun x _=>match x with | (n,_)=>3-n) ?_ ?_
 ·(conv=>whnf);exact⟨(0,0),rfl,by omega,by decide,rfl,.inl rfl,by rw[Nat.add_zero,Ce A];exact N⟩
 ·rintro⟨n,v⟩ G O ⟨C,D,P,hd,r⟩;have a:(ps.set k (pSc s t (i+n) q))[k]?=some (pSc s t (i+n) q):=Iy A;have out:(n=3∨IL t (i+n)=false)→DA t 3 i 0=(v,i+n):=fun h=>by
   rw[P];rcases h with rfl | h
   ·rfl
   ·cases z:3-n with
    | zero=>rfl
    | succ m=>unfold DA;rw[h];rfl
  refine Ab.of (Ak (Eh (r.blk k a)) fun G1 E=>?_);have st1:=r.call E;by_cases p:i+n<t.size
  ·obtain⟨U,-,-,R⟩:=CH p;rw[a_ (show¬t.size≤i+n by omega)];refine F_ ?_;refine lT ((st1.blk k a).cellE rfl) ?_;(conv=>whnf);rw[n_ (x:=(i:Int)+3) (by omega)];by_cases Q:n=3
   ·have F:decide (((i+n:Nat):Int)<(i:Int)+3)=false:=m_;(conv=>whnf);rw[F];refine Ao.run (F_ ?_);refine lT ((st1.blk k a).cellE rfl) ?_;have j:=out (.inl Q);by_cases b:n=0
    ·have d:(((i+n:Nat):Int)==(i:Int))=true:=by rw[b];exact beq_self_eq_true _
     (conv=>whnf);rw[d];refine F_ ?_;refine B_ ((st1.blk k a).cellE rfl) trivial (Ab.mk (Cr (c:=20) (e:=i+n)) (fun _ _ h=>h.elim) ?_);rintro _ _ ⟨rfl,rfl⟩;subst b
     exact⟨by
       rcases(.inl Q:0=3∨IL t (i+0)=false)with h | h
       ·omega
       ·exact h,rfl,st1.old⟩
    ·have d:(((i+n:Nat):Int)==(i:Int))=false:=beq_eq_false_iff_ne.2 (by omega);(conv=>whnf);rw[d];(conv=>whnf);rw[j];exact⟨hd.resolve_left b,rfl,st1⟩
   ·have F:decide (((i+n:Nat):Int)<(i:Int)+3)=true:=s_;(conv=>whnf);rw[F];refine Ab.of (Ak (CX (st1.blk k a) p) fun G2 I=>?_);have f:=st1.call I;by_cases J:48≤bt t (i+n)
    ·have S:decide (((bt t (i+n):Nat):Int)≥48)=true:=s_;have l:decide (48≤((bt t (i+n):Nat):Int))=true:=S;(conv=>whnf);rw[l];refine Ab.of (Ak (CX (f.blk k a) p) fun G3 K=>?_);have g:=f.call K;by_cases z:bt t (i+n)≤57
     ·have L:decide (((bt t (i+n):Nat):Int)≤57)=true:=s_;have u:IL t (i+n)=true:=g_ ⟨J,z⟩;(conv=>whnf);rw[L];refine Ab.of (Ak (CX (g.blk k a) p) fun G4 M=>?_);have w:=g.call M;(conv=>whnf);rw[w64 (x:=10*(v:Int)) (by have:v<1000:=Ybq D (Ybw (by omega) C);omega) (by have:v<1000:=Ybq D (Ybw (by omega) C);omega)];(conv=>whnf);rw[w8 (x:=((bt t (i+n):Nat):Int)-48) (by omega) (by omega)];(conv=>whnf);rw[w64 (x:=((bt t (i+n):Nat):Int)-48) (by omega) (by omega)];(conv=>whnf);rw[w64 (x:=10*(v:Int)+(((bt t (i+n):Nat):Int)-48)) (by omega) (by have:v<1000:=Ybq D (Ybw (by omega) C);omega)];refine F_ ?_;refine lT ((w.blk k a).cellE rfl) ?_;(conv=>whnf);rw[n_ (x:=((i+n:Nat):Int)+1) (by omega)];refine F_ ?_;refine Bh w k a (by simp) rfl fun G5 y=>?_;refine⟨rfl,(n+1,10*v+(bt t (i+n)-48)),?_,⟨by omega,?_,?_,.inr ?_,?_⟩,by show 3-(n+1)<3-n;omega⟩
      ·show [Value.int .i64 (10*(v:Int)+(((bt t (i+n):Nat):Int)-48))]=[C_ ((10*v+(bt t (i+n)-48):Nat):Int)]
       congr 2;omega
      ·rw[Nat.pow_succ];omega
      ·rw[P,show 3-n=(3-(n+1))+1 by omega,DA,u];rfl
      ·rcases hd with rfl | hd
       ·exact u
       ·exact hd
      ·rw[Ydb]at y;exact y
     ·have L:decide (((bt t (i+n):Nat):Int)≤57)=false:=m_;(conv=>whnf);rw[L];refine Ao.run (F_ ?_);refine lT ((g.blk k a).cellE rfl) ?_;have j:=out (.inr (a_ fun h=>z h.2));by_cases b:n=0
      ·have d:(((i+n:Nat):Int)==(i:Int))=true:=by rw[b];exact beq_self_eq_true _
       (conv=>whnf);rw[d];refine F_ ?_;refine B_ ((g.blk k a).cellE rfl) trivial (Ab.mk (Cr (c:=20) (e:=i+n)) (fun _ _ h=>h.elim) ?_);rintro _ _ ⟨rfl,rfl⟩;subst b
       exact⟨by
         rcases(.inr (a_ fun h=>z h.2):0=3∨IL t (i+0)=false)with h | h
         ·omega
         ·exact h,rfl,g.old⟩
      ·have d:(((i+n:Nat):Int)==(i:Int))=false:=beq_eq_false_iff_ne.2 (by omega);(conv=>whnf);rw[d];(conv=>whnf);rw[j];exact⟨hd.resolve_left b,rfl,g⟩
    ·have l:decide (48≤((bt t (i+n):Nat):Int))=false:=m_;(conv=>whnf);rw[l];refine Ao.run (F_ ?_);refine lT ((f.blk k a).cellE rfl) ?_;have j:=out (.inr (a_ fun h=>J h.1));by_cases b:n=0
     ·have d:(((i+n:Nat):Int)==(i:Int))=true:=by rw[b];exact beq_self_eq_true _
      (conv=>whnf);rw[d];refine F_ ?_;refine B_ ((f.blk k a).cellE rfl) trivial (Ab.mk (Cr (c:=20) (e:=i+n)) (fun _ _ h=>h.elim) ?_);rintro _ _ ⟨rfl,rfl⟩;subst b
      exact⟨by
        rcases(.inr (a_ fun h=>J h.1):0=3∨IL t (i+0)=false)with h | h
        ·omega
        ·exact h,rfl,f.old⟩
     ·have d:(((i+n:Nat):Int)==(i:Int))=false:=beq_eq_false_iff_ne.2 (by omega);(conv=>whnf);rw[d];(conv=>whnf);rw[j];exact⟨hd.resolve_left b,rfl,f⟩
  ·rw[g_ (show t.size≤i+n by omega)];refine Ao.run (F_ ?_);refine lT ((st1.blk k a).cellE rfl) ?_;have j:=out (.inr (a_ fun h=>by have:=FV p;omega));by_cases b:n=0
   ·have d:(((i+n:Nat):Int)==(i:Int))=true:=by rw[b];exact beq_self_eq_true _
    (conv=>whnf);rw[d];refine F_ ?_;refine B_ ((st1.blk k a).cellE rfl) trivial (Ab.mk (Cr (c:=20) (e:=i+n)) (fun _ _ h=>h.elim) ?_);rintro _ _ ⟨rfl,rfl⟩;subst b
    exact⟨by
      rcases(.inr (a_ fun h=>by have:=FV p;omega):0=3∨IL t (i+0)=false)with h | h
      ·omega
      ·exact h,rfl,st1.old⟩
   ·have d:(((i+n:Nat):Int)==(i:Int))=false:=beq_eq_false_iff_ne.2 (by omega);(conv=>whnf);rw[d];(conv=>whnf);rw[j];exact⟨hd.resolve_left b,rfl,st1⟩
theorem PG{ps l:List Pc}{k:Nat}{p q r:Pc}(a:ps[k]?=some p):(ps.set k q++l).set k r=ps.set k r++l:=by
 rw[lsL (Iy a),Ydb]
theorem F1{ps l:List Pc}{k:Nat}{p q:Pc}(a:ps[k]?=some p):(ps.set k q++l)[k]?=some q:=lgL (Iy a)
structure Wj(B:Nat→Prop)(H:Aa)(ps:List Pc)(k s:Nat)(t:ByteArray)(j:Nat)(ov:v_)(r:ReM)(v:v_)(H':Aa):Prop where
 ex:∃(B':Nat→Prop) (fn:v_),v= .agg (Ac r fn).toArray∧(∀k,B k→B' k)∧A_ B H H'∧E_ B' H' H' (ps.set k (pSc s t j ov))∧BW B' H' fn r
theorem CV{c d:Nat}(h:c≠d):((c:Int)==(d:Int))=false:=beq_eq_false_iff_ne.2 (by omega)
theorem W1{B:Nat→Prop}{H:Aa}{ps:List Pc}{k s i:Nat}{t:ByteArray}{L:v_}{a:ReM}{va:v_}(ht:t.size≤1152921504606846)(hc:bt t i=123)(st:E_ B H H ps)(l:ps[k]?=some (pSc s t i L))(ga:BW B H va a):
  Ay prog 191 #[H_ s,.agg (Ac a va).toArray] H (fun v H'=>∃m n j,Du t i= .inr (m,n,j)∧Wj B H ps k s t j L (F5 a m n) v H')
   (fun x H'=>∃c p:Nat,Du t i= .inl (c,p)∧x=Bg c p∧A_ B H H'):=by
 have hi:i<t.size:=DR (by omega);obtain⟨g1,J,rfl⟩:=ga.fn;refine Ay.of_vc func191 rfl (call191 _) (BL st (Ac a (.func (.func g1) #[] J)) rfl fun N H1 st1=>(BV st1 (.agg Aq.toArray) Aq CE rfl fun O H2 D=>?_));rw[YaC]at D;replace D:E_ B H H2 (ps++[pB 204 N (Ac a (.func (.func g1) #[] J)),pB 204 O Aq]):=D;have P:(ps++[pB 204 N (Ac a (.func (.func g1) #[] J)),pB 204 O Aq])[k]?=some (pSc s t i L):=lgL l;refine F_ ?_;refine B_ ((D.blk k P).cellE rfl) trivial (F_ ?_);refine lT ((D.blk k P).cellE rfl) ?_;(conv=>whnf);rw[n_ (x:=(i:Int)+1) (by omega)];refine F_ ?_;refine Bh D k P (by simp) rfl fun H3 F=>?_;rw[lsL l]at F;replace F:E_ B H H3 (ps.set k (pSc s t (i+1) L)++[pB 204 N (Ac a (.func (.func g1) #[] J)),pB 204 O Aq]):=F;have a3:=F.old;refine Ab.mk (PD (by omega) (by omega) F.rebase (F1 l)) ?_ ?_
 rotate_left
 ·rintro _ H4 ⟨hd,rfl,a4⟩;exact⟨20,i+1,by unfold Du;rw[hd];rfl,rfl,a3.trans a4⟩
 rintro _ H4 ⟨hd,rfl,z⟩;have a4:=a3.trans z.old;rw[PG l]at z;replace z:=z.rebase;obtain⟨-,-,V⟩:=FG (t:=t) 3 (i+1) 0;replace V:=V (by omega);have hm:=LB (t:=t) 3 (i+1) 0;have f:Du t i=(match upM t (DA t 3 (i+1) 0).1 (DA t 3 (i+1) 0).2 with
  | .inl e=>.inl e
  | .inr (n,j)=>Mq t i (DA t 3 (i+1) 0).1 n j):=by unfold Du;rw[I_ hd]
 generalize DA t 3 (i+1) 0=q at*;have⟨m,j⟩:=q;replace hm:m<1000:=hm;replace V:j≤t.size:=V;replace f:Du t i=(match upM t m j with
  | .inl e=>.inl e
  | .inr (n,j)=>Mq t i m n j):=f
 replace z:E_ B H4 H4 (ps.set k (pSc s t j L)++[pB 204 N (Ac a (.func (.func g1) #[] J)),pB 204 O Aq]):=z;(conv=>whnf);refine Ao.cut [7] (fun x:Int×Nat=>match x with | (n,_)=>[C_ n]) (fun x G=>match x with | (n,e)=>upM t m j= .inr (n,e)∧e≤t.size∧ -1≤n∧n<1000∧A_ B H G∧E_ B G G (ps.set k (pSc s t e L)++[pB 204 N (Ac a (.func (.func g1) #[] J)),pB 204 O Aq])) ?_ ?_
 ·refine Ab.of (Ak (Eh (z.blk k (F1 l))) fun H5 Q=>?_);have u:=z.call Q;by_cases W:j<t.size
  ·rw[a_ (show¬t.size≤j by omega)];refine Ab.of (Ak (CX (u.blk k (F1 l)) W) fun H6 R=>?_);have w:=u.call R;by_cases M:bt t j=44
   ·have I:(((bt t j:Nat):Int)==44)=true:=by rw[M];rfl
    have E:upM t m j=(if bt t (j+1)=125 then .inr (-1,j+1)else if IL t (j+1)then .inr (((DA t 3 (j+1) 0).1:Int),(DA t 3 (j+1) 0).2)else .inl (20,j+1)):=by unfold upM;rw[I_ M]
    (conv=>whnf);rw[I];refine F_ ?_;refine lT ((w.blk k (F1 l)).cellE rfl) ?_;(conv=>whnf);rw[n_ (x:=(j:Int)+1) (by omega)];refine F_ ?_;refine Bh w k (F1 l) (by simp) rfl fun H7 b=>?_;rw[PG l]at b;replace b:E_ B H4 H7 (ps.set k (pSc s t (j+1) L)++[pB 204 N (Ac a (.func (.func g1) #[] J)),pB 204 O Aq]):=b;refine Ab.of (Ak (Eh (b.blk k (F1 l))) fun H8 a0=>?_);have y:=b.call a0;by_cases h2:j+1<t.size
    ·rw[a_ (show¬t.size≤j+1 by omega)];refine Ab.of (Ak (CX (y.blk k (F1 l)) h2) fun H9 S=>?_);have d:=y.call S;by_cases h3:bt t (j+1)=125
     ·have I:(((bt t (j+1):Nat):Int) != 125)=false:=by rw[h3];rfl
      (conv=>whnf);rw[I];(conv=>whnf);exact⟨rfl,(-1,j+1),rfl,by rw[E,I_ h3],by omega,by omega,by omega,a4.trans d.old,d.rebase⟩
     ·have I:(((bt t (j+1):Nat):Int) != 125)=true:=bne_iff_ne.2 (by omega);rw[G_ h3]at E;(conv=>whnf);rw[I];refine Ab.mk (PD (by omega) (by omega) d.rebase (F1 l)) ?_ ?_
      ·rintro _ H10 ⟨A,rfl,g⟩;rw[I_ A]at E;rw[PG l]at g;obtain⟨-,-,T⟩:=FG (t:=t) 3 (j+1) 0;have a5:=LB (t:=t) 3 (j+1) 0;(conv=>whnf);exact⟨rfl,(_,_),rfl,E,T (by omega),by omega,by omega,(a4.trans d.old).trans g.old,g.rebase⟩
      ·rintro _ H10 ⟨A,rfl,U⟩;rw[G_ (by rw[A];decide)]at E;exact⟨20,j+1,by rw[f,E],rfl,(a4.trans d.old).trans U⟩
    ·rw[g_ (show t.size≤j+1 by omega)];rw[G_ (by rw[FV h2];omega)]at E;refine Ab.mk (PD (by omega) (by omega) y.rebase (F1 l)) ?_ ?_
     ·rintro _ H10 ⟨A,rfl,g⟩;rw[I_ A]at E;rw[PG l]at g;obtain⟨-,-,T⟩:=FG (t:=t) 3 (j+1) 0;have a5:=LB (t:=t) 3 (j+1) 0;(conv=>whnf);exact⟨rfl,(_,_),rfl,E,T (by omega),by omega,by omega,(a4.trans y.old).trans g.old,g.rebase⟩
     ·rintro _ H10 ⟨A,rfl,U⟩;rw[G_ (by rw[A];decide)]at E;exact⟨20,j+1,by rw[f,E],rfl,(a4.trans y.old).trans U⟩
   ·have I:(((bt t j:Nat):Int)==44)=false:=CV M;(conv=>whnf);rw[I];(conv=>whnf);exact⟨rfl,((m:Int),j),rfl,by unfold upM;rw[G_ M],V,by omega,by omega,a4.trans w.old,w.rebase⟩
  ·rw[g_ (show t.size≤j by omega)];(conv=>whnf);exact⟨rfl,((m:Int),j),rfl,by unfold upM;rw[G_ (by rw[FV W];omega)],V,by omega,by omega,a4.trans u.old,u.rebase⟩
 ·rintro⟨n,e⟩ G a7 ⟨E,he,X,a9,ag,Y⟩;rw[E]at f;replace f:Du t i=Mq t i m n e:=f;refine Ao.run (Ab.of (Ak (Eh (Y.blk k (F1 l))) fun H5 Q=>?_));have u:=Y.call Q;by_cases W:e<t.size
  ·rw[a_ (show¬t.size≤e by omega)];refine Ab.of (Ak (CX (u.blk k (F1 l)) W) fun H6 R=>?_);have w:=u.call R;by_cases M:bt t e=125
   ·have I:(((bt t e:Nat):Int) != 125)=false:=by rw[M];rfl
    have r:Mq t i m n e=(if 255<m∨255<n∨(0≤n∧n<(m:Int))then .inl (22,i)else .inr (m,n,e+1)):=by unfold Mq;rw[I_ M]
    (conv=>whnf);rw[I];refine F_ ?_;refine lT ((w.blk k (F1 l)).cellE rfl) ?_;(conv=>whnf);rw[n_ (x:=(e:Int)+1) (by omega)];refine F_ ?_;refine Bh w k (F1 l) (by simp) rfl fun H7 b=>?_;rw[PG l]at b;replace b:E_ B G H7 (ps.set k (pSc s t (e+1) L)++[pB 204 N (Ac a (.func (.func g1) #[] J)),pB 204 O Aq]):=b;refine Ao.run ?_;(conv=>whnf);by_cases w1:255<m
    ·have e1:decide (255<(m:Int))=true:=s_;(conv=>whnf);rw[e1];rw[I_ (.inl w1)]at r;refine Ab.mk (Cr (c:=22) (e:=i)) (fun _ _ h=>h.elim) ?_;rintro _ _ ⟨rfl,rfl⟩;exact⟨22,i,by rw[f,r],rfl,ag.trans b.old⟩
    ·have e1:decide (255<(m:Int))=false:=m_;(conv=>whnf);rw[e1];by_cases K:255<n
     ·have e2:decide (255<n)=true:=g_ K;(conv=>whnf);rw[e2];rw[I_ (.inr (.inl K))]at r;refine Ab.mk (Cr (c:=22) (e:=i)) (fun _ _ h=>h.elim) ?_;rintro _ _ ⟨rfl,rfl⟩;exact⟨22,i,by rw[f,r],rfl,ag.trans b.old⟩
     ·have e2:decide (255<n)=false:=a_ K;(conv=>whnf);rw[e2];by_cases c3:0≤n
      ·have e3:decide (0≤n)=true:=g_ c3;(conv=>whnf);rw[e3];by_cases c4:n<(m:Int)
       ·have e4:decide (n<(m:Int))=true:=g_ c4;(conv=>whnf);rw[e4];rw[I_ (.inr (.inr ⟨c3,c4⟩))]at r;refine Ab.mk (Cr (c:=22) (e:=i)) (fun _ _ h=>h.elim) ?_;rintro _ _ ⟨rfl,rfl⟩;exact⟨22,i,by rw[f,r],rfl,ag.trans b.old⟩
       ·have e4:decide (n<(m:Int))=false:=a_ c4;(conv=>whnf);rw[e4];rw[G_ (by omega)]at r;refine L_ (cs:=Ac a (.func (.func g1) #[] J)) (Ax (b.blk _ (EB _ _))) trivial (Ab.of (Aj.mk (UK b (ga.frame (ag.trans b.old) fun k C=>C) (by omega) X (by omega) (by omega)) ?_));rintro _ H8 ⟨B1,f1,rfl,Z,a8,y,gs⟩;obtain⟨g2,K,rfl⟩:=gs.fn;refine AX (cs:=Ac (F5 a m n) (.func (.func g2) #[] K)) y _ rfl (U_ _ _ 1) (by simp[Ac,Aq]) rfl fun H9 d S a6=>?_;rw[I',Cm rfl]at d;refine lN (cs:=Ac (F5 a m n) (.func (.func g2) #[] K)) (Ax (d.blk _ (U_ _ _ 1))) ?_;exact⟨m,n,e+1,by rw[f,r],B1,_,rfl,Z,((ag.trans b.old).trans (a8.mono fun k C=>b.up C)).trans fun k C=>d.old k (Z k C),d.lft.rebase,gs.frame d.old fun k C=>C⟩
      ·have e3:decide (0≤n)=false:=a_ c3;(conv=>whnf);rw[e3];rw[G_ (by omega)]at r;refine L_ (cs:=Ac a (.func (.func g1) #[] J)) (Ax (b.blk _ (EB _ _))) trivial (Ab.of (Aj.mk (UK b (ga.frame (ag.trans b.old) fun k C=>C) (by omega) X (by omega) (by omega)) ?_));rintro _ H8 ⟨B1,f1,rfl,Z,a8,y,gs⟩;obtain⟨g2,K,rfl⟩:=gs.fn;refine AX (cs:=Ac (F5 a m n) (.func (.func g2) #[] K)) y _ rfl (U_ _ _ 1) (by simp[Ac,Aq]) rfl fun H9 d S a6=>?_;rw[I',Cm rfl]at d;refine lN (cs:=Ac (F5 a m n) (.func (.func g2) #[] K)) (Ax (d.blk _ (U_ _ _ 1))) ?_;exact⟨m,n,e+1,by rw[f,r],B1,_,rfl,Z,((ag.trans b.old).trans (a8.mono fun k C=>b.up C)).trans fun k C=>d.old k (Z k C),d.lft.rebase,gs.frame d.old fun k C=>C⟩
   ·have I:(((bt t e:Nat):Int) != 125)=true:=bne_iff_ne.2 (by omega);(conv=>whnf);rw[I];refine F_ ?_;refine B_ ((w.blk k (F1 l)).cellE rfl) trivial (Ab.mk (Cr (c:=20) (e:=e)) (fun _ _ h=>h.elim) ?_);rintro _ _ ⟨rfl,rfl⟩;exact⟨20,e,by rw[f];unfold Mq;rw[G_ M],rfl,ag.trans w.old⟩
  ·rw[g_ (show t.size≤e by omega)];refine F_ ?_;refine B_ ((u.blk k (F1 l)).cellE rfl) trivial (Ab.mk (Cr (c:=20) (e:=e)) (fun _ _ h=>h.elim) ?_);rintro _ _ ⟨rfl,rfl⟩;exact⟨20,e,by rw[f];unfold Mq;rw[G_ (by rw[FV W];omega)],rfl,ag.trans u.old⟩
theorem SV{t:ByteArray}{i m k:Nat}{n:Int}{f:AF}{fs:List AF}{a:ReM}(b:f.factor=some a)(c:Hj (bt t i)=true)(d:Gt t i= .inr (m,n,k)):
  BF t ⟨i,f,fs⟩= .inr ⟨k,{f with factor:=some (F5 a m n)},fs⟩:=by
 unfold BF;show(if Hj (bt t i)then _ else _)=_;rw[I_ c,b];show(match Gt t i with | .inl e=>_ | .inr (m,n,k)=>_)=_;rw[d]
theorem Ro{t:ByteArray}{i:Nat}{e:Nat×Nat}{f:AF}{fs:List AF}{a:ReM}(b:f.factor=some a)(c:Hj (bt t i)=true)(d:Gt t i= .inl e):
  BF t ⟨i,f,fs⟩= .inl e:=by
 unfold BF;show(if Hj (bt t i)then _ else _)=_;rw[I_ c,b];show(match Gt t i with | .inl e=>_ | .inr (m,n,k)=>_)=_;rw[d]
theorem Ri{c:Nat}(h:c=42∨c=43∨c=63∨c=123):Hj c=true:=by rcases h with rfl | rfl | rfl | rfl<;>rfl
theorem Rh{c:Nat}(a:c≠42)(b:c≠43)(d:c≠63)(e:c≠123):Hj c=false:=by
 unfold Hj;rw[beq_eq_false_iff_ne.2 a,beq_eq_false_iff_ne.2 b,beq_eq_false_iff_ne.2 d,beq_eq_false_iff_ne.2 e];rfl
structure RepI(B:Nat→Prop)(H:Aa)(ps:List Pc)(k s q1 q2 i:Nat)(t:ByteArray)(ov:v_)(f:AF)(fs:List AF)(j:Nat)(G:Aa):Prop where
 ex:∃(a:ReM) (B':Nat→Prop) (fn:v_),BQ t ⟨i,f,fs⟩=BQ t ⟨j,{f with factor:=some a},fs⟩∧i≤j∧j≤t.size∧(∀k,B k→B' k)∧A_ B H G∧
  E_ B' G G (ps.set k (pSc s t j ov)++[pB 204 q1 (Ac a fn),pB 204 q2 Aq])∧BW B' G fn a
theorem VN{B:Nat→Prop}{H:Aa}{ps:List Pc}{k s i:Nat}{t:ByteArray}{I:v_}{a:ReM}{va:v_}{f:AF}{fs:List AF}(ht:t.size≤1152921504606846)(hi:i≤t.size)(hf:f.factor=some a)(st:E_ B H H ps)(E:ps[k]?=some (pSc s t i I))(ga:BW B H va a):
  Ay prog 178 #[H_ s,.agg (Ac a va).toArray] H
   (fun v H'=>∃j r,i≤j∧j≤t.size∧Hj (bt t j)=false∧BQ t ⟨i,f,fs⟩=BQ t ⟨j,{f with factor:=some r},fs⟩∧Wj B H ps k s t j I r v H')
   (fun x H'=>∃c p:Nat,BQ t ⟨i,f,fs⟩= .inl (c,(p:Int))∧x=Bg c p∧A_ B H H'):=by
 obtain⟨g1,c1,rfl⟩:=ga.fn;refine Ay.of_vc func178 rfl (call178 _) (BC (Ac a (.func (.func g1) #[] c1)) rfl ?_);intro J H1 ab ad W X;have st1:=st.box ab ad W X;refine Aw (.agg Aq.toArray) Aq CE rfl ?_;intro R H2 ae ah Y Z;have A:=st1.box ae ah Y Z;rw[YaC]at A;replace A:E_ B H H2 (ps++[pB 204 J (Ac a (.func (.func g1) #[] c1)),pB 204 R Aq]):=A;rw[←Ce E]at A;(conv=>whnf);refine CA.mk [] (fun _:Nat=>[]) (fun j G=>RepI B H ps k s J R i t I f fs j G) (fun j _=>t.size-j) ?_ ?_
 ·(conv=>whnf);refine⟨i,rfl,⟨a,B,.func (.func g1) #[] c1,?_,J_ _,hi,fun k b=>b,A.old,A.rebase,ga.frame A.old fun k b=>b⟩⟩;rw[←hf]
 ·rintro j G ao ⟨a',B1,f1,K,a0,hj,u,ag,a5,P⟩;obtain⟨w,y,rfl⟩:=P.fn;clear st st1 A ga W Y X Z;have S:(ps.set k (pSc s t j I)++[pB 204 J (Ac a' (.func (.func w) #[] y)),pB 204 R Aq])[k]?=some (pSc s t j I):=F1 E;refine Ab.of (Ak (Eh (a5.blk k S)) fun G1 ai=>?_);have L:=a5.call ai;by_cases h0:j<t.size
  ·rw[a_ (show¬t.size≤j by omega)];refine Ao.run (Ab.of (Ak (CX (L.blk k S) h0) fun G2 aj=>?_));have g:=L.call aj;have M:∀{m k2:Nat} {n:Int},(bt t j=42∨bt t j=43∨bt t j=63∨bt t j=123)→Gt t j= .inr (m,n,k2)→BQ t ⟨i,f,fs⟩=BQ t ⟨k2,{f with factor:=some (F5 a' m n)},fs⟩:=fun hc E=>by
    rw[K];exact Ed (s:=⟨j,{f with factor:=some a'},fs⟩) h0 (SV rfl (Ri hc) E)
   by_cases N:bt t j=42
   ·have d1:(((bt t j:Nat):Int)==42)=true:=by rw[N];rfl
    (conv=>whnf);rw[d1];refine L_ (cs:=Ac a' (.func (.func w) #[] y)) (Ax (g.blk _ (EB _ _))) trivial (Ab.of (Aj.mk (PJ g (P.frame g.old fun k b=>b)) ?_));rintro _ G3 ⟨B2,f2,rfl,F,a3,z,gs⟩;have C:A_ B H G3:=(ag.trans fun k b=>g.old k (u k b)).trans (a3.mono fun k b=>g.up (u k b));obtain⟨g2,l,rfl⟩:=gs.fn;refine AX (cs:=Ac (.star a') (.func (.func g2) #[] l)) z _ rfl (EB _ _) (by simp[Ac]) rfl fun G4 d ja js=>?_;rw[QO]at d;have T:As (Ac a' (.func (.func w) #[] y)) 0 (Ac (.star a') (.func (.func g2) #[] l))=Ac (.star a') (.func (.func g2) #[] l):=Cm rfl;replace d:E_ B2 G3 G4 (ps.set k (pSc s t j I)++[pB 204 J (As (Ac a' (.func (.func w) #[] y)) 0 (Ac (.star a') (.func (.func g2) #[] l))),pB 204 R Aq]):=d;rw[T]at d;refine F_ ?_;refine lT ((d.blk k (F1 E)).cellE rfl) ?_;(conv=>whnf);rw[n_ (x:=(j:Int)+1) (by omega)];refine F_ ?_;refine Bh d k (F1 E) (by simp) rfl fun G5 h=>?_;rw[PG E]at h;have D:A_ B G3 G5:=fun k b=>h.old k (F k (u k b));exact⟨rfl,j+1,rfl,⟨.star a',B2,.func (.func g2) #[] l,M (m:=0) (n:= -1) (.inl N) (by unfold Gt;rw[I_ N]),by omega,by omega,fun k b=>F k (u k b),C.trans D,h.rebase,gs.frame h.old fun k b=>b⟩,by omega⟩
   ·have d1:(((bt t j:Nat):Int)==42)=false:=CV N;(conv=>whnf);rw[d1];by_cases Q:bt t j=43
    ·have d2:(((bt t j:Nat):Int)==43)=true:=by rw[Q];rfl
     (conv=>whnf);rw[d2];refine AE.of (Au.heldZ (D_ G2) [4] (sq [0,1] (.f 2 (.f 3 (.f 4 .e)))) rfl (by kernel_rfl) (L_ (cs:=Ac a' (.func (.func w) #[] y)) (Ax (g.blk _ (EB _ _))) ((g.in_ _ (EB _ _) (k:=J) rfl).2) (L_ (cs:=Ac a' (.func (.func w) #[] y)) (Ax (g.blk _ (EB _ _))) ((g.in_ _ (EB _ _) (k:=J) rfl).2) (Aj.mk (PJ g (P.frame g.old fun k b=>b)) ?_))));rintro _ G6 ⟨B6,f6,rfl,s6,a6,ak,am⟩;refine⟨a6,?_⟩;refine Aj.mk (GT .cat ak ((P.frame g.old fun k b=>b).frame (a6.mono fun k b=>g.up b) s6) am) ?_;rintro _ G3 ⟨B7,f7,rfl,s7,a7,z,gs⟩;have a8:=a6.trans (a7.mono fun k b=>Ae a6 b);refine⟨a8,?_⟩;have C:A_ B H G3:=(ag.trans fun k b=>g.old k (u k b)).trans (a8.mono fun k b=>g.up (u k b));obtain⟨B2,a9⟩:∃B2,B2=B7:=⟨_,rfl⟩;rw[←a9]at z gs;have F:∀k,B1 k→B2 k:=fun k b=>by rw[a9];exact s7 k (s6 k b)
     obtain⟨g2,l,rfl⟩:=gs.fn;refine AX (cs:=Ac (opR .cat a' (.star a')) (.func (.func g2) #[] l)) z _ rfl (EB _ _) (by simp[Ac]) rfl fun G4 d ja js=>?_;rw[QO]at d;have T:As (Ac a' (.func (.func w) #[] y)) 0 (Ac (opR .cat a' (.star a')) (.func (.func g2) #[] l))=Ac (opR .cat a' (.star a')) (.func (.func g2) #[] l):=Cm rfl;replace d:E_ B2 G3 G4 (ps.set k (pSc s t j I)++[pB 204 J (As (Ac a' (.func (.func w) #[] y)) 0 (Ac (opR .cat a' (.star a')) (.func (.func g2) #[] l))),pB 204 R Aq]):=d;rw[T]at d;refine F_ ?_;refine lT ((d.blk k (F1 E)).cellE rfl) ?_;(conv=>whnf);rw[n_ (x:=(j:Int)+1) (by omega)];refine F_ ?_;refine Bh d k (F1 E) (by simp) rfl fun G5 h=>?_;rw[PG E]at h;have D:A_ B G3 G5:=fun k b=>h.old k (F k (u k b));exact⟨rfl,j+1,rfl,⟨opR .cat a' (.star a'),B2,.func (.func g2) #[] l,M (m:=1) (n:= -1) (.inr (.inl Q)) (by unfold Gt;rw[G_ N,I_ Q]),by omega,by omega,fun k b=>F k (u k b),C.trans D,h.rebase,gs.frame h.old fun k b=>b⟩,by omega⟩
    ·have d2:(((bt t j:Nat):Int)==43)=false:=CV Q;(conv=>whnf);rw[d2];by_cases U:bt t j=63
     ·have d3:(((bt t j:Nat):Int)==63)=true:=by rw[U];rfl
      (conv=>whnf);rw[d3];refine L_ (cs:=Ac a' (.func (.func w) #[] y)) (Ax (g.blk _ (EB _ _))) trivial (Ab.of (Aj.mk (Pk g (P.frame g.old fun k b=>b)) ?_));rintro _ G3 ⟨B2,f2,rfl,F,a3,z,gs⟩;have C:A_ B H G3:=(ag.trans fun k b=>g.old k (u k b)).trans (a3.mono fun k b=>g.up (u k b));obtain⟨g2,l,rfl⟩:=gs.fn;refine AX (cs:=Ac (C3 a') (.func (.func g2) #[] l)) z _ rfl (EB _ _) (by simp[Ac]) rfl fun G4 d ja js=>?_;rw[QO]at d;have T:As (Ac a' (.func (.func w) #[] y)) 0 (Ac (C3 a') (.func (.func g2) #[] l))=Ac (C3 a') (.func (.func g2) #[] l):=Cm rfl;replace d:E_ B2 G3 G4 (ps.set k (pSc s t j I)++[pB 204 J (As (Ac a' (.func (.func w) #[] y)) 0 (Ac (C3 a') (.func (.func g2) #[] l))),pB 204 R Aq]):=d;rw[T]at d;refine F_ ?_;refine lT ((d.blk k (F1 E)).cellE rfl) ?_;(conv=>whnf);rw[n_ (x:=(j:Int)+1) (by omega)];refine F_ ?_;refine Bh d k (F1 E) (by simp) rfl fun G5 h=>?_;rw[PG E]at h;have D:A_ B G3 G5:=fun k b=>h.old k (F k (u k b));exact⟨rfl,j+1,rfl,⟨C3 a',B2,.func (.func g2) #[] l,M (m:=0) (n:=1) (.inr (.inr (.inl U))) (by unfold Gt;rw[G_ N,G_ Q,I_ U]),by omega,by omega,fun k b=>F k (u k b),C.trans D,h.rebase,gs.frame h.old fun k b=>b⟩,by omega⟩
     ·have d3:(((bt t j:Nat):Int)==63)=false:=CV U;(conv=>whnf);rw[d3];by_cases V:bt t j=123
      ·have d4:(((bt t j:Nat):Int)==123)=true:=by rw[V];rfl
       (conv=>whnf);rw[d4];refine L_ (cs:=Ac a' (.func (.func w) #[] y)) (Ax (g.blk _ (EB _ _))) trivial (Ab.mk (W1 ht V g.rebase S (P.frame g.old fun k b=>b)) ?_ ?_)
       ·rintro _ G3 ⟨m,n,j2,O,⟨B2,f2,rfl,F,a3,z,gs⟩⟩;have ap:=Md O;rw[PG E]at z;obtain⟨g2,l,rfl⟩:=gs.fn;refine AX (cs:=Ac (F5 a' m n) (.func (.func g2) #[] l)) z _ rfl (EB _ _) (by simp[Ac]) rfl fun G4 d ja js=>?_;rw[QO]at d;have T:As (Ac a' (.func (.func w) #[] y)) 0 (Ac (F5 a' m n) (.func (.func g2) #[] l))=Ac (F5 a' m n) (.func (.func g2) #[] l):=Cm rfl;replace d:E_ B2 G3 G4 (ps.set k (pSc s t j2 I)++[pB 204 J (As (Ac a' (.func (.func w) #[] y)) 0 (Ac (F5 a' m n) (.func (.func g2) #[] l))),pB 204 R Aq]):=d;rw[T]at d;(conv=>whnf);have C:A_ B H G3:=(ag.trans fun k b=>g.old k (u k b)).trans (a3.mono fun k b=>u k b);have D:A_ B G3 G4:=fun k b=>d.old k (F k (u k b));exact⟨rfl,j2,rfl,⟨F5 a' m n,B2,.func (.func g2) #[] l,M (m:=m) (n:=n) (.inr (.inr (.inr V))) (by unfold Gt;rw[G_ N,G_ Q,G_ U];exact O),by omega,by omega,fun k b=>F k (u k b),C.trans D,d.rebase,gs.frame d.old fun k b=>b⟩,by omega⟩
       ·rintro _ G3 ⟨c,p,O,rfl,a3⟩;refine⟨c,p,?_,rfl,(ag.trans fun k b=>g.old k (u k b)).trans (a3.mono fun k b=>u k b)⟩;rw[K];exact E1 (s:=⟨j,{f with factor:=some a'},fs⟩) h0 (Ro rfl (Ri (.inr (.inr (.inr V)))) (by unfold Gt;rw[G_ N,G_ Q,G_ U];exact O))
      ·have d4:(((bt t j:Nat):Int)==123)=false:=CV V;(conv=>whnf);rw[d4];refine L_ (cs:=Ac a' (.func (.func w) #[] y)) (Ax (g.blk _ (EB _ _))) trivial (AX (cs:=Ac a' (.func (.func w) #[] y)) g _ rfl (U_ _ _ 1) (by simp[Ac,Aq]) rfl fun G9 q ja js=>?_);rw[I',Cm rfl]at q;refine lN (cs:=Ac a' (.func (.func w) #[] y)) (Ax (q.blk _ (U_ _ _ 1))) ?_;exact⟨j,a',a0,hj,Rh N Q U V,K,B1,_,rfl,u,ag.trans fun k b=>q.old k (u k b),q.lft.rebase,P.frame q.old fun k b=>b⟩
  ·rw[g_ (show t.size≤j by omega)];refine L_ (cs:=Ac a' (.func (.func w) #[] y)) (Ax (L.blk _ (EB _ _))) trivial (AX (cs:=Ac a' (.func (.func w) #[] y)) L _ rfl (U_ _ _ 1) (by simp[Ac,Aq]) rfl fun G9 q ja js=>?_);rw[I',Cm rfl]at q;refine lN (cs:=Ac a' (.func (.func w) #[] y)) (Ax (q.blk _ (U_ _ _ 1))) ?_;exact⟨j,a',a0,hj,by rw[FV h0];rfl,K,B1,_,rfl,u,ag.trans fun k b=>q.old k (u k b),q.lft.rebase,P.frame q.old fun k b=>b⟩
def Gq(ps:List Pc)(k r:Nat)(t:ByteArray)(q2 q3 i:Nat)(x:BitVec 256):List Pc:=ps.set k (pRd r t i)++[pB 227 q2 (An 0),pB 227 q3 (An x)]
theorem Eb{ps:List Pc}{k r a b i:Nat}{t:ByteArray}{x:BitVec 256}{p:Pc}(c:ps[k]?=some p):(Gq ps k r t a b i x)[k]?=some (pRd r t i):=lgL (lgS c)
theorem Eu{ps:List Pc}{k r a b i j:Nat}{t:ByteArray}{x:BitVec 256}{p:Pc}(c:ps[k]?=some p):(Gq ps k r t a b i x).set k (pRd r t j)=Gq ps k r t a b j x:=by
 unfold Gq;rw[lsL (lgS c),Ydb]
theorem HK{ps:List Pc}{k r b a i:Nat}{t:ByteArray}{x:BitVec 256}:(Gq ps k r t b a i x)[(ps.set k (pRd r t i)).length+1]?=some (pB 227 a (An x)):=U_ _ _ 1
theorem Pn{ps:List Pc}{k r a b i:Nat}{t:ByteArray}{x:BitVec 256}:(Gq ps k r t a b i x)[(ps.set k (pRd r t i)).length+0]?=some (pB 227 a (An 0)):=U_ _ _ 0
theorem Ea{H:Aa}{b:Nat}{x:BitVec 256}(h:K_ H b 227 (An x)):AL H b 0 (An x):=h.cells (fun j v a=>by rw[P_];exact a)
structure MemI(B:Nat→Prop)(H0:Aa)(ps:List Pc)(k r:Nat)(t:ByteArray)(q2 q3:Nat)(M:Sum Nat (BitVec 256×Nat))(y:Nat×Nat×BitVec 256)(G:Aa):Prop where
 le:y.1≤t.size
 fuel:t.size<y.2.1+y.1
 eq:Hr t y.2.1 y.1 y.2.2=M
 st:E_ B H0 G (Gq ps k r t q2 q3 y.1 y.2.2)
theorem SY{B:Nat→Prop}{H0 H:Aa}{ps:List Pc}{k r i:Nat}{t:ByteArray}(hE:E5 H0)(V:B 2)(ht:t.size≤1152921504606846976)(st:E_ B H0 H ps)(p:ps[k]?=some (pRd r t i))(hi:i≤t.size):
  Ay prog 220 #[H_ r] H (fun v H'=>∃(x:BitVec 256) (j:Nat),KN t i= .inr (x,j)∧v=Bf x∧E_ B H0 H' (ps.set k (pRd r t j)))
   (fun x H'=>∃e j:Nat,KN t i= .inl e∧x=Bg 10 e∧E_ B H0 H' (ps.set k (pRd r t j))):=by
 refine Ay.of_vc func220 rfl (call220 _) (Aw (Bf 0) (An 0) rfl rfl ?_);intro E H2 a8 a9 a5 ab;have ad:=st.box a8 a9 a5 ab;refine Aw (Bf 0) (An 0) rfl rfl ?_;intro F H3 ae ah a6 ai;have I:=ad.box ae ah a6 ai;rw[YaC]at I;replace I:E_ B H0 H3 (Gq ps k r t E F i 0#256):=by
  unfold Gq;rw[lset p];exact I
 refine Ab.of (Ak (K2 (I.blk k (Eb p))) fun H4 aj=>?_);have O:=I.call aj;obtain⟨P,J⟩:∃P:Bool,P=decide (bt t i=94):=⟨_,rfl⟩;have z:KN t i=match Hr t (t.size+1) (if P then i+1 else i) 0#256 with | .inl e=>.inl e | .inr (x,k)=>.inr (if P then ~~~x else x,k):=by
  unfold KN;rw[J];by_cases h:bt t i=94
  ·simp only[h,if_true,decide_true]
  ·simp only[h,if_false,decide_false,Bool.false_eq_true]
 obtain⟨i0,K⟩:∃j,j=if P then i+1 else i:=⟨_,rfl⟩
 obtain⟨M,hM⟩:∃M,M=Hr t (t.size+1) i0 0#256:=⟨_,rfl⟩;rw[←K,←hM]at z;have ak:i0≤t.size:=by
  rw[K];cases N:P with
  | false=>exact hi
  | true=>
    rw[N]at J;have az:=of_decide_eq_true J.symm;exact DR (by omega)
 by_cases h0:bt t i=256
 rotate_left
 have d1:((bt t i:Int)==(94:Int))=P:=by
  rw[J];by_cases h:bt t i=94
  ·rw[h];rfl
  ·rw[a_ h];exact beq_eq_false_iff_ne.2 (by omega)
 rw[G_ h0,s_];(conv=>whnf);rw[d1];(conv=>whnf);refine Ao.cut [] (fun _:Unit=>[]) (fun _ G=>E_ B H0 G (Gq ps k r t E F i0 0#256)) ?_ ?_
 ·refine Ag.mk (fun N=>?_) (fun N=>?_)
  ·(conv=>whnf);refine F_ ?_;refine lT ((O.blk k (Eb p)).cellE rfl) ?_;(conv=>whnf);rw[n_ (x:=(i:Int)+1) (by omega)];refine F_ ?_;refine Bh O k (Eb p) (by simp) rfl fun H5 Q=>?_;replace Q:E_ B H0 H5 ((Gq ps k r t E F i 0#256).set k (pRd r t (i+1))):=Q;rw[Eu p]at Q;exact⟨rfl,(),rfl,by rw[K,N];exact Q⟩
  ·(conv=>whnf);exact⟨rfl,(),rfl,by rw[K,N];exact O⟩
 cases N:P
 rotate_left 2
 have N:P=false:=by rw[J,a_];omega
 rw[I_ h0,m_];(conv=>whnf);refine Ao.cut [] (fun _:Unit=>[]) (fun _ G=>E_ B H0 G (Gq ps k r t E F i0 0#256)) ?_ ?_
 ·(conv=>whnf);exact⟨rfl,(),rfl,by rw[K,N];exact O⟩
 all_goals
  rintro⟨⟩ G am ao;(conv=>whnf);refine CA.mk [] (fun _:Nat×Nat×BitVec 256=>[]) (fun y G=>MemI B H0 ps k r t E F M y G) (fun y _=>t.size-y.1) ?_ ?_
  ·(conv=>whnf);exact⟨(i0,t.size+1,0#256),rfl,⟨ak,by simp only;omega,hM.symm,ao⟩⟩
  ·rintro⟨j,n,x⟩ J0 ap ⟨hj,aq,L,W⟩;simp only at hj aq L W;obtain⟨n,rfl⟩:∃m,n=m+1:=⟨n-1,by omega⟩;(conv=>whnf);try (refine Ao.run ?_)
   refine Ab.of (Ak (K2 (W.blk k (Eb p))) fun J1 u=>?_);have D:=W.call u;by_cases R:bt t j=256
   ·rw[I_ R,m_];have h1:E0 t Vn j= .inl j:=by unfold E0;rw[R,G_ (by decide),I_ (.inr (.inl (by decide)))]
    have d:Hr t (n+1) j x= .inl j:=by rw[Hr,G_ (by omega),h1]
    (conv=>whnf);try (refine Ao.run ?_)
    refine Ab.mk (LC (s:=Vn) hE V ht D (Eb p)) ?_ ?_
    ·rintro _ J2 ⟨lo,A,q,rfl,a⟩;exfalso;rw[h1]at q;cases q
    ·rintro _ J2 ⟨e,A,q,rfl,a⟩;rw[Eu p]at a;refine⟨e,A,?_,rfl,a.lft⟩;rw[h1]at q;cases q;rw[z,←L,d]
   ·have au:=DR R;have⟨b1,b4,a5,a6⟩:=CH au;rw[G_ R,s_];by_cases S:bt t j=93
    ·have d2:((bt t j:Int)==(93:Int))=true:=by rw[S];rfl
     have d:M= .inr (x,j+1):=by rw[←L];unfold Hr;rw[I_ S]
     (conv=>whnf);try (refine Ao.run ?_)
     (conv=>whnf);rw[d2];refine F_ ?_;refine lT ((D.blk k (Eb p)).cellE rfl) ?_;(conv=>whnf);rw[n_ (x:=(j:Int)+1) (by omega)];refine F_ ?_;refine Bh D k (Eb p) (by simp) rfl fun J2 a=>?_;replace a:E_ B H0 J2 ((Gq ps k r t E F j x).set k (pRd r t (j+1))):=a;rw[Eu p]at a;rw[d]at z
     first
     | (skip
        refine L_ (cs:=An x) (Ea (a.blk _ HK)) trivial (AD (cs:=An x) a _ rfl Pn (J_ _) rfl fun J4 b=>?_);have T:K_ J4 E 227 (An x):=by
         have:=b.blk _ (lgS Pn);rwa [Bq (by rfl)]at this
        unfold Gq at b;rw[I']at b;refine lN (cs:=An x) (Ea T) ?_;exact⟨x,j+1,by rw[z,N];rfl,rfl,b.lft⟩)
     | (skip
        refine L_ (cs:=An x) (Ea (a.blk _ HK)) trivial (Ab.of (Ak (XI x J2) fun J3 w=>?_));have l:=a.call w;refine AD (cs:=An (~~~x)) l _ rfl Pn (J_ _) rfl fun J4 b=>?_;have T:K_ J4 E 227 (An (~~~x)):=by
         have:=b.blk _ (lgS Pn);rwa [Bq (by rfl)]at this
        unfold Gq at b;rw[I']at b;refine lN (cs:=An (~~~x)) (Ea T) ?_;exact⟨~~~x,j+1,by rw[z,N];rfl,rfl,b.lft⟩)
    ·have d2:((bt t j:Int)==(93:Int))=false:=beq_eq_false_iff_ne.2 (by omega);(conv=>whnf);try (refine Ao.run ?_)
     (conv=>whnf);rw[d2];refine Ab.mk (LC (s:=Vn) hE V ht D (Eb p)) ?_ ?_
     ·rintro _ J2 ⟨lo,A,q,rfl,a⟩;rw[Eu p]at a;have b5:=FH q;have d:Hr t (n+1) j x=NI t lo A x (Hr t n):=by
       rw[Hr,G_ S,q]
      rw[L]at d;(conv=>whnf);try (refine Ao.run ?_)
      refine Ab.of (Ak (K2 (a.blk k (Eb p))) fun J3 w=>?_);have l:=a.call w;by_cases X:bt t A=45
      ·have aw:A<t.size:=DR (by omega);rw[G_ (by omega),s_];unfold NI at d;rw[I_ X]at d;have d3:((bt t A:Int)==(45:Int))=true:=by rw[X];rfl
       (conv=>whnf);try (refine Ao.run ?_)
       (conv=>whnf);rw[d3];refine F_ ?_;refine lT ((l.blk k (Eb p)).cellE rfl) ?_;(conv=>whnf);rw[n_ (x:=((A:Nat):Int)+1) (by omega)];refine F_ ?_;refine Bh l k (Eb p) (by simp) rfl fun J4 b=>?_;replace b:E_ B H0 J4 ((Gq ps k r t E F A x).set k (pRd r t (A+1))):=b;rw[Eu p]at b;refine F_ ?_;refine B_ ((b.blk k (Eb p)).cellE rfl) trivial (Ab.mk (LC (s:=Vn) hE V ht b (Eb p)) ?_ ?_)
       ·rintro _ J5 ⟨C,j2,U,rfl,g⟩;rw[Eu p]at g;have ay:=FH U;rw[U]at d;by_cases a7:C<lo
        ·have d4:decide ((C:Int)<(lo:Int))=true:=s_;simp only[I_ a7]at d;(conv=>whnf);rw[d4];refine Ab.mk Db (fun _ _ h=>h.elim) ?_;rintro _ _ ⟨rfl,rfl⟩;exact⟨A+1,j2,by rw[z,d],rfl,g.lft⟩
        ·have d4:decide ((C:Int)<(lo:Int))=false:=m_;simp only[G_ a7]at d;(conv=>whnf);rw[d4];refine AE.held (D_ J5) [5] (sq [0,1,2] (.f 3 (.f 4 (.f 5 .e)))) (AQ _ _) rfl (by kernel_rfl) (L_ (cs:=An x) (Ea (g.blk _ HK)) ((g.in_ _ HK (k:=F) rfl).2) (Ab.of (Ak (Jf lo C (by omega) (by omega) J5) fun J1 u=>(⟨u,?_⟩))));refine Ab.of (Ak (LI x (AJ lo C) J1) fun J2 Y=>?_);have w:=u.trans (Y.mono fun k hk=>Ae u hk);refine⟨w,?_⟩;have Z:=g.call w;refine AD (cs:=An (x ||| AJ lo C)) Z _ rfl HK (J_ _) rfl fun J4 c=>?_;rw[Bq (by rfl)]at c;replace c:E_ B H0 J4 (Gq ps k r t E F j2 (x ||| AJ lo C)):=by
          unfold Gq at c ⊢;rw[I']at c;exact c
         (conv=>whnf);exact⟨rfl,(j2,n,x ||| AJ lo C),rfl,⟨by simp only;omega,by simp only;omega,d.symm,c⟩,by simp only;omega⟩
       ·rintro _ J5 ⟨e,j2,U,rfl,g⟩;rw[Eu p]at g;rw[U]at d;exact⟨e,j2,by rw[z,d],rfl,g.lft⟩
      ·unfold NI at d;rw[G_ X]at d;by_cases a0:bt t A=256;rw[I_ a0,m_];(conv=>whnf);try (refine Ao.run ?_)
       rotate_left
       have T:=CH (DR a0);rw[G_ a0,s_];have d3:((bt t A:Int)==(45:Int))=false:=beq_eq_false_iff_ne.2 (by omega);(conv=>whnf);try (refine Ao.run ?_)
       (conv=>whnf);rw[d3]
       all_goals
        refine AE.held (D_ J3) [5] (sq [0,1,2] (.f 3 (.f 4 (.f 5 .e)))) (AQ _ _) rfl (by kernel_rfl) (L_ (cs:=An x) (Ea (l.blk _ HK)) ((l.in_ _ HK (k:=F) rfl).2) (Ab.of (Ak (Jf lo lo (by omega) (by omega) J3) fun J1 u=>(⟨u,?_⟩))));refine Ab.of (Ak (LI x (AJ lo lo) J1) fun J2 Y=>?_);have w:=u.trans (Y.mono fun k hk=>Ae u hk);refine⟨w,?_⟩;have Z:=l.call w;refine AD (cs:=An (x ||| AJ lo lo)) Z _ rfl HK (J_ _) rfl fun J4 c=>?_;rw[Bq (by rfl)]at c;replace c:E_ B H0 J4 (Gq ps k r t E F A (x ||| AJ lo lo)):=by
         unfold Gq at c ⊢;rw[I']at c;exact c
        (conv=>whnf);exact⟨rfl,(A,n,x ||| AJ lo lo),rfl,⟨by simp only;omega,by simp only;omega,d.symm,c⟩,by simp only;omega⟩
     ·rintro _ J2 ⟨e,A,q,rfl,a⟩;rw[Eu p]at a;refine⟨e,A,?_,rfl,a.lft⟩;rw[z,←L];unfold Hr;rw[G_ S,q]
theorem Kc{P:w_}{t A:x_}{S:Nat→Prop}{H:Aa}{K:v_→Prop}{v:v_}{d:TypeDesc}(hd:P.underlying A=some d)(a:∀b,d≠ .interface b)(k:K v):A7 P (Instr.typeAssert (.iface A v) t A false) S H K:=by
 refine A7.mk _ (fun w _=>?_) k;unfold Instr.typeAssert;simp only[Sem.run_bind,run_underlying hd,Result.andThen_ok];cases d<;>first | (exact absurd rfl (a _)) | simp
theorem AhL:ofB 0#256 (byN ⟨#[10]⟩)=AJ 10 10:=by decide+kernel
theorem AeG{B:Nat→Prop}{H0 H:Aa}{ps:List Pc}{k r i:Nat}{t:ByteArray}(P:E5 H0)(C:B 2)(Q:t.size≤1152921504606846976)(S:E_ B H0 H ps)(R:ps[k]?=some (pRd r t i))(hi:i<t.size):
  Ay prog 206 #[H_ r] H (fun v H'=>∃(x:BitVec 256) (j:Nat),BI t i= .inr (x,j)∧v=Bf x∧E_ B H0 H' (ps.set k (pRd r t j)))
   (fun x H'=>∃e j:Nat,BI t i= .inl e∧x=Bg 10 e∧E_ B H0 H' (ps.set k (pRd r t j))):=by
 refine Ay.of_vc func206 rfl (call206 _) ?_;have⟨b,I,J,T⟩:=CH hi;refine Aw (Bf 0) (An 0) rfl rfl ?_;intro n H2 K L D M;have m:=S.box K L D M;have h:(ps++[pB 227 n (An 0)])[k]?=some (pRd r t i):=lgL R;have f:∀(j:Nat),(ps++[pB 227 n (An 0)]).set k (pRd r t j)=ps.set k (pRd r t j)++[pB 227 n (An 0)]:=fun j=>lsL R;have A:∀(j:Nat),(ps.set k (pRd r t j)++[pB 227 n (An 0)])[(ps.set k (pRd r t j)).length]?=some (pB 227 n (An 0)):=fun j=>EB _ _;have E:=m.blk k h;refine AE.of (Au.lex rfl (by kernel_rfl) (F_ ?_));refine B_ (E.cellE rfl) trivial (F_ ?_);refine B_ (E.cellE rfl) trivial (Ci DN rfl I ?_);rw[←J];have fin:∀(x:BitVec 256) (j:Nat) (G:Aa),BI t i= .inr (x,j)→E_ B H0 G (ps.set k (pRd r t j)++[pB 227 n (An 0)])→True:=fun _ _ _ _ _=>trivial;by_cases q:bt t i=46
 ·have F:((bt t i:Int)==(46:Int))=true:=by rw[q];rfl
  (conv=>whnf);try (refine Ao.run ?_)
  (conv=>whnf);rw[F];refine F_ ?_;refine lT ((m.blk k h).cellE rfl) ?_;(conv=>whnf);rw[n_ (x:=(i:Int)+1) (by omega)];refine F_ ?_;refine Bh m k h (by simp) rfl fun H4 g=>?_;replace g:E_ B H0 H4 ((ps++[pB 227 n (An 0)]).set k (pRd r t (i+1))):=g;rw[f]at g;refine Ab.of (Ak (of_p ⟨#[10]⟩ (by decide) H4) fun H5 N=>?_);have a:=g.call N;rw[AhL];refine Ab.of (Ak (XI (AJ 10 10) H5) fun H6 w=>?_);have y:=a.call w;refine AD (cs:=An (~~~(AJ 10 10))) y _ rfl (A _) (J_ _) rfl fun H7 d=>?_;have p:K_ H7 n 227 (An (~~~(AJ 10 10))):=by
   have:=d.blk _ (lgS (A _));rwa [Bq (by rfl)]at this
  rw[QO]at d;refine lN (cs:=An (~~~(AJ 10 10))) (Ea p) ?_;exact⟨_,i+1,by unfold BI;rw[I_ q],rfl,d.lft⟩
 have F:((bt t i:Int)==(46:Int))=false:=beq_eq_false_iff_ne.2 (by omega);by_cases z:bt t i=91
 ·have O:((bt t i:Int)==(91:Int))=true:=by rw[z];rfl
  have l:BI t i=KN t (i+1):=by unfold BI;rw[G_ q,I_ z]
  (conv=>whnf);try (refine Ao.run ?_)
  (conv=>whnf);rw[F];(conv=>whnf);rw[O];refine F_ ?_;refine lT ((m.blk k h).cellE rfl) ?_;(conv=>whnf);rw[n_ (x:=(i:Int)+1) (by omega)];refine F_ ?_;refine Bh m k h (by simp) rfl fun H4 g=>?_;replace g:E_ B H0 H4 ((ps++[pB 227 n (An 0)]).set k (pRd r t (i+1))):=g;refine Ab.mk (SY P C Q g (lgS h) (by omega)) ?_ ?_
  ·rintro _ H5 ⟨x,j,u,rfl,a⟩;rw[Ydb,f]at a;refine AD (cs:=An x) a _ rfl (A _) (J_ _) rfl fun H7 d=>?_;have p:K_ H7 n 227 (An x):=by
    have:=d.blk _ (lgS (A _));rwa [Bq (by rfl)]at this
   rw[QO]at d;refine lN (cs:=An x) (Ea p) ?_;exact⟨x,j,by rw[l,u],rfl,d.lft⟩
  ·rintro _ H5 ⟨e,j,u,rfl,a⟩;rw[Ydb,f]at a;exact⟨e,j,by rw[l,u],rfl,a.lft⟩
 have O:((bt t i:Int)==(91:Int))=false:=beq_eq_false_iff_ne.2 (by omega);have l:BI t i=match E0 t Y4 i with | .inl e=>.inl e | .inr (b,k)=>.inr (AJ b b,k):=by unfold BI;rw[G_ q,G_ z]<;>rfl
 (conv=>whnf);try (refine Ao.run ?_)
 (conv=>whnf);rw[F];(conv=>whnf);rw[O];refine Ab.mk (LC (s:=Y4) P C Q m h) ?_ ?_
 ·rintro _ H5 ⟨c,j,u,rfl,a⟩;have U:=FH u;rw[f]at a;rw[u]at l;refine Ab.of (Ak (Jf c c (by omega) (by omega) H5) fun H6 w=>?_);have y:=a.call w;refine AD (cs:=An (AJ c c)) y _ rfl (A _) (J_ _) rfl fun H7 d=>?_;have p:K_ H7 n 227 (An (AJ c c)):=by
   have:=d.blk _ (lgS (A _));rwa [Bq (by rfl)]at this
  rw[QO]at d;refine lN (cs:=An (AJ c c)) (Ea p) ?_;exact⟨_,j,l,rfl,d.lft⟩
 ·rintro _ H5 ⟨e,j,u,rfl,a⟩;rw[f]at a;rw[u]at l;exact⟨e,j,l,rfl,a.lft⟩
def AI(c i:Nat):v_:=.agg #[C_ c,C_ i,.string ⟨#[]⟩]
def Ad(c i:Nat):List v_:=[C_ c,C_ i,.string ⟨#[]⟩]
def U7(q4 q5 q6:Nat)(x:BitVec 256)(j c e:Nat):List Pc:=[pB 227 q4 (An x),pB 3 q5 [C_ j],pB 27 q6 (Ad c e)]
theorem Ab8{H:Aa}{q4 q5 q6:Nat}{K:Aa→Prop}(k:K H):BX prog 205 #[H_ q4,H_ q5,H_ q6] .returning .returning H K:=by
 refine BX.mk (R:=fun H'=>H'=H) (Cj (R:=fun H'=>H'=H) func205 rfl ⟨⟨_,rfl⟩,rfl,rfl,rfl,rfl,rfl⟩ .ret rfl ?_) (fun H' h=>by rw[h];exact k);(conv=>whnf);refine⟨rfl,?_⟩;refine Kt underlying20 ?_;(conv=>whnf)
theorem Ab7{B:Nat→Prop}{H0 H:Aa}{q4 q5 q6 e j c0 e0:Nat}{x:BitVec 256}{ps:List Pc}{K:Aa→Prop}(d:E_ B H0 H (U7 q4 q5 q6 x j c0 e0++ps))(k:∀H',E_ B H0 H' (U7 q4 q5 q6 0 0 10 e++ps)→K H'):
  BX prog 205 #[H_ q4,H_ q5,H_ q6] (.panicking (pe (Bg 10 e))) (.panicking [{v:=Bg 10 e,recovered:=true}]) H K:=by
 refine BX.mk (R:=fun H'=>E_ B H0 H' (U7 q4 q5 q6 0 0 10 e++ps)) (Cj (R:=fun H'=>E_ B H0 H' (U7 q4 q5 q6 0 0 10 e++ps)) func205 rfl ⟨⟨_,rfl⟩,rfl,rfl,rfl,rfl,rfl⟩ (.pan _) rfl ?_) k;(conv=>whnf);refine⟨rfl,?_⟩;refine NV underlying20 (Au.held (fun _=>False) 6 (sq [0,1,2] (.f 3 (.f 4 (.f 5 .e)))) rfl (by kernel_rfl) (EU BK (Bf 0) rfl (An 0) rfl (Kc underlying27 (fun l h=>by cases h) (AD (cs:=An 0) d 0 rfl rfl (J_ _) rfl fun H1 st1=>(⟨fun k b=>b.elim,?_⟩)))));refine Bh st1 1 rfl (by simp) rfl fun H2 c=>(⟨fun k b=>b.elim,?_⟩);refine AD (cs:=Ad 10 e) c 2 rfl rfl (J_ _) rfl fun H3 a=>(⟨fun k b=>b.elim,?_⟩);(conv=>whnf);have g:As (An x) 0 (An 0)=An 0:=Bq rfl;have e2:As (Ad c0 e0) 0 (Ad 10 e)=Ad 10 e:=Bq rfl;rw[e2]at a;rw[g]at a;exact a
def LV(t:ByteArray)(i:Nat)(v:v_):Prop:=match BI t i with
 | .inl e=>v= .tuple #[Bf 0,C_ 0,AI 10 e]
 | .inr (x,j)=>v= .tuple #[Bf x,C_ j,AI 0 0]
theorem Em{H:Aa}{t:ByteArray}{i:Nat}(T:E5 H)(X:t.size≤1152921504606846976)(hi:i<t.size):
  Al prog 192 #[.string t,C_ i] H fun v H'=>A_ (D_ H) H H'∧LV t i v:=by
 refine Al.of_rest func192 rfl (call192 _) (Bu.seq (Aw (Bf 0) (An 0) rfl rfl ?_));intro q4 H1 g l m n;have st1:=(St.nil H).box g l m n;refine Aw (.int .i64 0) [C_ 0] rfl rfl ?_;intro q5 H2 p z A B;have C:=st1.box p z A B;refine Aw (AI 0 0) (Ad 0 0) rfl rfl ?_;intro q6 H3 q D E F;have G:=C.box q D E F;refine Bu.seq ?_;have Y:decide ((i:Int)<0)=false:=m_;have Z:decide ((i:Int)≥(t.size:Int))=false:=m_;(conv=>whnf);rw[Y];(conv=>whnf);rw[Z];refine Bu.defer_ ⟨rfl,rfl,rfl,⟨_,rfl⟩,rfl,rfl⟩ (fun vs w=>call205 _ w) ?_;(conv=>whnf);refine⟨rfl,?_⟩;refine Ah underlying316 rfl _ rfl (rdL t i) rfl (BC (rdL t i) rfl ?_);intro r H4 u I J K;have L:=G.box u I J K;have o3:q4<q5:=by have:q5=H1.size:=p;omega
 have o4:q5<q6:=by have:q6=H2.size:=q;omega
 have o5:q6<r:=by have:r=H3.size:=u;omega
 refine Ab.mk (AeG (k:=3) T T.2 X L rfl hi) ?_ ?_
 ·rintro _ H5 ⟨x,j,M,rfl,c⟩;refine AD (cs:=An x) c 0 rfl rfl (J_ _) rfl fun H6 a=>?_;have e1:As (An 0) 0 (An x)=An x:=Bq rfl;rw[e1]at a;have U:=a.blk 0 rfl;have br:K_ H6 r 316 (rdL t j):=a.blk 3 rfl;refine AE.held (fun k=>k=q4∨k=r) [] (sq [0,1,2,3,4,5] (.f 6 (.f 7 (.f 8 .e)))) (IG (R:=fun v H5=>A_ (D_ H) H H5∧LV t i v) (by kernel_rfl)) rfl (by kernel_rfl) (L_ (cs:=An x) (Ea U) (.inl rfl) (F_ ?_));refine B_ (br.cellE rfl) (.inr rfl) (Ah underlying27 rfl _ rfl (Ad 0 0) rfl (AX (cs:=An x) a 0 rfl rfl (J_ _) rfl fun H7 d N a0=>?_));have e2:As (An x) 0 (An x)=An x:=Bq rfl;rw[e2]at d;have V:A_ (fun k=>k=q4∨k=r) H6 H7:=fun k y=>by
   rcases y with h | h
   ·rw[h];exact(d.blk 0 rfl).trans U.symm
   ·exact N _ (show k≠q4 by omega)
  refine⟨V,?_⟩;refine Nf d 1 rfl (by simp) rfl fun H8 O P a5=>?_;have W:A_ (fun k=>k=q4∨k=r) H6 H8:=V.trans (P.mono fun k y=>by rcases y with rfl | rfl<;>omega);refine⟨W,?_⟩;refine AX (cs:=Ad 0 0) O 2 rfl rfl (J_ _) rfl fun H9 b Q a6=>?_;have a9:A_ (fun k=>k=q4∨k=r) H6 H9:=W.trans (Q.mono fun k y=>by rcases y with rfl | rfl<;>omega);refine⟨a9,?_⟩;(conv=>whnf);refine Ab8 (L_ (cs:=An x) (Ea (b.blk 0 rfl)) trivial (B_ ((b.blk 1 rfl).cellE rfl) trivial ?_));refine L_ (cs:=Ad 0 0) ((b.blk 2 rfl).cells (fun j v S=>by rw[P_];exact S)) trivial ?_;refine⟨b.old,?_⟩;unfold LV;rw[M];rfl
 ·rintro _ H5 ⟨e,j,M,rfl,c⟩;refine Ab7 (q4:=q4) (q5:=q5) (q6:=q6) (x:=0) (j:=0) (c0:=0) (e0:=0) c fun H6 a=>(L_ (cs:=An 0) (Ea (a.blk 0 rfl)) trivial (B_ ((a.blk 1 rfl).cellE rfl) trivial ?_));refine L_ (cs:=Ad 10 e) ((a.blk 2 rfl).cells (fun j v S=>by rw[P_];exact S)) trivial ?_;refine⟨a.old,?_⟩;unfold LV;rw[M];rfl
inductive Sc3 where
 | e
 | q (i:Nat) (s:Sc3)
 | f (i:Nat) (s:Sc3)
 | b (i:Nat) (s:Sc3) (j:Nat) (s':Sc3)
 | t (i:Nat) (s:Sc3) (j:Nat) (s':Sc3) (k:Nat) (s'':Sc3)
def sq3:List Nat→Sc3→Sc3
 | [],s=>s
 | i::l,s=>.q i (sq3 l s)
def Sc3.len:Sc3→Nat
 | .e=>0
 | .q _ s=>s.len+1
 | .f _ s=>s.len+1
 | .b _ s _ _=>s.len+1
 | .t _ s _ _ _ _=>s.len+1
def Sc3.even:Sc3→Bool
 | .e=>true
 | .q _ s=>s.even
 | .f _ s=>s.even
 | .b _ s _ s'=>s.even&&s'.even&&s.len==s'.len
 | .t _ s _ s' _ s''=>s.even&&s'.even&&s''.even&&s.len==s'.len&&s.len==s''.len
def DI(ops:Array Oper):Sc3→Array Bool→Bool
 | .e,listed=>(Region.ready .any ops listed).isEmpty
 | .q i s,listed=>(Region.ready .any ops listed).contains i&&Region.free .any ops listed i&&DI ops s (listed.setIfInBounds i true)
 | .f i s,listed=>Region.ready .any ops listed==[i]&&DI ops s (listed.setIfInBounds i true)
 | .b i s j s',listed=>Region.ready .any ops listed==[i,j]&&DI ops s (listed.setIfInBounds i true)&&DI ops s' (listed.setIfInBounds j true)
 | .t i s j s' k s'',listed=>Region.ready .any ops listed==[i,j,k]&&DI ops s (listed.setIfInBounds i true)&&DI ops s' (listed.setIfInBounds j true)&&DI ops s'' (listed.setIfInBounds k true)
def held3(P:w_)(S:Nat→Prop)(H0:Aa)(all:List Oper)(s:Sc3):Fr→Aa→(Fr→Aa→Prop)→Prop:=
 Sc3.rec (motive:=fun _=>Fr→Aa→(Fr→Aa→Prop)→Prop) (fun fr H K=>K fr H)
  (fun i _ ih fr H K=>match all[i]? with
   | none=>False
   | some o=>Nr all o fr (K3 P S o H fun fr' H'=>ih fr' H' K) (Le o H fun fr' H'=>ih fr' H' K))
  (fun i _ ih fr H K=>HT P S [] H0 all i fr H fun fr' H'=>ih fr' H' K)
  (fun i _ j _ ih ih' fr H K=>(HT P S [] H0 all i fr H fun fr' H'=>ih fr' H' K)∧HT P S [] H0 all j fr H fun fr' H'=>ih' fr' H' K)
  (fun i _ j _ k _ ih ih' ih'' fr H K=>(HT P S [] H0 all i fr H fun fr' H'=>ih fr' H' K)∧(HT P S [] H0 all j fr H fun fr' H'=>ih' fr' H' K)∧HT P S [] H0 all k fr H fun fr' H'=>ih'' fr' H' K) s
theorem ZV(P:w_)(S:Nat→Prop)(H0:Aa)(all:List Oper)(i:Nat)(s:Sc3)(fr:Fr)(H:Aa)(K:Fr→Aa→Prop):held3 P S H0 all (.q i s) fr H K=
  (match all[i]? with
   | none=>False
   | some o=>Nr all o fr (K3 P S o H fun a H'=>held3 P S H0 all s a H' K) (Le o H fun a H'=>held3 P S H0 all s a H' K)):=rfl
theorem Cd{P:w_}{S:Nat→Prop}{w0:y_}{all:List Oper}{Q:Exit→Act→y_→Prop}(hs:Region.noSelect all.toArray=true)
  (C:∀c a w,¬Q (.panic c) a w):∀(l:Sc3) (d:Array Bool) (fr:Fr) (a:Act) (w:y_) (K:Fr→Aa→Prop),At fr a→Y_ w0 w→Cls w0 S w→Zaf all.toArray d→
  (∀p a' g,At p a'→Y_ w0 g→K p g.heap→Q .normal a' g)→DI all.toArray l d=true→l.even=true→
  held3 P S w0.heap all l fr w.heap K→Ig P all.toArray Q (Cls w0 S) [] l.len d a w
 | .e,d,fr,a,w,K,hat,he,_,_,hq,hB,_,h=>⟨by simpa [DI]using hB,hq fr a w hat he h⟩
 | .q i s,d,fr,a,w,K,hat,he,hc,hsh,hq,hB,hev,h=>by
   simp only[DI,h_]at hB;obtain⟨⟨D,T⟩,r⟩:=hB;rw[ZV]at h;split at h
   ·exact h.elim
   ·rename_i o U;have E:all.toArray[i]?=some o:=by simpa using U
    have F:i∈Region.ready .any all.toArray d:=by simpa using D
    rcases Ie hat h with⟨x,h⟩ | ⟨x,h⟩
    ·unfold K3 at h;split at h
     ·have⟨v,V,n⟩:=C2 h;rw[Bi]at n;refine Dc (v:=v) (f:=all.toArray.size) E (Region.noSelect_spec hs) (fun c a' g J=>(C _ _ _ J).elim) rfl (fun j H=>by cases H) s.len d a w hsh (Region.free_spec E T) F
       (.inl ⟨x,fun g L=>?_⟩) hc ?_
      ·rw[hat.evalF];exact V g fun k n=>(L.2 k n).trans (hc.2 k n).symm
      ·exact Cd hs C s _ _ _ w K (hat.put o.dst v) he hc (hsh.put F) hq r hev n
     ·exact h.elim
    ·unfold Le at h;rw[Bi]at h;exact Dc (v:=undef) (f:=all.toArray.size) E (Region.noSelect_spec hs) (fun c a' g J=>(C _ _ _ J).elim) rfl (fun j H=>by cases H) s.len d a w hsh (Region.free_spec E T) F
      (.inr ⟨x,rfl⟩) hc (Cd hs C s _ _ _ w K (hat.put o.dst undef) he hc (hsh.put F) hq r hev h)
 | .f i s,d,fr,a,w,K,hat,he,hc,hsh,hq,hB,hev,h=>by
   simp only[DI,h_,beq_iff_eq]at hB;have⟨D,r⟩:=hB;refine⟨(fun G=>by rw[D]at G;cases G),fun j H=>?_⟩;have M:=H;rw[D]at H;obtain rfl:j=i:=by simpa using H
   exact Ch (Z:=[]) hat he (fun _=>hc) h fun p a' g z A u B=>⟨u,Cd hs C s _ _ _ g K z A (u rfl) (hsh.put M) hq r hev B⟩
 | .b i s j s',d,fr,a,w,K,hat,he,hc,hsh,hq,hB,hev,h=>by
   simp only[DI,h_,beq_iff_eq]at hB;obtain⟨⟨D,r⟩,I⟩:=hB;simp only[Sc3.even,h_,beq_iff_eq]at hev;obtain⟨⟨N,e2⟩,O⟩:=hev;refine⟨(fun G=>by rw[D]at G;cases G),fun k n=>?_⟩;have y:=n;rw[D]at n;rcases Ybe.1 n with rfl | n
   ·exact Ch (Z:=[]) hat he (fun _=>hc) h.1 fun p a' g z A u B=>⟨u,Cd hs C s _ _ _ g K z A (u rfl) (hsh.put y) hq r N B⟩
   ·obtain rfl:k=j:=by simpa using n
    rw[O];exact Ch (Z:=[]) hat he (fun _=>hc) h.2 fun p a' g z A u B=>⟨u,Cd hs C s' _ _ _ g K z A (u rfl) (hsh.put y) hq I e2 B⟩
 | .t i s j s' m s'',d,fr,a,w,K,hat,he,hc,hsh,hq,hB,hev,h=>by
   simp only[DI,h_,beq_iff_eq]at hB;obtain⟨⟨⟨D,r⟩,I⟩,R⟩:=hB;simp only[Sc3.even,h_,beq_iff_eq]at hev;obtain⟨⟨⟨⟨N,e2⟩,O⟩,W⟩,X⟩:=hev;refine⟨(fun G=>by rw[D]at G;cases G),fun k n=>?_⟩;have y:=n;rw[D]at n;rcases Ybe.1 n with rfl | n
   ·exact Ch (Z:=[]) hat he (fun _=>hc) h.1 fun p a' g z A u B=>⟨u,Cd hs C s _ _ _ g K z A (u rfl) (hsh.put y) hq r N B⟩
   ·rcases Ybe.1 n with rfl | n
    ·rw[W];exact Ch (Z:=[]) hat he (fun _=>hc) h.2.1 fun p a' g z A u B=>⟨u,Cd hs C s' _ _ _ g K z A (u rfl) (hsh.put y) hq I e2 B⟩
    ·obtain rfl:k=m:=by simpa using n
     rw[X];exact Ch (Z:=[]) hat he (fun _=>hc) h.2.2 fun p a' g z A u B=>⟨u,Cd hs C s'' _ _ _ g K z A (u rfl) (hsh.put y) hq R O B⟩
theorem Au.held3{P:w_}{l:List Oper}{fr:Fr}{H:Aa}{K:Fr→Aa→Prop}(S:Nat→Prop)(b:Sc3)(g:P.follows .mixedOrders=true)
  (c:(Region.noSelect l.toArray&&(b.len==l.length)&&b.even&&DI l.toArray b (AgY l.length false))=true)
  (h:YtdopnglgekglgaaGreatDoor.held3 P S H l b fr H K):Au P l fr H K:=by
 refine⟨?_⟩;intro id Q a w d k m n;subst k;simp only[h_,beq_iff_eq]at c;refine wp_region_any g (Fz (S:=Cls w S) (Z:=[]) _ _ _ _ ?_);have e:Zaf l.toArray (AgY l.length false):=fun j o _ f=>by
  rw[YbL,YbM]at f;split at f<;>simp at f
 have:=Cd (P:=P) (S:=S) (w0:=w) (Q:=Q) c.1.1.1 m b (AgY l.length false) fr a {w with drawn:=w.drawn+1} K d ⟨rfl,rfl,rfl⟩ ⟨⟨rfl,rfl,rfl⟩,A_.refl _ _⟩ e n c.2 c.1.2 h;rw[c.1.1.2]at this;simpa using this
theorem E_.capT{α:Type}{T:Ty α}{S:Nat→Prop}{B:Nat→Prop}{H0 H:Aa}{ps:List Pc}{e:x_}{a:Option Addr}{n cap:Nat}{xs:List α}(f:E_ B H0 H ps)(i:Nat)(g:ps[i]?=some (pN T S e a n cap xs)):xs.length≤cap:=by
 obtain⟨j,⟨k,c⟩,m⟩:=(f.at_ i g).1;rcases c with⟨c,h⟩ | ⟨b,d,l,c,p,q,r,t,u,w⟩
 ·rw[h];exact l_ _
 ·cases c;omega
theorem E_.popT{α:Type}{T:Ty α}{B:Nat→Prop}{H0 H:Aa}{ps:List Pc}{e:x_}{a:Option Addr}{n cap:Nat}{xs:List α}{x:α}(f:E_ B H0 H ps)(i:Nat)(g:ps[i]?=some (pS T e a n cap (xs++[x]))):E_ B H0 H (ps.set i (pS T e a xs.length cap xs)):=by
 have d:=(f.at_ i g).1;refine f.say i g _ ⟨d.pop,fun k b=>b.elim⟩ fun k b=>?_;rcases b with⟨o,m,c,b⟩ | b
 ·injection b with e1 e2 e3
  subst e1;exact .inl ⟨o,n,cap,rfl⟩
 ·exact b.elim
theorem K_.ne{H:Aa}{b b':Nat}{e e':x_}{l a:List v_}(h:K_ H b e l)(c:K_ H b' e' a)(d:e≠e'):b≠b':=by
 rintro rfl;have f:=AlH.inj (h.symm.trans c);injection f with _ e2 _
 exact d e2
section
variable{t:ByteArray}{i:Nat}{f:AF}{fs:List AF}
theorem SU(h:bt t i=40)(a:fs.length<1000):BF t ⟨i,f,fs⟩= .inr ⟨i+1,IB i,AC f::fs⟩:=by
 unfold BF;simp only[h];rw[G_ (by decide),G_ (by decide),G_ (by decide),G_ (by decide),I_ trivial,G_ (by omega)]
theorem ST(h:bt t i=40)(a:1000≤fs.length):BF t ⟨i,f,fs⟩= .inl (23,i):=by
 unfold BF;simp only[h];rw[G_ (by decide),G_ (by decide),G_ (by decide),G_ (by decide),I_ trivial,I_ a]
theorem Rm{g:AF}(h:bt t i=41):BF t ⟨i,f,g::fs⟩= .inr ⟨i+1,{g with factor:=(CC f).alt},fs⟩:=by
 unfold BF;simp only[h];rw[G_ (by decide),G_ (by decide),G_ (by decide),I_ trivial]
theorem Pz(h:bt t i=41):BF t ⟨i,f,[]⟩= .inl (20,i):=by
 unfold BF;simp only[h];rw[G_ (by decide),G_ (by decide),G_ (by decide),I_ trivial]
theorem VH(h:bt t i=124):BF t ⟨i,f,fs⟩= .inr ⟨i+1,CC f,fs⟩:=by
 unfold BF;simp only[h];rw[G_ (by decide),I_ trivial]
theorem MH(h:bt t i=38∨bt t i=45):BF t ⟨i,f,fs⟩= .inr ⟨i+1,{CJ f with sign:=bt t i},fs⟩:=by
 unfold BF;rcases h with h | h<;>(simp only[h];rw[G_ (by decide),G_ (by decide),I_ (by decide)])
theorem FK(h:Hj (bt t i)=true)(a:f.factor=none):BF t ⟨i,f,fs⟩= .inl (20,i):=by
 unfold BF;simp only[a];rw[I_ h]
def OW(c:Nat):Prop:=c≠124∧c≠38∧c≠45∧c≠41∧Hj c=false
theorem VI(h:OW (bt t i))(a:bt t i≠40){x:BitVec 256}{k:Nat}(b:BI t i= .inr (x,k)):BF t ⟨i,f,fs⟩= .inr ⟨k,{AC f with factor:=some (.cls x)},fs⟩:=by
 unfold BF;simp only[b];rw[G_ (by rw[h.2.2.2.2];decide),G_ h.1,G_ (by rintro(e | e);exact h.2.1 e;exact h.2.2.1 e),G_ h.2.2.2.1,G_ a]
theorem SS(h:OW (bt t i))(a:bt t i≠40){e:Nat}(b:BI t i= .inl e):BF t ⟨i,f,fs⟩= .inl (10,e):=by
 unfold BF;simp only[b];rw[G_ (by rw[h.2.2.2.2];decide),G_ h.1,G_ (by rintro(e | e);exact h.2.1 e;exact h.2.2.1 e),G_ h.2.2.2.1,G_ a]
theorem ZJ{e:Nat}(h:Ko t i= .inl e):e≤i+2:=by
 unfold Ko at h;split at h
 ·cases h;omega
 ·split at h
  ·cases h
  ·split at h
   ·cases h
   ·split at h
    ·cases h
    ·split at h
     ·split at h
      ·cases h;omega
      ·split at h
       ·cases h;omega
       ·cases h
     ·split at h
      ·cases h;omega
      ·cases h
theorem Pu{u:ByteArray}{e:Nat}(h:E0 t u i= .inl e):e≤i+3:=by
 unfold E0 at h;split at h
 ·have:=ZJ h;omega
 ·split at h
  ·cases h;omega
  ·cases h
theorem Pl:∀{n i e:Nat} {x:BitVec 256},Hr t n i x= .inl e→i≤t.size+2→e≤t.size+6
 | 0,i,e,x,h,hi=>by cases h;omega
 | n+1,i,e,x,h,hi=>by
   unfold Hr at h;split at h
   ·cases h
   ·split at h
    ·rename_i d a;cases h;have:=Pu a;omega
    ·rename_i lo j a;have:=FH a;unfold NI at h;split at h
     ·split at h
      ·rename_i e2 b;cases h;have:=Pu b;omega
      ·rename_i c f b;have:=FH b;split at h
       ·cases h;omega
       ·exact Pl h (by omega)
     ·exact Pl h (by omega)
theorem MM{e:Nat}(h:BI t i= .inl e)(hi:i<t.size):e≤t.size+6:=by
 unfold BI at h;split at h
 ·cases h
 ·split at h
  ·unfold KN at h;split at h
   ·rename_i b a;cases h;exact Pl a (by split<;>omega)
   ·cases h
  ·split at h
   ·rename_i b a;cases h;have:=Pu a;omega
   ·cases h
end
abbrev tPl:Ty Int:=DB .i64
abbrev sP(s:Nat)(t:ByteArray)(i:Nat)(a:Option Addr)(n cap:Nat)(os:List Int)(ps:List Pc):List Pc:=pSc s t i (.slice a n cap)::pS tPl 3 a n cap os::ps
structure Sc(B:Nat→Prop)(H:Aa)(s:Nat)(t:ByteArray)(i:Nat)(os:List Int)(ps:List Pc):Prop where
 ex:∃a n cap,E_ B H H (sP s t i a n cap os ps)
structure SR(B:Nat→Prop)(H:Aa)(s:Nat)(t:ByteArray)(j:Nat)(os:List Int)(ps:List Pc)(r:ReM)(v:v_)(H':Aa):Prop where
 ex:∃(B':Nat→Prop) (fn:v_),v= .agg (Ac r fn).toArray∧(∀k,B k→B' k)∧A_ B H H'∧Sc B' H' s t j os ps∧BW B' H' fn r
structure SE(B:Nat→Prop)(H:Aa)(t:ByteArray)(st:RdS)(x:v_)(H':Aa):Prop where
 ex:∃c p:Nat,BQ t st= .inl (c,(p:Int))∧x=Bg c p∧A_ B H H'
theorem SE.from{B B':Nat→Prop}{H H1 H':Aa}{t:ByteArray}{b a:RdS}{x:v_}(h:SE B' H1 t a x H')(d:BQ t b=BQ t a)(e:A_ B H H1)(hs:∀k,B k→B' k):SE B H t b x H':=by
 have⟨c,p,f,g,j⟩:=h;exact⟨c,p,d.trans f,g,e.trans fun k l=>j k (hs k l)⟩
def Jj(t:ByteArray)(i:Nat):Prop:=∀(B:Nat→Prop) (H:Aa) (s:Nat) (os:List Int) (ps:List Pc) (f:AF) (fs:List AF),E5 H→B 2→i≤t.size→os.length=fs.length→fs.length≤1000→
 f.alt=none→f.meet=none→f.row=none→f.factor=none→Sc B H s t i os ps→
 Ay prog 106 #[H_ s] H
  (fun v H'=>∃j f' r,i≤j∧j≤t.size∧(j=t.size∨bt t j=41)∧BQ t ⟨i,f,fs⟩=BQ t ⟨j,f',fs⟩∧(CC f').alt=some r∧f'.place=f.place∧SR B H s t j os ps r v H')
  (fun x H'=>SE B H t ⟨i,f,fs⟩ x H')
theorem L7{x:Int}(h:inK .i64 x):(Lit.int .i64 x).wf=true:=by
 unfold Lit.wf;simp only[h_,Zzj];exact h
def GN(c e:Nat):List Lit:=[.int .i64 (c:Int),.int .i64 (e:Int),.string []]
theorem L5{c e:Nat}(b:c<9223372036854775808)(d:e<9223372036854775808):prog.keyLits 3 27 (Ad c e)=some (GN c e):=by
 have f:prog.cellsOf 27=3:=by kernel_rfl
 have g:prog.cellsOf 25=1:=by kernel_rfl
 have h:prog.cellsOf 3=1:=by kernel_rfl
 have j:prog.cellsOf 9=1:=by kernel_rfl
 have k:(0:Nat)≤maxLen:=l_ _;have a:(⟨#[]⟩:ByteArray).size≤maxLen:=l_ _;simp[Program.keyLits,underlying27,underlying25,underlying3,underlying9,f,g,h,j,Ad,GN,a,L7 (Co b),L7 (Co d)]
theorem Sz{c e c' e':Nat}:decide (c=c'∧e=e')=true↔GN c e=GN c' e':=by
 unfold GN;rw[Zzj];constructor
 ·rintro⟨rfl,rfl⟩;rfl
 ·intro h;simp only[List.cons.injEq,Lit.int.injEq,true_and,and_true]at h;exact⟨by omega,by omega⟩
theorem GP{c e c' e':Nat}(d:c<9223372036854775808)(f:e<9223372036854775808)(a:c'<9223372036854775808)(b:e'<9223372036854775808){x y:z_}{S:Nat→Prop}{H:Aa}{K:v_→Prop}(k:K (.bool (!decide (c=c'∧e=e')))):
  A7 prog (do eqGuard .neq 27 x y (.agg (Ad c e).toArray) (.agg (Ad c' e').toArray);binOp .neq 27 (.agg (Ad c e).toArray) (.agg (Ad c' e').toArray)) S H K:=
 AfX (m:=3) (la:=GN c e) (lb:=GN c' e') (by kernel_rfl) (by decide) (eqGuardType27) rfl rfl (L5 d f) (L5 a b) Sz k
theorem AdB{B:Nat→Prop}{H:Aa}{s i:Nat}{t:ByteArray}{os:List Int}{ps:List Pc}{f:AF}{fs:List AF}(hE:E5 H)(M:B 2)(ht:t.size≤1048576)(hi:i<t.size)(c8:os.length=fs.length)(c9:fs.length≤1000)
  (ak:OW (bt t i)) (IH:∀i',i<i'→Jj t i') (sc:Sc B H s t i os ps):
  Ay prog 179 #[H_ s] H
   (fun v H'=>∃j r,i<j∧j≤t.size∧BQ t ⟨i,f,fs⟩=BQ t ⟨j,{AC f with factor:=some r},fs⟩∧SR B H s t j os ps r v H')
   (fun x H'=>SE B H t ⟨i,f,fs⟩ x H'):=by
 have⟨a,n,cap,st⟩:=sc;refine Ay.of_vc func179 rfl (call179 _) (BV st (.agg Aq.toArray) Aq CE rfl fun C H1 st1=>(Ab.of (Ak (CX (st1.blk 0 rfl) hi) fun H2 bd=>?_)));have g:=st1.call bd;by_cases O:bt t i=40
 ·have d1:(((bt t i:Nat):Int) != 40)=false:=by rw[O];rfl
  (conv=>whnf);rw[d1];obtain rfl:n=os.length:=g.len 1 rfl;replace g:E_ B H H2 (sP s t i a os.length cap os ps++[pB 204 C Aq]):=g;refine Ao.run (F_ ?_);refine lT ((g.blk 0 rfl).cellE rfl) ?_;by_cases hd:1000≤fs.length
  ·have d2:decide (1000≤(os.length:Int))=true:=s_;(conv=>whnf);rw[d2];refine F_ ?_;refine B_ ((g.blk 0 rfl).cellE rfl) trivial (Ab.mk (Cr (c:=23) (e:=i)) (fun _ _ h=>h.elim) ?_);rintro _ _ ⟨rfl,rfl⟩;exact⟨23,i,E1 hi (ST O hd),rfl,g.old⟩
  ·have d2:decide (1000≤(os.length:Int))=false:=m_;(conv=>whnf);rw[d2];refine AE.of (Au.heldZ (fun k=>k=s) [13] (sq [0,1,2,3,4,5,6,7,8] (.f 9 (.f 10 (sq [11,12] (.f 13 .e))))) rfl (by kernel_rfl) (F_ ?_));refine B_ ((g.blk 0 rfl).cellE rfl) rfl (F_ ?_);refine B_ ((g.blk 0 rfl).cellE rfl) rfl (Az AO [C_ i] rfl rfl (by decide) (by decide) ?_);intro z H3 be cb a8 bf;have am:=g.skip be bf;refine⟨fun k m=>by rw[show k=s from m];exact(am.blk 0 rfl).trans (g.blk 0 rfl).symm,?_⟩;refine GH (x:=(i:Int)) am 1 AO rfl a8 ⟨rfl,Co (by omega)⟩ rfl (by omega) (by decide) fun a4 P H4 ao cd=>?_;refine⟨fun k m=>by rw[show k=s from m];exact(ao.blk 0 rfl).trans (g.blk 0 rfl).symm,?_⟩;refine F_ ?_;refine Bh ao 0 rfl (by simp) rfl fun H5 a9=>?_;replace a9:E_ B H H5 (sP s t i a4 (os.length+1) P (os++[(i:Int)]) ps++[pB 204 C Aq]):=a9;refine F_ ?_;refine lT ((a9.blk 0 rfl).cellE rfl) ?_;(conv=>whnf);rw[n_ (x:=(i:Int)+1) (by omega)];refine F_ ?_;refine Bh a9 0 rfl (by simp) rfl fun H6 N=>?_;replace N:E_ B H H6 (sP s t (i+1) a4 (os.length+1) P (os++[(i:Int)]) ps++[pB 204 C Aq]):=N;have ae:BQ t ⟨i,f,fs⟩=BQ t ⟨i+1,IB i,AC f::fs⟩:=Ed hi (SU O (by omega));refine Ab.mk (IH (i+1) (by omega) B H6 s (os++[(i:Int)]) (ps++[pB 204 C Aq]) (IB i) (AC f::fs) (IM hE M N) M (by omega) (by simp;omega) (by simp;omega) rfl rfl rfl rfl ⟨a4,_,P,N.rebase⟩) ?_ ?_
   rotate_left
   ·intro x H7 h;exact h.from ae N.old fun k m=>m
   rintro _ H7 ⟨j,f',r,ce,hj,ap,aq,bh,bj,⟨B1,f1,rfl,s1,a7,⟨a2,n2,J,ab⟩,gv⟩⟩;obtain⟨g1,c1,rfl⟩:=gv.fn;have bn:n2=os.length+1:=by have:=ab.len 1 rfl;rw[this];simp
   subst bn;replace ab:E_ B1 H7 H7 (sP s t j a2 (os.length+1) J (os++[(i:Int)]) ps++[pB 204 C Aq]):=ab;have au:A_ B H H7:=N.old.trans a7;refine BV ab (.agg Aq.toArray) Aq CE rfl fun q6 H8 aw=>?_;rw[YaC]at aw;refine AX (cs:=Ac r (.func (.func g1) #[] c1)) aw _ rfl (U_ _ _ 1) (by simp[Ac,Aq]) rfl fun H9 Q cg ch=>?_;rw[I',Cm rfl]at Q;replace Q:E_ B1 H7 H9 (sP s t j a2 (os.length+1) J (os++[(i:Int)]) ps++[pB 204 C Aq,pB 204 q6 (Ac r (.func (.func g1) #[] c1))]):=Q;refine Ao.run (Ab.of (Ak (Eh (Q.blk 0 rfl)) fun H10 ay=>?_));have F:=Q.call ay;have bo:A_ B H H10:=au.trans fun k m=>F.old k (s1 k m);by_cases az:j<t.size
   ·rw[a_ (show¬t.size≤j by omega)];have bp:bt t j=41:=by rcases ap with h | h;omega;exact h
    (conv=>whnf);refine F_ ?_;refine lT ((F.blk 0 rfl).cellE rfl) ?_;(conv=>whnf);rw[n_ (x:=(j:Int)+1) (by omega)];refine F_ ?_;refine Bh F 0 rfl (by simp) rfl fun H11 I=>?_;replace I:E_ B1 H7 H11 (sP s t (j+1) a2 (os.length+1) J (os++[(i:Int)]) ps++[pB 204 C Aq,pB 204 q6 (Ac r (.func (.func g1) #[] c1))]):=I;have b4:=I.capT 1 rfl;rw[Q_,List.length_singleton]at b4;refine AE.of (Au.heldZ (fun k=>k=s) [14] (sq [0,1,2,3,4,5,6,7,8,9,10,11,12,13] (.f 14 .e)) rfl (by kernel_rfl) (F_ ?_));refine B_ ((I.blk 0 rfl).cellE rfl) rfl (F_ ?_);refine B_ ((I.blk 0 rfl).cellE rfl) rfl ?_;(conv=>whnf);rw[n_ (x:=((os.length+1:Nat):Int)-1) (by omega)];rw[show((os.length+1:Nat):Int)-1=(os.length:Int) by omega];refine YR AO (by omega) (by omega) (F_ ?_);have b6:=I.popT 1 rfl;refine Bh b6 0 rfl (by simp) rfl fun H13 K=>?_;rw[Yau]at K;replace K:E_ B1 H7 H13 (sP s t (j+1) a2 os.length J os ps++[pB 204 C Aq,pB 204 q6 (Ac r (.func (.func g1) #[] c1))]):=K;refine L_ (cs:=Ac r (.func (.func g1) #[] c1)) (Ax (K.blk _ (U_ _ _ 1))) trivial (AX (cs:=Ac r (.func (.func g1) #[] c1)) K _ rfl (U_ _ _ 0) (by simp[Ac,Aq]) rfl fun H14 L c5 c6=>?_);rw[I',Cm rfl]at L;refine L_ (cs:=Ac r (.func (.func g1) #[] c1)) (Ax (L.blk _ (U_ _ _ 0))) trivial (⟨j+1,r,by omega,by omega,?_,B1,_,rfl,s1,au.trans fun k m=>L.old k (s1 k m),⟨a2,_,J,L.lft.rebase⟩,gv.frame L.old fun k m=>m⟩);rw[ae,aq,Ed (s:=⟨j,f',AC f::fs⟩) az (Rm bp),bh]
   ·rw[g_ (show t.size≤j by omega)];refine AE.held (D_ H10) [] (sq [0,1,2,3,4,5,6,7,8,9,10,11,12] (.f 13 .e)) (AQ _ _) rfl (by kernel_rfl) (F_ ?_);refine B_ ((F.blk 0 rfl).cellE rfl) (F.blk 0 rfl).lt (F_ ?_);refine B_ ((F.blk 0 rfl).cellE rfl) (F.blk 0 rfl).lt ?_;(conv=>whnf);rw[n_ (x:=((os.length+1:Nat):Int)-1) (by omega)];rw[show((os.length+1:Nat):Int)-1=(os.length:Int) by omega];refine ixO (j:=os.length) (x:=(i:Int)) AO F 1 rfl (by simp) rfl fun b5 o5 ci bq br bu=>?_;obtain⟨rfl,-⟩:=bu;refine B_ (v:=C_ i) br.one bq (Ab.mk (Cr (c:=21) (e:=i)) (fun _ _ h=>h.elim) ?_);rintro _ _ ⟨rfl,rfl⟩;refine⟨21,i,?_,rfl,bo⟩;rw[ae,aq,Rl (s:=⟨j,f',AC f::fs⟩) az];show Sum.inl (21,f'.place)=_;rw[bj];rfl
 ·have d1:(((bt t i:Nat):Int) != 40)=true:=bne_iff_ne.2 (by omega);(conv=>whnf);rw[d1];obtain⟨X,j,E,D,hX,cj,cm,hj⟩:∃(X:BitVec 256) (j E D:Nat),(∀v,LV t i v→v= .tuple #[Bf X,C_ j,AI E D])∧E≤10∧D≤t.size+10∧(BI t i= .inl D∧E=10∨BI t i= .inr (X,j)∧E=0∧D=0):=by
   cases hr:BI t i with
   | inl e=>exact⟨0,0,10,e,fun v R=>by unfold LV at R;rw[hr]at R;exact R,by omega,by have:=MM hr hi;omega,.inl ⟨rfl,rfl⟩⟩
   | inr y=>exact⟨y.1,y.2,0,0,fun v R=>by unfold LV at R;rw[hr]at R;exact R,by omega,by omega,.inr ⟨rfl,rfl,rfl⟩⟩
  have ad:E_ B H H2 (sP s t i a n cap os ps++[pB 204 C Aq]):=g;refine AE.of (Au.cut [3,4,5] (fun x:Nat×Nat=>match x with | (z,A)=>[H_ z,C_ j,H_ A]) (fun x G=>match x with | (z,A)=>E_ B H G (sP s t i a n cap os ps++[pB 204 C Aq])∧K_ G z 227 (An X)∧K_ G A 27 (Ad E D)) ?_ ?_)
  ·refine Au.held3 (fun k=>k=s) (sq3 [0,1,2,3,4,5,6,7] (.t 8 (sq3 [9,10,11,12] (.b 13 (.f 14 (.f 15 (.q 16 (.f 17 .e)))) 14 (.f 13 (.f 15 (.q 16 (.f 17 .e)))))) 13 (.b 8 (sq3 [9,10,11,12] (.f 14 (.f 15 (.q 16 (.f 17 .e))))) 14 (.f 8 (sq3 [9,10,11,12] (.f 15 (.q 16 (.f 17 .e)))))) 14 (.b 8 (sq3 [9,10,11,12] (.f 13 (.f 15 (.q 16 (.f 17 .e))))) 13 (.f 8 (sq3 [9,10,11,12] (.f 15 (.q 16 (.f 17 .e)))))))) rfl (by kernel_rfl) (F_ ?_);refine B_ ((g.blk 0 rfl).cellE rfl) rfl (F_ ?_);refine B_ ((g.blk 0 rfl).cellE rfl) rfl ?_;(conv=>whnf);refine⟨?_,?_,?_⟩
   ·refine Aj.mk (Em (IM hE M ad) (by omega) hi) ?_;rintro _ J1 ⟨bv,hR⟩;obtain rfl:=hX _ hR;have w:=ad.call bv;refine⟨fun k m=>by rw[show k=s from m];exact(w.blk 0 rfl).trans (g.blk 0 rfl).symm,?_⟩;(conv=>whnf);refine⟨?_,?_⟩
    ·refine Aw (Bf 0) (An 0) rfl rfl ?_;intro z J2 S T U V;have p:=w.box S T U V;rw[YaC]at p;replace p:E_ B H J2 (sP s t i a n cap os ps++[pB 204 C Aq,pB 227 z (An 0)]):=p;refine⟨fun k m=>by rw[show k=s from m];exact(p.blk 0 rfl).trans (g.blk 0 rfl).symm,?_⟩;(conv=>whnf);refine Aw (AI 0 0) (Ad 0 0) rfl rfl ?_;intro A J3 W Y Z a0;have u:=p.box W Y Z a0;rw[YaC]at u;replace u:E_ B H J3 (sP s t i a n cap os ps++[pB 204 C Aq,pB 227 z (An 0),pB 27 A (Ad 0 0)]):=u;refine⟨fun k m=>by rw[show k=s from m];exact(u.blk 0 rfl).trans (g.blk 0 rfl).symm,?_⟩;(conv=>whnf);refine AD (cs:=An X) u _ rfl (U_ _ _ 1) (J_ _) rfl fun J4 l=>?_;rw[I']at l;have e4:As (An 0) 0 (An X)=An X:=Bq rfl;replace l:E_ B H J4 (sP s t i a n cap os ps++[pB 204 C Aq,pB 227 z (As (An 0) 0 (An X)),pB 27 A (Ad 0 0)]):=l;rw[e4]at l;refine⟨fun k m=>by rw[show k=s from m];exact(l.blk 0 rfl).trans (g.blk 0 rfl).symm,?_⟩;refine AD (cs:=Ad E D) l _ rfl (U_ _ _ 2) (J_ _) rfl fun J5 d=>?_;rw[I']at d;have e5:As (Ad 0 0) 0 (Ad E D)=Ad E D:=Bq rfl;replace d:E_ B H J5 (sP s t i a n cap os ps++[pB 204 C Aq,pB 227 z (An X),pB 27 A (As (Ad 0 0) 0 (Ad E D))]):=d;rw[e5]at d;refine⟨fun k m=>by rw[show k=s from m];exact(d.blk 0 rfl).trans (g.blk 0 rfl).symm,?_⟩;(conv=>whnf);exact⟨rfl,(z,A),rfl,d.subl ((YcZ _).2 (List.Sublist.cons_cons _ (Ydc _))),d.blk _ (U_ _ _ 1),d.blk _ (U_ _ _ 2)⟩
    ·refine Aw (AI 0 0) (Ad 0 0) rfl rfl ?_;intro A J2 S T U V;have p:=w.box S T U V;rw[YaC]at p;replace p:E_ B H J2 (sP s t i a n cap os ps++[pB 204 C Aq,pB 27 A (Ad 0 0)]):=p;refine⟨fun k m=>by rw[show k=s from m];exact(p.blk 0 rfl).trans (g.blk 0 rfl).symm,?_⟩;(conv=>whnf);refine Aw (Bf 0) (An 0) rfl rfl ?_;intro z J3 W Y Z a0;have u:=p.box W Y Z a0;rw[YaC]at u;replace u:E_ B H J3 (sP s t i a n cap os ps++[pB 204 C Aq,pB 27 A (Ad 0 0),pB 227 z (An 0)]):=u;refine⟨fun k m=>by rw[show k=s from m];exact(u.blk 0 rfl).trans (g.blk 0 rfl).symm,?_⟩;(conv=>whnf);refine AD (cs:=An X) u _ rfl (U_ _ _ 2) (J_ _) rfl fun J4 l=>?_;rw[I']at l;have e4:As (An 0) 0 (An X)=An X:=Bq rfl;replace l:E_ B H J4 (sP s t i a n cap os ps++[pB 204 C Aq,pB 27 A (Ad 0 0),pB 227 z (As (An 0) 0 (An X))]):=l;rw[e4]at l;refine⟨fun k m=>by rw[show k=s from m];exact(l.blk 0 rfl).trans (g.blk 0 rfl).symm,?_⟩;refine AD (cs:=Ad E D) l _ rfl (U_ _ _ 1) (J_ _) rfl fun J5 d=>?_;rw[I']at d;have e5:As (Ad 0 0) 0 (Ad E D)=Ad E D:=Bq rfl;replace d:E_ B H J5 (sP s t i a n cap os ps++[pB 204 C Aq,pB 27 A (As (Ad 0 0) 0 (Ad E D)),pB 227 z (An X)]):=d;rw[e5]at d;refine⟨fun k m=>by rw[show k=s from m];exact(d.blk 0 rfl).trans (g.blk 0 rfl).symm,?_⟩;(conv=>whnf);exact⟨rfl,(z,A),rfl,d.subl ((YcZ _).2 (List.Sublist.cons_cons _ (Ydc _))),d.blk _ (U_ _ _ 2),d.blk _ (U_ _ _ 1)⟩
   ·refine Aw (Bf 0) (An 0) rfl rfl ?_;intro z J1 bw bx bz c2;have w:=ad.box bw bx bz c2;rw[YaC]at w;replace w:E_ B H J1 (sP s t i a n cap os ps++[pB 204 C Aq,pB 227 z (An 0)]):=w;refine⟨fun k m=>by rw[show k=s from m];exact(w.blk 0 rfl).trans (g.blk 0 rfl).symm,?_⟩;(conv=>whnf);refine⟨?_,?_⟩
    ·refine Aj.mk (Em (IM hE M w) (by omega) hi) ?_;rintro _ J2 ⟨ah,hR⟩;obtain rfl:=hX _ hR;have p:=w.call ah;refine⟨fun k m=>by rw[show k=s from m];exact(p.blk 0 rfl).trans (g.blk 0 rfl).symm,?_⟩;(conv=>whnf);refine Aw (AI 0 0) (Ad 0 0) rfl rfl ?_;intro A J3 W Y Z a0;have u:=p.box W Y Z a0;rw[YaC]at u;replace u:E_ B H J3 (sP s t i a n cap os ps++[pB 204 C Aq,pB 227 z (An 0),pB 27 A (Ad 0 0)]):=u;refine⟨fun k m=>by rw[show k=s from m];exact(u.blk 0 rfl).trans (g.blk 0 rfl).symm,?_⟩;(conv=>whnf);refine AD (cs:=An X) u _ rfl (U_ _ _ 1) (J_ _) rfl fun J4 l=>?_;rw[I']at l;have e4:As (An 0) 0 (An X)=An X:=Bq rfl;replace l:E_ B H J4 (sP s t i a n cap os ps++[pB 204 C Aq,pB 227 z (As (An 0) 0 (An X)),pB 27 A (Ad 0 0)]):=l;rw[e4]at l;refine⟨fun k m=>by rw[show k=s from m];exact(l.blk 0 rfl).trans (g.blk 0 rfl).symm,?_⟩;refine AD (cs:=Ad E D) l _ rfl (U_ _ _ 2) (J_ _) rfl fun J5 d=>?_;rw[I']at d;have e5:As (Ad 0 0) 0 (Ad E D)=Ad E D:=Bq rfl;replace d:E_ B H J5 (sP s t i a n cap os ps++[pB 204 C Aq,pB 227 z (An X),pB 27 A (As (Ad 0 0) 0 (Ad E D))]):=d;rw[e5]at d;refine⟨fun k m=>by rw[show k=s from m];exact(d.blk 0 rfl).trans (g.blk 0 rfl).symm,?_⟩;(conv=>whnf);exact⟨rfl,(z,A),rfl,d.subl ((YcZ _).2 (List.Sublist.cons_cons _ (Ydc _))),d.blk _ (U_ _ _ 1),d.blk _ (U_ _ _ 2)⟩
    ·refine Aw (AI 0 0) (Ad 0 0) rfl rfl ?_;intro A J2 S T U V;have p:=w.box S T U V;rw[YaC]at p;replace p:E_ B H J2 (sP s t i a n cap os ps++[pB 204 C Aq,pB 227 z (An 0),pB 27 A (Ad 0 0)]):=p;refine⟨fun k m=>by rw[show k=s from m];exact(p.blk 0 rfl).trans (g.blk 0 rfl).symm,?_⟩;(conv=>whnf);refine Aj.mk (Em (IM hE M p) (by omega) hi) ?_;rintro _ J3 ⟨ai,hR⟩;obtain rfl:=hX _ hR;have u:=p.call ai;refine⟨fun k m=>by rw[show k=s from m];exact(u.blk 0 rfl).trans (g.blk 0 rfl).symm,?_⟩;(conv=>whnf);refine AD (cs:=An X) u _ rfl (U_ _ _ 1) (J_ _) rfl fun J4 l=>?_;rw[I']at l;have e4:As (An 0) 0 (An X)=An X:=Bq rfl;replace l:E_ B H J4 (sP s t i a n cap os ps++[pB 204 C Aq,pB 227 z (As (An 0) 0 (An X)),pB 27 A (Ad 0 0)]):=l;rw[e4]at l;refine⟨fun k m=>by rw[show k=s from m];exact(l.blk 0 rfl).trans (g.blk 0 rfl).symm,?_⟩;refine AD (cs:=Ad E D) l _ rfl (U_ _ _ 2) (J_ _) rfl fun J5 d=>?_;rw[I']at d;have e5:As (Ad 0 0) 0 (Ad E D)=Ad E D:=Bq rfl;replace d:E_ B H J5 (sP s t i a n cap os ps++[pB 204 C Aq,pB 227 z (An X),pB 27 A (As (Ad 0 0) 0 (Ad E D))]):=d;rw[e5]at d;refine⟨fun k m=>by rw[show k=s from m];exact(d.blk 0 rfl).trans (g.blk 0 rfl).symm,?_⟩;(conv=>whnf);exact⟨rfl,(z,A),rfl,d.subl ((YcZ _).2 (List.Sublist.cons_cons _ (Ydc _))),d.blk _ (U_ _ _ 1),d.blk _ (U_ _ _ 2)⟩
   ·refine BV ad (AI 0 0) (Ad 0 0) rfl rfl fun A J1 w=>?_;rw[YaC]at w;replace w:E_ B H J1 (sP s t i a n cap os ps++[pB 204 C Aq,pB 27 A (Ad 0 0)]):=w;refine⟨fun k m=>by rw[show k=s from m];exact(w.blk 0 rfl).trans (g.blk 0 rfl).symm,?_⟩;(conv=>whnf);refine⟨?_,?_⟩
    ·refine Aj.mk (Em (IM hE M w) (by omega) hi) ?_;rintro _ J2 ⟨ah,hR⟩;obtain rfl:=hX _ hR;have p:=w.call ah;refine⟨fun k m=>by rw[show k=s from m];exact(p.blk 0 rfl).trans (g.blk 0 rfl).symm,?_⟩;(conv=>whnf);refine BV p (Bf 0) (An 0) rfl rfl fun z J3 u=>?_;rw[YaC]at u;replace u:E_ B H J3 (sP s t i a n cap os ps++[pB 204 C Aq,pB 27 A (Ad 0 0),pB 227 z (An 0)]):=u;refine⟨fun k m=>by rw[show k=s from m];exact(u.blk 0 rfl).trans (g.blk 0 rfl).symm,?_⟩;(conv=>whnf);refine AD (cs:=An X) u _ rfl (U_ _ _ 2) (J_ _) rfl fun J4 l=>?_;rw[I']at l;have e4:As (An 0) 0 (An X)=An X:=Bq rfl;replace l:E_ B H J4 (sP s t i a n cap os ps++[pB 204 C Aq,pB 27 A (Ad 0 0),pB 227 z (As (An 0) 0 (An X))]):=l;rw[e4]at l;refine⟨fun k m=>by rw[show k=s from m];exact(l.blk 0 rfl).trans (g.blk 0 rfl).symm,?_⟩;refine AD (cs:=Ad E D) l _ rfl (U_ _ _ 1) (J_ _) rfl fun J5 d=>?_;rw[I']at d;have e5:As (Ad 0 0) 0 (Ad E D)=Ad E D:=Bq rfl;replace d:E_ B H J5 (sP s t i a n cap os ps++[pB 204 C Aq,pB 27 A (As (Ad 0 0) 0 (Ad E D)),pB 227 z (An X)]):=d;rw[e5]at d;refine⟨fun k m=>by rw[show k=s from m];exact(d.blk 0 rfl).trans (g.blk 0 rfl).symm,?_⟩;(conv=>whnf);exact⟨rfl,(z,A),rfl,d.subl ((YcZ _).2 (List.Sublist.cons_cons _ (Ydc _))),d.blk _ (U_ _ _ 2),d.blk _ (U_ _ _ 1)⟩
    ·refine BV w (Bf 0) (An 0) rfl rfl fun z J2 p=>?_;rw[YaC]at p;replace p:E_ B H J2 (sP s t i a n cap os ps++[pB 204 C Aq,pB 27 A (Ad 0 0),pB 227 z (An 0)]):=p;refine⟨fun k m=>by rw[show k=s from m];exact(p.blk 0 rfl).trans (g.blk 0 rfl).symm,?_⟩;(conv=>whnf);refine Aj.mk (Em (IM hE M p) (by omega) hi) ?_;rintro _ J3 ⟨ai,hR⟩;obtain rfl:=hX _ hR;have u:=p.call ai;refine⟨fun k m=>by rw[show k=s from m];exact(u.blk 0 rfl).trans (g.blk 0 rfl).symm,?_⟩;(conv=>whnf);refine AD (cs:=An X) u _ rfl (U_ _ _ 2) (J_ _) rfl fun J4 l=>?_;rw[I']at l;have e4:As (An 0) 0 (An X)=An X:=Bq rfl;replace l:E_ B H J4 (sP s t i a n cap os ps++[pB 204 C Aq,pB 27 A (Ad 0 0),pB 227 z (As (An 0) 0 (An X))]):=l;rw[e4]at l;refine⟨fun k m=>by rw[show k=s from m];exact(l.blk 0 rfl).trans (g.blk 0 rfl).symm,?_⟩;refine AD (cs:=Ad E D) l _ rfl (U_ _ _ 1) (J_ _) rfl fun J5 d=>?_;rw[I']at d;have e5:As (Ad 0 0) 0 (Ad E D)=Ad E D:=Bq rfl;replace d:E_ B H J5 (sP s t i a n cap os ps++[pB 204 C Aq,pB 27 A (As (Ad 0 0) 0 (Ad E D)),pB 227 z (An X)]):=d;rw[e5]at d;refine⟨fun k m=>by rw[show k=s from m];exact(d.blk 0 rfl).trans (g.blk 0 rfl).symm,?_⟩;(conv=>whnf);exact⟨rfl,(z,A),rfl,d.subl ((YcZ _).2 (List.Sublist.cons_cons _ (Ydc _))),d.blk _ (U_ _ _ 2),d.blk _ (U_ _ _ 1)⟩
  ·rintro⟨z,A⟩ G c7 ⟨aj,a8,b7⟩;refine Ao.run ?_;refine L_ (cs:=Ad E D) (b7.cells (fun j v R=>by rw[P_];exact R)) trivial ?_;refine Ah underlying27 rfl _ rfl (Ad 0 0) rfl (GP (by omega) (by omega) (by decide) (by decide) ?_);rcases hj with⟨hr,rfl⟩ | ⟨hr,rfl,rfl⟩
   ·rw[m_];refine L_ (cs:=Ad 10 D) (b7.cells (fun j v R=>by rw[P_];exact R)) trivial ?_;(conv=>whnf);exact⟨10,D,E1 hi (SS ak O hr),rfl,aj.old⟩
   ·have b8:=MN hr;rw[g_ ⟨rfl,rfl⟩];refine F_ ?_;refine Nf aj 0 rfl (by simp) rfl fun G2 a5 c3 co=>?_;replace a5:E_ B H G2 (sP s t j a n cap os ps++[pB 204 C Aq]):=a5;have b9:=a8.agr c3 (a8.ne (aj.blk 0 rfl) (by decide));refine L_ (cs:=An X) (Ea b9) trivial (Ah underlying230 rfl _ rfl (An X) rfl (Ab.of (Aj.mk (Pf (r:=.cls X) a5 rfl) ?_)));rintro _ G3 ⟨B1,f1,rfl,s1,a3,c4,gs⟩;obtain⟨g1,c1,rfl⟩:=gs.fn;refine AX (cs:=Ac (.cls X) (.func (.func g1) #[] c1)) c4 _ rfl (U_ _ _ 0) (by simp[Ac,Aq]) rfl fun G4 a6 cp cq=>?_;rw[I',Cm rfl]at a6;refine lN (cs:=Ac (.cls X) (.func (.func g1) #[] c1)) (Ax (a6.blk _ (U_ _ _ 0))) ?_;exact⟨j,.cls X,b8.1,b8.2,Ed hi (VI ak O hr),B1,_,rfl,s1,(a5.old.trans (a3.mono fun k m=>a5.up m)).trans fun k m=>a6.old k (s1 k m),⟨a,n,cap,a6.lft.rebase⟩,gs.frame a6.old fun k m=>m⟩
section
variable{σ:Type}{B:Nat→Prop}{H0:Aa}{P:σ→List Pc}{sub:ReM→σ→σ×Except Int O_}{E:Nat}{f:FuncId}{first cap:Array v_}
end
section
attribute [local irreducible] AN Bb AY EA
end
section
attribute [local irreducible] AN Bb AY
section
variable{o:Option AM}{n q j:Nat}
end
end
section
attribute [local irreducible] AN Bb AY EA
section
variable{d:PA}{reps:List Nat}{q j t:Nat}
end
section
variable{d:PA}{cells:List (BitVec 256)}{reps:List Nat}{q k t:Nat}
end
def pA(lo hi:Nat)(v:v_)(o:Option AM):Pc:=⟨fun k=>lo≤k∧k<hi,fun H=>Bc (fun k=>lo≤k∧k<hi) H v o,fun h hp=>hp.frame h⟩
section
variable{H0 H:Aa}{ps:List Pc}{mb:Nat}{b:Int}
end
end
end Go.Proofs.YtdopnglgekglgaaGreatDoor
