import Derived.Test.YtfbghcpdinlmcaaGreatDoorKMb1
import Derived.Sort.OwnSortedInts
import Derived.Shelf.Sort.Plain
import Derived.Shelf.Slices.In.SortNone
import Derived.TacticsIn
import Derived.RangeFuncRecord
import Derived.Shelf.Small.Strs
import Derived.Shelf.LaysM
import Derived.Recover
set_option maxHeartbeats 0
open Array renaming replicate → AiJ, map → AkO
open List renaming replicate → Ai1
set_option maxRecDepth 100000
open Go.Proofs.Tryz
open Go renaming Value → v_, TypeId → x_, Program → w_, Operand → z_, World → y_
namespace Go.Proofs.YtfbghcpdinlmcaaGreatDoor
open Go.VC
def edL(e:Y'):List v_:=[A_ e.fr,A_ e.to,.bool e.sil,.int .u64 (wd e.set 0),.int .u64 (wd e.set 1),.int .u64 (wd e.set 2),.int .u64 (wd e.set 3)]
theorem VK(e:Y'):∀(j:Nat) (v:v_),(Ad e.set)[j]?=some v→(edL e)[3+j]?=some v:=by
 intro j v h;rw[show 3+j=j+3 by omega];exact h
def Y'.Ok(e:Y'):Prop:=J' .i64 e.fr∧J' .i64 e.to
def tEd:Ty Y' where
 size:=7
 rep _ _ cs e:=cs=edL e∧e.Ok
 len h:=by rw[h.1];rfl
 frame h _:=h
 mono h _:=h
theorem JL(e:Y'):(edL e).all (·.oneCell')=true:=rfl
def N_.Rng(a:N_):Prop:=J' .i64 a.st∧J' .i64 a.start∧J' .i64 a.fin
def nfL(a:N_)(v:v_):List v_:=[A_ a.st,A_ a.start,A_ a.fin,v]
def NfV(S:Nat→Prop)(H:Aa)(v:v_)(a:N_):Prop:=a.Rng∧a.edges.length≤33554432∧∃ea ec,v= .agg (nfL a (.slice ea a.edges.length ec)).toArray∧g_ tEd S H ea ec a.edges
section
variable{S S':Nat→Prop}{H H':Aa}{v:v_}{a:N_}
end
theorem Kv:(prog.info? 174).bind (·.zero)=some (.agg #[A_ 0,A_ 0,.bool false,.int .u64 0,.int .u64 0,.int .u64 0,.int .u64 0]):=rfl
theorem Ee:(prog.info? 76).bind (·.zero)=some (.agg #[A_ 0,A_ 0,A_ 0,.slice none 0 0]):=rfl
theorem R3{S:Nat→Prop}{H:Aa}{v:v_}{a:N_}{K:v_→Aa→Prop}{t:x_}(h:NfV S H v a)
  (k:∀c d,v= .agg (nfL a (.slice c a.edges.length d)).toArray→g_ tEd S H c d a.edges→New H (fun b H'=>K (U_ b) H') t (nfL a (.slice c a.edges.length d))):BH prog (Instr.box t v) H K:=by
 obtain⟨f,g,c,d,rfl,e⟩:=h;exact Ct (nfL a (.slice c a.edges.length d)) rfl (k c d rfl e)
theorem JS{S S0:Nat→Prop}{H:Aa}{a:N_}{pb:Nat}{b:Option Addr}{ec:Nat}{K:v_→Prop}{t:x_}(d:a.Rng)(e:a.edges.length≤33554432)(f:Q_ H pb t (nfL a (.slice b a.edges.length ec)))(c:Hb prog t 4)(g:S0 pb)(h:g_ tEd S H b ec a.edges)
  (k:∀v,NfV S H v a→K v):AJ prog (Instr.loadAt t (U_ pb)) S0 H K:=
 L_ (cs:=nfL a (.slice b a.edges.length ec)) c (f.cells fun j v i=>by rw[K_];exact i) g (k _ ⟨d,e,b,ec,rfl,h⟩)
theorem Wl{S:Nat→Prop}{H:Aa}{v:v_}{a:N_}{q:Int}(h:NfV S H v a):BM prog 196 #[v,A_ q] H (.bool (a.has q)):=by
 refine Ak.of_vc func196 rfl (call196 _) (R3 h fun l m j n=>?_);subst j;intro p H1 k e b f;have st1:=(St.nil H).box k e b f;by_cases g:0≤q
 ·have c:decide (0≤q)=true:=n_ g;(conv=>whnf);rw[c];refine fa E8 ?_;refine G_ (v:=A_ a.st) E_ (by rw[b.cell];rfl) trivial ?_;by_cases i:q<a.st
  ·have d:decide (q<a.st)=true:=n_ i;(conv=>whnf);rw[d];refine fa E8 ?_;refine G_ (v:=A_ a.st) E_ (by rw[b.cell];rfl) trivial ?_;(conv=>whnf);exact⟨by unfold N_.has;rw[c,d];rfl,st1.old⟩
  ·have d:decide (q<a.st)=false:=j_ i;(conv=>whnf);rw[d];(conv=>whnf);exact⟨by unfold N_.has;rw[c,d];rfl,st1.old⟩
 ·have c:decide (0≤q)=false:=j_ g;(conv=>whnf);rw[c];(conv=>whnf);exact⟨by unfold N_.has;rw[c];rfl,st1.old⟩
inductive ReM
 | eps
 | cls (s:BitVec 256)
 | cat (a b:ReM)
 | alt (a b:ReM)
 | star (a:ReM)
 | and_ (a b:ReM)
 | minus (a b:ReM)
def Ao:ReM→v_
 | .eps=>.iface 98 (.agg #[])
 | .cls s=>.iface 104 (Bt s)
 | .cat a b=>.iface 105 (.agg #[Ao a,Ao b])
 | .alt a b=>.iface 305 (.agg #[Ao a,Ao b])
 | .star a=>.iface 310 (.agg #[Ao a])
 | .and_ a b=>.iface 64 (.agg #[Ao a,Ao b])
 | .minus a b=>.iface 65 (.agg #[Ao a,Ao b])
theorem Jl(r:ReM):∃T v,Ao r= .iface T v:=by cases r<;>exact⟨_,_,rfl⟩
theorem Gd(r:ReM):(Ao r).oneCell'=true:=by cases r<;>rfl
def ReM.nodes:ReM→Nat
 | .eps=>1
 | .cls _=>1
 | .cat a b=>1+a.nodes+b.nodes
 | .alt a b=>1+a.nodes+b.nodes
 | .star a=>1+a.nodes
 | .and_ a b=>1+a.nodes+b.nodes
 | .minus a b=>1+a.nodes+b.nodes
def ReM.plain:ReM→Bool
 | .eps=>true
 | .cls _=>true
 | .cat a b=>a.plain&&b.plain
 | .alt a b=>a.plain&&b.plain
 | .star a=>a.plain
 | .and_ _ _=>false
 | .minus _ _=>false
end Go.Proofs.YtfbghcpdinlmcaaGreatDoor
namespace Go.VC
section
variable{P:w_}{t:x_}{x y:z_}{S:Nat→Prop}{H:Aa}{K:v_→Prop}{T A:x_}{v z:v_}{d:TypeDesc}
theorem FZ(a:P.underlying A=some d)(b:∀c,d≠ .interface c)(k:K (.tuple #[v,.bool true])):AJ P (Instr.typeAssert (.iface A v) t A true) S H K:=by
 refine AJ.mk _ (fun w _=>?_) k;unfold Instr.typeAssert;simp only[Sem.run_bind,run_underlying a,Result.andThen_ok];cases d<;>first | (exact absurd rfl (b _)) | simp
theorem CC(g:P.underlying A=some d)(h:∀j,d≠ .interface j)(a:(P.info? A).bind (·.zero)=some z)(b:T≠A)(k:K (.tuple #[z,.bool false])):AJ P (Instr.typeAssert (.iface T v) t A true) S H K:=by
 refine AJ.mk _ (fun w _=>?_) k;have c:(zeroValue A).run P w= .ok z w:=by
  cases e:P.info? A with
  | none=>rw[e]at a;cases a
  | some i=>
    have f:i.zero=some z:=by simpa [e]using a
    simp[zeroValue,typeInfo,e,f]
 unfold Instr.typeAssert;simp only[Sem.run_bind,run_underlying g,Result.andThen_ok];cases d<;>first | (exact absurd rfl (h _)) | simp[b,c]
theorem Iy(f:P.underlying A=some d)(g:∀h,d≠ .interface h)(a:(P.info? A).bind (·.zero)=some z)(k:K (.tuple #[z,.bool false])):AJ P (Instr.typeAssert .nilIface t A true) S H K:=by
 refine AJ.mk _ (fun w _=>?_) k;have b:(zeroValue A).run P w= .ok z w:=by
  cases c:P.info? A with
  | none=>rw[c]at a;cases a
  | some i=>
    have e:i.zero=some z:=by simpa [c]using a
    simp[zeroValue,typeInfo,c,e]
 unfold Instr.typeAssert;simp only[Sem.run_bind,run_underlying f,Result.andThen_ok];cases d<;>first | (exact absurd rfl (g _)) | simp[b]
section
variable{a:Array (String×x_)}
theorem OJ(h:P.underlying t=some (.interface a))(w:y_):(Op.equal t (.iface T v) .nilIface).run P w= .ok false w:=by
 have:∀d:Nat,(Op.equalIn (d+1) t (.iface T v) .nilIface).run P w= .ok false w:=fun d=>by
  simp[Op.equalIn,run_underlying h]
 exact this 9999
theorem T3(h:P.underlying t=some (.interface a))(w:y_):(Op.equal t .nilIface .nilIface).run P w= .ok true w:=by
 have:∀d:Nat,(Op.equalIn (d+1) t .nilIface .nilIface).run P w= .ok true w:=fun d=>by
  simp[Op.equalIn,run_underlying h]
 exact this 9999
theorem ifeq(h:P.underlying t=some (.interface a))(k:K (.bool false)):AJ P (do eqGuard .eql t x y (.iface T v) .nilIface;binOp .eql t (.iface T v) .nilIface) S H K:=by
 refine AJ.mk _ (fun w _=>?_) k;simp[eqGuard,binOp,OJ h]
theorem Wn(h:P.underlying t=some (.interface a))(k:K (.bool true)):AJ P (do eqGuard .neq t x y (.iface T v) .nilIface;binOp .neq t (.iface T v) .nilIface) S H K:=by
 refine AJ.mk _ (fun w _=>?_) k;simp[eqGuard,binOp,OJ h]
theorem Rm{c:v_}(h:P.underlying t=some (.interface a))(k:K (.bool false)):AJ P (do eqGuard .neq t x (.const c) .nilIface .nilIface;binOp .neq t .nilIface .nilIface) S H K:=by
 refine AJ.mk _ (fun w _=>?_) k;simp[eqGuard,binOp,T3 h]
end
end
end Go.VC
namespace Go.Proofs.YtfbghcpdinlmcaaGreatDoor
open Go.VC
theorem UK(x:v_)(w:y_):(callMethod (.iface 98 x) "Size" #[]).run prog w= .ok (.enter 271 #[x]) w:=by kernel_rfl
theorem UJ(x:v_)(w:y_):(callMethod (.iface 104 x) "Size" #[]).run prog w= .ok (.enter 273 #[x]) w:=by kernel_rfl
theorem UI(x:v_)(w:y_):(callMethod (.iface 105 x) "Size" #[]).run prog w= .ok (.enter 275 #[x]) w:=by kernel_rfl
theorem UG(x:v_)(w:y_):(callMethod (.iface 305 x) "Size" #[]).run prog w= .ok (.enter 278 #[x]) w:=by kernel_rfl
theorem Ta(x:v_)(w:y_):(callMethod (.iface 310 x) "Size" #[]).run prog w= .ok (.enter 280 #[x]) w:=by kernel_rfl
theorem UH(x:v_)(w:y_):(callMethod (.iface 64 x) "Size" #[]).run prog w= .ok (.enter 266 #[x]) w:=by kernel_rfl
theorem Rw(x:v_)(w:y_):(callMethod (.iface 65 x) "Size" #[]).run prog w= .ok (.enter 269 #[x]) w:=by kernel_rfl
end Go.Proofs.YtfbghcpdinlmcaaGreatDoor
namespace Go.VC
open Go.Sort
structure Y1(P:w_)(f:FuncId):Prop where
 call:∀(args:Array v_) (w:y_),(callFunc f args).run P w= .ok (.enter f args) w
 some_:∀(blk off cap:Nat) (zs:List Int) (w:y_),Holds (Value.int .i64) w blk off zs.toArray→blk<w.heap.size→zs.length<4611686018427387904→
  Calls P f #[.slice (some ⟨blk,off,none⟩) zs.length cap] w fun e w'=>e= .returned (.tuple #[])∧∃n os,w'=grow (putRow (Value.int .i64) (Sort.ahead w n) blk off (zs.mergeSort fun x y=>decide (x≤y)).toArray) os
 none_:∀(p:Option Addr) (cap:Nat) (w:y_),Calls P f #[.slice p 0 cap] w fun e w'=>e= .returned (.tuple #[])∧w'=w
theorem Qi{S:Nat→Prop}{H:Aa}:∀{xs:List Int} {cs:List v_},(GB .i64).reps S H cs xs→cs=xs.map (Value.int .i64)∧∀x∈xs,J' .i64 x
 | [],_,h=>by cases h;exact⟨rfl,fun x b=>by cases b⟩
 | x::xs,_,h=>by
   obtain⟨c,r,rfl,⟨rfl,d⟩,e⟩:=h;obtain⟨rfl,f⟩:=Qi e;refine⟨rfl,fun y a=>?_⟩;rcases YaP.1 a with rfl | a
   ·exact d
   ·exact f y a
theorem PH{S:Nat→Prop}{H:Aa}:∀{xs:List Int},(∀x∈xs,J' .i64 x)→(GB .i64).reps S H (xs.map (Value.int .i64)) xs
 | [],_=>rfl
 | x::xs,h=>⟨[A_ x],xs.map (Value.int .i64),rfl,⟨rfl,h x (by simp)⟩,PH fun y a=>h y (by simp[a])⟩
theorem AjB{P:w_}{f:FuncId}{B:Nat→Prop}{H0 H:Aa}{ps:List Pc}{e:x_}{a:Option Addr}{n cap:Nat}{xs:List Int}{K:v_→Aa→Prop}(A:Y1 P f)(st:B_ B H0 H ps)(i:Nat)(p:ps[i]?=some (pS (GB .i64) e a n cap xs))(q:xs.length<4611686018427387904)
  (k:∀H',B_ B H0 H' (ps.set i (pS (GB .i64) e a n cap (xs.mergeSort fun x y=>decide (x≤y))))→K (.tuple #[]) H'):Ae P f #[.slice a n cap] H K:=by
 obtain⟨r,-⟩:=st.at_ i p;obtain⟨S,⟨M,d⟩,h⟩:=r;obtain⟨rfl,s⟩:=Qi h;refine⟨fun w N=>⟨A.call _ w,?_⟩⟩;subst N;rcases d with⟨C,D⟩ | ⟨b,c,l,C,-,E,F,G,m,t⟩
 ·injection C with e1 e2 e3
  subst e1;subst e2;subst e3;obtain rfl:=List.eq_nil_of_length_eq_zero D;refine(A.none_ none 0 w).mono ?_;rintro _ _ ⟨rfl,rfl⟩;exact⟨_,rfl,d_.refl _,k _ (by rw[show([]:List Int).mergeSort (fun x y=>decide (x≤y))=[] by simp];exact st.say i p _ (st.at_ i p) (fun k o=>o))⟩
 ·injection C with e1 e2 e3
  subst e1;subst e2;subst e3;rw[show xs.length*(GB .i64).size=xs.length from L' _]at t;rw[show cap*(GB .i64).size=cap from L' _]at m;have I:=(Yaa.1 E).1;have u:(xs.mergeSort fun x y=>decide (x≤y)).length=xs.length:=List.length_mergeSort _;have O:Holds (Value.int .i64) w b 0 xs.toArray:=holds_of_blockI (e:=e) (cur:=l.toArray) E (by simpa using t);refine(A.some_ b 0 cap xs w O I q).mono ?_;rintro _ T ⟨rfl,n,os,rfl⟩;have J:=heap_sortedI (n:=n) (os:=os) (xs.mergeSort fun x y=>decide (x≤y)).toArray E;obtain⟨-,-,-,v,z⟩:=grownBy_sortedI (w:=w) (g:=b) (n:=n) (os:=os) (xs.mergeSort fun x y=>decide (x≤y)).toArray;refine⟨_,rfl,⟨rfl,rfl,rfl⟩,k _ (st.upd i p (fun j L=>z j L.1 fun e=>?_) _ ⟨⟨_,⟨?_,.inr ⟨b,cap,(putCells (Value.int .i64) 0 (xs.mergeSort fun x y=>decide (x≤y)).toArray l.toArray).toList,?_,Nat.zero_le _,?_,by omega,G,?_,?_⟩⟩,PH fun x Q=>s x (List.mem_mergeSort.1 Q)⟩,fun k o=>o.elim⟩ (fun k o=>.inl o) (fun k o=>?_) v)⟩
  ·cases e;exact L.2 (.inl ⟨0,_,_,rfl⟩)
  ·rw[List.length_map];exact(L' _).symm
  ·rw[u]
  ·show _=_;rw[J]
  ·rw[Array.length_toList];unfold putCells;rw[Array.size_mapIdx];simp only[YbW,m];exact(L' _).symm
  ·rw[show(xs.mergeSort fun x y=>decide (x≤y)).length*(GB .i64).size=(xs.mergeSort fun x y=>decide (x≤y)).length from L' _];exact take_putCellsI l.toArray _ (by rw[u];simpa [m]using F)
  ·have R:=(st.in_ i p o).2;exact Ybu R v
end Go.VC
namespace Go.Proofs.YtfbghcpdinlmcaaGreatDoor
open Go.VC
def AaT:Go.Shelf.Ren:=⟨fun | 189=>140 | 125=>181 | 257=>180 | 128=>206 | 129=>207 | 294=>197 | 295=>198 | 296=>199 | 297=>200 | 298=>201 | 299=>202 | 216=>203 | 300=>204 | 301=>205 | 328=>219 | 329=>220 | 330=>221 | 331=>222 | 332=>223 | 215=>224 | 343=>235 | n=>n,fun | 28=>41 | 3=>3 | 46=>218 | 0=>0 | 51=>332 | 53=>99 | 4=>4 | 183=>325 | 182=>324 | 131=>260 | 5=>5 | 9=>9 | 218=>344 | 222=>348 | 228=>359 | 229=>247 | n=>n,fun | n=>n⟩
theorem Ws:Go.Proofs.Lays.n189 prog AaT:={
 mixed:=by kernel_rfl
 f125:=func181.trans (congrArg some (by kernel_rfl))
 f128:=func206.trans (congrArg some (by kernel_rfl))
 f129:=func207.trans (congrArg some (by kernel_rfl))
 f189:=func140.trans (congrArg some (by kernel_rfl))
 f215:=func224.trans (congrArg some (by kernel_rfl))
 f216:=func203.trans (congrArg some (by kernel_rfl))
 f257:=func180.trans (congrArg some (by kernel_rfl))
 f294:=func197.trans (congrArg some (by kernel_rfl))
 f295:=func198.trans (congrArg some (by kernel_rfl))
 f296:=func199.trans (congrArg some (by kernel_rfl))
 f297:=func200.trans (congrArg some (by kernel_rfl))
 f298:=func201.trans (congrArg some (by kernel_rfl))
 f299:=func202.trans (congrArg some (by kernel_rfl))
 f300:=func204.trans (congrArg some (by kernel_rfl))
 f301:=func205.trans (congrArg some (by kernel_rfl))
 f328:=func219.trans (congrArg some (by kernel_rfl))
 f329:=func220.trans (congrArg some (by kernel_rfl))
 f330:=func221.trans (congrArg some (by kernel_rfl))
 f331:=func222.trans (congrArg some (by kernel_rfl))
 f332:=func223.trans (congrArg some (by kernel_rfl))
 f343:=func235.trans (congrArg some (by kernel_rfl))
 t0:=underlying0
 a0:=isAgg0
 z0:=sizeOf0
 v0:=zeroValue0
 t3:=underlying3
 a3:=isAgg3
 z3:=sizeOf3
 v3:=zeroValue3
 t4:=underlying4
 a4:=isAgg4
 z4:=sizeOf4
 v4:=zeroValue4
 t5:=underlying5
 a5:=isAgg5
 z5:=sizeOf5
 v5:=zeroValue5
 t9:=underlying9
 a9:=isAgg9
 z9:=sizeOf9
 v9:=zeroValue9
 t28:=underlying41
 a28:=isAgg41
 z28:=sizeOf41
 v28:=zeroValue41
 t46:=underlying218
 a46:=isAgg218
 z46:=sizeOf218
 v46:=zeroValue218
 t51:=underlying332
 a51:=isAgg332
 z51:=sizeOf332
 v51:=zeroValue332
 t53:=underlying99
 a53:=isAgg99
 z53:=sizeOf99
 v53:=zeroValue99
 t131:=underlying260
 a131:=isAgg260
 z131:=sizeOf260
 v131:=zeroValue260
 t182:=underlying324
 a182:=isAgg324
 z182:=sizeOf324
 v182:=zeroValue324
 t183:=underlying325
 a183:=isAgg325
 z183:=sizeOf325
 v183:=zeroValue325
 t218:=underlying344
 a218:=isAgg344
 z218:=sizeOf344
 v218:=zeroValue344
 t222:=underlying348
 a222:=isAgg348
 z222:=sizeOf348
 v222:=zeroValue348
 t228:=underlying359
 a228:=isAgg359
 z228:=sizeOf359
 v228:=zeroValue359
 t229:=underlying247
 a229:=isAgg247
 z229:=sizeOf247
 v229:=zeroValue247}
theorem AhE:Y1 prog 140 where
 call:=call140
 some_:=fun blk b cap d w e a c=>Any.slices_Sort_int Ws blk b cap d w e a c
 none_:=fun p cap w=>Any.slices_Sort_int_none Ws p cap w
end Go.Proofs.YtfbghcpdinlmcaaGreatDoor
namespace Go.VC
def FW(ro:Option Nat):Fence:={Fence.wide with round:=ro}
def AiT(ds:List Nat):List Deferred:=ds.map fun D=>{target:=.collected D,args:= #[]}
structure AtD(ds:List Nat)(fr:Fr)(a:Act):Prop where
 tmps:a.tmps.toList=fr
 defers:a.defers=AiT ds
structure Ag1(P:w_)(l:Nat)(args:Array v_)(H:Aa)(K:v_→Aa→Prop):Prop where
 in_::
 out_:∀w:y_,w.heap=H→∃f tmps assign body,(Instr.yield l args).run P w= .ok (.round l f tmps assign body) w∧RoundIn (FW none) 0 P l f tmps assign body w fun e w'=>∃v,e= .returned v∧d_ w w'∧K v w'.heap
def yK(P:w_)(o:Oper)(fr:Fr)(H:Aa)(K:v_→Aa→Prop):Prop:=
 match o.op with
 | .call {callee:=.value f,args, .. }=>O' fr f fun g=>match g with
   | .func (.yield l) first cap=>HU fr args.toList fun vs=>Ag1 P l (first.toList++vs).toArray H K
   | _=>opK P false (fun _=>True) o fr H K
 | .defer _=>False
 | _=>opK P false (fun _=>True) o fr H K
def AjJ(P:w_)(o:Oper)(want:Bool)(t:Nat)(fr:Fr)(H:Aa)(K:Fr→Aa→Prop):Prop:=
 rdK fr t fun v=>match v with
  | .bool b=>AG b
    (wrK fr t (.bool true) fun fr1=>match want with
     | true=>yK P o fr1 H fun v H'=>Db o.dst fr1 v fun fr'=>apK K fr' H'
     | false=>Db o.dst fr1 undef fun fr'=>apK K fr' H)
    (wrK fr t (.bool false) fun fr1=>match want with
     | false=>yK P o fr1 H fun v H'=>Db o.dst fr1 v fun fr'=>apK K fr' H'
     | true=>Db o.dst fr1 undef fun fr'=>apK K fr' H)
  | .tuple _=>Db o.dst fr undef fun fr'=>apK K fr' H
  | _=>False
abbrev KD:=Fr→List Nat→Aa→Prop
def AeT(w0:y_)(Q:Exit→Fr→List Nat→Aa→Prop):Exit→Act→y_→Prop
 | .panic _,_,_=>False
 | .outgrown,_,_=>False
 | e,a,w=>∃fr ds,AtD ds fr a∧d_ w0 w∧Q e fr ds w.heap
def Zm(X:List (Nat×KD))(id:Nat)(fr:Fr)(ds:List Nat)(H:Aa):Prop:=
 match X with
 | []=>False
 | (j,k)::X=>match Nat.beq j id with
   | true=>k fr ds H
   | false=>Zm X id fr ds H
def QxD(kn:KD)(X:List (Nat×KD))(kr:KD)(e:Exit)(fr:Fr)(ds:List Nat)(H:Aa):Prop:=
 match e with
 | .normal=>kn fr ds H
 | .exit id=>Zm X id fr ds H
 | .ret=>kr fr ds H
 | _=>False
structure VLoopD(P:w_)(ro:Option Nat)(c:Code)(fr:Fr)(ds:List Nat)(H:Aa)(X:List (Nat×KD))(kr:KD):Prop where
 in_::
 out_:∀(n:Nat) (a:Act) (w:y_),AtD ds fr a→w.heap=H→(Code.loop c).wpIn (FW ro) n P (AeT w (QxD (fun _ _ _=>False) X kr)) a w
structure VRF(P:w_)(g:z_)(ps:Array Tmp)(assign body:Code)(fr:Fr)(ds:List Nat)(H:Aa)(kn:KD)(X:List (Nat×KD))(kr:KD):Prop where
 in_::
 out_:∀(n:Nat) (a:Act) (w:y_),AtD ds fr a→w.heap=H→(Code.rangeFunc g ps assign body).wpIn (FW none) n P (AeT w (QxD kn X kr)) a w
section
variable(P:w_)(ro:Option Nat)(a b:Code)(fr:Fr)(ds:List Nat)(H:Aa)(kn:KD)(X:List (Nat×KD))(kr:KD)
end
structure VRet(P:w_)(rs:List ResultVar)(R:v_→Aa→Prop)(fr:Fr)(ds:List Nat)(H:Aa):Prop where
 in_::
 nd:ds.Nodup
 open_:∀D∈ds,H[D]?=some (.deferred (some []))
 res:∀H',C_ (fun k=>k∉ds) H H'→H'.size=H.size→Pn P rs fr H' R
section
variable{B:Nat→Prop}{H0 H:Aa}{ps qs:List Pc}{p:Pc}
theorem B_.perm(st:B_ B H0 H ps)(h:ps.Perm qs):B_ B H0 H qs:=
 ⟨st.old,st.lt0,st.size,fun p a=>st.oks p (h.mem_iff.2 a),fun p a=>st.rng p (h.mem_iff.2 a),(h.pairwise_iff fun{x y} b k d c=>b k c d).1 st.dis⟩
theorem B_.sub(st:B_ B H0 H ps)(h:qs.Sublist ps):B_ B H0 H qs:=
 ⟨st.old,st.lt0,st.size,fun p a=>st.oks p (h.subset a),fun p a=>st.rng p (h.subset a),st.dis.sublist h⟩
end
section
variable{α:Type}{T:Ty α}{e:x_}{a:Option Addr}{n cap:Nat}{xs:List α}{B:Nat→Prop}{H0 H:Aa}{p1 p2:Pc}{rest:List Pc}
end
section
variable{B:Nat→Prop}{H0 H:Aa}{ps rest:List Pc}
theorem B_.pickN(st:B_ B H0 H ps)(n:Nat)(is:List Nat)(d:is.Nodup):B_ B H0 H ((is.filterMap fun i=>(ps.take n)[i]?)++ps.drop n):=by
 have e:=List.take_append_drop n ps;rw[←e]at st;generalize ps.take n=qs at*;generalize ps.drop n=m at*;have⟨o,f,g⟩:=YbX.1 st.dis;have st1:B_ B H0 H qs:=st.sub (List.sublist_append_left _ _);have b:=st1.pick is d;have h:∀q,q∈is.filterMap (fun i=>qs[i]?)→q∈qs:=fun q a=>by
  obtain⟨i,-,j⟩:=List.mem_filterMap.1 a;exact c_ j
 refine⟨st.old,st.lt0,st.size,fun q a=>?_,fun q a k c=>?_,YbX.2 ⟨b.dis,f,fun q a r l=>g q (h q a) r l⟩⟩
 ·rcases q_.1 a with a | a
  ·exact b.oks q a
  ·exact st.oks q (q_.2 (.inr a))
 ·rcases q_.1 a with a | a
  ·exact b.rng q a k c
  ·exact st.rng q (q_.2 (.inr a)) k c
end
end Go.VC
namespace Go.Proofs.YtfbghcpdinlmcaaGreatDoor
open Go.VC
abbrev kI:Int→v_:=Value.int .i64
theorem Of:II prog 3 (I8 (α:=Int)) kI:=II.ofE underlying3 (keyI .i64)
theorem Ol:I4 prog 251 3 3 (.int .i64 0):=⟨rfl,rfl⟩
abbrev Dom(mm:Int→Option v_):Int→Prop:=fun q=>(mm q).isSome=true
abbrev u_:Ty Int:=GB .i64
theorem KB:∀(n:Nat) (l:List Int),l.Nodup→(∀x∈l,0≤x∧x<(n:Int))→l.length≤n
 | 0,l,_,h=>by
   cases l with
   | nil=>exact I_ _
   | cons x l=>have:=h x Yca;omega
 | n+1,l,hd,h=>by
   have c:=KB n (l.filter fun x=>decide (x<(n:Int))) (hd.filter _) (fun x a=>by
    have⟨c,d⟩:=List.mem_filter.1 a;exact⟨(h x c).1,by simpa using d⟩)
   have d:l.length≤(l.filter fun x=>decide (x<(n:Int))).length+1:=by
    clear c
    induction l with
    | nil=>simp
    | cons x l f=>
      rw[List.nodup_cons]at hd;by_cases a:x<(n:Int)
      ·rw[YbT (by simpa using a)];have:=f hd.2 (fun y b=>h y (YbY _ b));simp only[b_];omega
      ·rw[YbU (by simpa using a)];have g:x=(n:Int):=by have:=h x Yca;omega
       have:l.filter (fun x=>decide (x<(n:Int)))=l:=List.filter_eq_self.2 fun y b=>by
        have i:=h y (YbY _ b);have:y≠x:=fun e=>hd.1 (e ▸ b);rw[Zzj];omega
       rw[this];simp
   omega
theorem FQ{x:Int}(h:0≤x∧x<65536):J' .i64 x:=⟨by simp[IntKind.min,IntKind.signed,IntKind.bits];omega,by simp[IntKind.max,IntKind.signed,IntKind.bits];omega⟩
theorem Vk{d:List Int}(h:d.Nodup):(d.mergeSort fun x y=>decide (x≤y)).Pairwise (·<·):=by
 have e:(d.mergeSort fun x y=>decide (x≤y)).Pairwise (·≤·):=(List.pairwise_mergeSort (fun a b c e f=>by simp only[Zzj]at*;omega) (fun a b=>by simp only[Yay,Zzj];omega) _).imp fun h=>of_decide_eq_true h;have f:(d.mergeSort fun x y=>decide (x≤y)).Nodup:=(List.mergeSort_perm _ _).nodup_iff.2 h;exact(e.and f).imp fun⟨g,i⟩=>by omega
def i_:ReM→Nat
 | .eps=>2
 | .cls _=>2
 | .cat a b=>i_ a+i_ b
 | .alt a b=>i_ a+i_ b+2
 | .star a=>i_ a+2
 | .and_ _ _=>0
 | .minus _ _=>0
def AW(p q:Nat):Y':=⟨p,q,true,0#256⟩
def D2(p q:Nat)(s:BitVec 256):Y':=⟨p,q,false,s⟩
def Bc:ReM→Nat→Nat×Nat×List Y'
 | .eps,n=>(n,n+1,[AW n (n+1)])
 | .cls s,n=>(n,n+1,[D2 n (n+1) s])
 | .cat a b,n=>((Bc a n).1,(Bc b (n+i_ a)).2.1,(Bc a n).2.2++(Bc b (n+i_ a)).2.2++[AW (Bc a n).2.1 (Bc b (n+i_ a)).1])
 | .alt a b,n=>(n,n+1+i_ a+i_ b,(Bc a (n+1)).2.2++(Bc b (n+1+i_ a)).2.2++
   [AW n (Bc a (n+1)).1,AW n (Bc b (n+1+i_ a)).1,AW (Bc a (n+1)).2.1 (n+1+i_ a+i_ b),AW (Bc b (n+1+i_ a)).2.1 (n+1+i_ a+i_ b)])
 | .star a,n=>(n,n+1+i_ a,(Bc a (n+1)).2.2++[AW n (Bc a (n+1)).1,AW n (n+1+i_ a),AW (Bc a (n+1)).2.1 (Bc a (n+1)).1,AW (Bc a (n+1)).2.1 (n+1+i_ a)])
 | .and_ _ _,n=>(n,n,[])
 | .minus _ _,n=>(n,n,[])
theorem IS:∀(r:ReM),r.plain=true→∀n,(Bc r n).2.2.length+1≤2*i_ r
 | .eps,_,n=>by simp[Bc,i_]
 | .cls _,_,n=>by simp[Bc,i_]
 | .cat a b,h,n=>by
   simp only[ReM.plain,r_]at h;have c:=IS a h.1 n;have d:=IS b h.2 (n+i_ a);simp only[Bc,i_,J_,b_,m_];omega
 | .alt a b,h,n=>by
   simp only[ReM.plain,r_]at h;have c:=IS a h.1 (n+1);have d:=IS b h.2 (n+1+i_ a);simp only[Bc,i_,J_,b_,m_];omega
 | .star a,h,n=>by
   have c:=IS a h (n+1);simp only[Bc,i_,J_,b_,m_];omega
 | .and_ _ _,h,_=>by cases h
 | .minus _ _,h,_=>by cases h
theorem Ei:∀(r:ReM),r.plain=true→∀n,n≤(Bc r n).1∧(Bc r n).1<n+i_ r∧n≤(Bc r n).2.1∧(Bc r n).2.1<n+i_ r
 | .eps,_,n=>by simp only[Bc,i_];omega
 | .cls _,_,n=>by simp only[Bc,i_];omega
 | .cat a b,h,n=>by
   simp only[ReM.plain,r_]at h;have c:=Ei a h.1 n;have d:=Ei b h.2 (n+i_ a);simp only[Bc,i_];omega
 | .alt a b,h,n=>by simp only[Bc,i_];omega
 | .star a,h,n=>by simp only[Bc,i_];omega
 | .and_ _ _,h,_=>by cases h
 | .minus _ _,h,_=>by cases h
abbrev tBd:x_:=246
section
variable{B:Nat→Prop}{H0 H:Aa}{rest:List Pc}{bb n:Nat}{v sub:v_}
theorem Qp(p q:Nat){S:Nat→Prop}{H:Aa}{K:v_→Prop}(k:K (.agg (edL (AW p q)).toArray)):
  AJ prog (Instr.build 174 [(0,A_ p),(1,A_ q),(2,.bool true)].toArray) S H K:=by
 have e:edL (AW p q)=[A_ p,A_ q,.bool true,.int .u64 0,.int .u64 0,.int .u64 0,.int .u64 0]:=by
  have h:∀i,wd 0#256 i=0:=fun i=>by unfold wd;simp
  simp[edL,AW,h]
 rw[e]at k;exact Ax underlying174 rfl _ Kv _ (by kernel_rfl) k
theorem AaN(x y:Int)(w0 a b c:v_){S:Nat→Prop}{H:Aa}{K:v_→Prop}(h0:w0.oneCell'=true)(d:a.oneCell'=true)(e:b.oneCell'=true)(f:c.oneCell'=true)(k:K (.agg [A_ x,A_ y,.bool false,w0,a,b,c].toArray)):
  AJ prog (Instr.build 174 [(0,A_ x),(1,A_ y),(3,.agg [w0,a,b,c].toArray)].toArray) S H K:=
 Ax underlying174 rfl _ Kv [A_ x,A_ y,.bool false,w0,a,b,c] (by kernel_rfl) k
theorem Qm(p q:Nat)(s:BitVec 256){S:Nat→Prop}{H:Aa}{K:v_→Prop}(k:K (.agg (edL (D2 p q s)).toArray)):
  AJ prog (Instr.build 174 [(0,A_ p),(1,A_ q),(3,.agg (Ad s).toArray)].toArray) S H K:=by
 unfold D2 edL at k;unfold Ad;exact AaN _ _ _ _ _ _ rfl rfl rfl rfl k
end
theorem Ic:(prog.info? 98).bind (·.zero)=some (.agg #[]):=rfl
theorem Ie:(prog.info? 104).bind (·.zero)=some (.agg #[.int .u64 0,.int .u64 0,.int .u64 0,.int .u64 0]):=rfl
theorem JT:(prog.info? 105).bind (·.zero)=some (.agg #[.nilIface,.nilIface]):=rfl
theorem Le:(prog.info? 305).bind (·.zero)=some (.agg #[.nilIface,.nilIface]):=rfl
theorem Nn:(prog.info? 310).bind (·.zero)=some (.agg #[.nilIface]):=rfl
end Go.Proofs.YtfbghcpdinlmcaaGreatDoor
namespace Go.VC
def OX(all:List Oper)(o:Oper)(fr:Fr)(yes no:Fr→Prop):Prop:=
 match o.guard with
 | none=>yes fr
 | some (j,want)=>match(all[j]?).bind (·.dst)with
   | none=>False
   | some t=>rdK fr t fun v=>match v with
     | .bool b=>AG b
       (wrK fr t (.bool true) fun fr1=>match want with
        | true=>yes fr1
        | false=>no fr1)
       (wrK fr t (.bool false) fun fr1=>match want with
        | false=>yes fr1
        | true=>no fr1)
     | .tuple _=>no fr
     | _=>False
theorem JF{all:List Oper}{o:Oper}{fr:Fr}{a:Act}{d no:Fr→Prop}(e:At fr a)(h:OX all o fr d no):
  (Region.wanted o (yielded all.toArray a.tmps)=true∧d fr)∨(Region.wanted o (yielded all.toArray a.tmps)=false∧no fr):=by
 unfold OX at h;split at h
 ·rename_i c;exact .inl ⟨by simp[Region.wanted,c],h⟩
 ·rename_i j f c;split at h
  ·exact h.elim
  ·rename_i t k;rw[DW]at h;split at h
   ·rename_i b g;have i:=I1 e k g;have hs:fr.set t (.bool b)=fr:=Ez g (by simp[undef]);cases b<;>cases f<;>simp only[AG,F8,hs]at h
    ·exact .inl ⟨by simp[Region.wanted,c,i],h⟩
    ·exact .inr ⟨by simp[Region.wanted,c,i],h⟩
    ·exact .inr ⟨by simp[Region.wanted,c,i],h⟩
    ·exact .inl ⟨by simp[Region.wanted,c,i],h⟩
   ·rename_i vs g;exact .inr ⟨by simp[Region.wanted,c,I3 e k g],h⟩
   ·exact h.elim
def M1(o:Oper)(H:Aa)(K:Fr→Aa→Prop)(fr:Fr):Prop:=Db o.dst fr undef fun fr'=>apK K fr' H
def LR(P:w_)(S:Nat→Prop)(o:Oper)(H:Aa)(K:Fr→Aa→Prop)(fr:Fr):Prop:=
 match Mp o&&GJ P o with
 | true=>Ph P S o fr H fun v=>Db o.dst fr v fun fr'=>apK K fr' H
 | false=>False
def doG(P:w_)(S:Nat→Prop)(z:Bool)(H0:Aa)(o:Oper)(H:Aa)(K:Fr→Aa→Prop)(fr:Fr):Prop:=
 match z with
 | true=>opK P false (fun _=>True) o fr H fun v H'=>Db o.dst fr v fun fr'=>apK K fr' H'
 | false=>opK P false (fun _=>True) o fr H fun v H'=>C_ S H0 H'∧Db o.dst fr v fun fr'=>apK K fr' H'
def Jy(P:w_)(S:Nat→Prop)(Z:List Nat)(H0:Aa)(all:List Oper)(i:Nat)(fr:Fr)(H:Aa)(next:Fr→Aa→Prop):Prop:=
 match all[i]? with
 | none=>False
 | some o=>OX all o fr (doG P S (Z.contains i) H0 o H next) (M1 o H next)
def heldG(P:w_)(S:Nat→Prop)(Z:List Nat)(H0:Aa)(all:List Oper)(s:Sch):Fr→Aa→(Fr→Aa→Prop)→Prop:=
 Sch.rec (motive:=fun _=>Fr→Aa→(Fr→Aa→Prop)→Prop) (fun fr H K=>K fr H)
  (fun i _ ih fr H K=>match all[i]? with
   | none=>False
   | some o=>OX all o fr (LR P S o H fun fr' H'=>ih fr' H' K) (M1 o H fun fr' H'=>ih fr' H' K))
  (fun i _ ih fr H K=>Jy P S Z H0 all i fr H fun fr' H'=>ih fr' H' K)
  (fun i _ j _ ih ih' fr H K=>(Jy P S Z H0 all i fr H fun fr' H'=>ih fr' H' K)∧Jy P S Z H0 all j fr H fun fr' H'=>ih' fr' H' K) s
theorem Ad1(P:w_)(S:Nat→Prop)(Z:List Nat)(H0:Aa)(all:List Oper)(i:Nat)(s:Sch)(fr:Fr)(H:Aa)(K:Fr→Aa→Prop):heldG P S Z H0 all (.q i s) fr H K=
  (match all[i]? with
   | none=>False
   | some o=>OX all o fr (LR P S o H fun a H'=>heldG P S Z H0 all s a H' K) (M1 o H fun a H'=>heldG P S Z H0 all s a H' K)):=rfl
theorem CT{P:w_}{S:Nat→Prop}{Z:List Nat}{w0:y_}{all:List Oper}{Q:Exit→Act→y_→Prop}{i:Nat}{fr:Fr}{a:Act}{w:y_}{next:Fr→Aa→Prop}{N:Act→y_→Prop}
  (d:At fr a) (m:d_ w0 w) (n:Z.contains i=false→Cls w0 S w) (h:Jy P S Z w0.heap all i fr w.heap next)
  (p:∀f a' e,At f a'→d_ w0 e→(Z.contains i=false→Cls w0 S e)→next f e.heap→N a' e):wpOp P all.toArray Q i N a w:=by
 unfold Jy at h;split at h
 ·exact h.elim
 ·rename_i o q;have g:all.toArray[i]?=some o:=by simpa using q
  rcases JF d h with⟨b,h⟩ | ⟨b,h⟩
  ·unfold wpOp;rw[g];dsimp only;rw[F_ b];unfold doG at h;split at h
   ·rename_i r;refine .inl (Oper.wp_mono ?_ (D0 d h _));rintro a' e ⟨v,rfl,c,j⟩;rw[Ce]at j;exact p _ _ _ (d.put o.dst v) (m.trans c) (fun k=>by rw[r]at k;cases k) j
   ·refine .inl (Oper.wp_mono ?_ (D0 d h _));rintro a' e ⟨v,rfl,c,l,j⟩;rw[Ce]at j;exact p _ _ _ (d.put o.dst v) (m.trans c) (fun _=>⟨m.trans c,l⟩) j
  ·unfold wpOp;rw[g];dsimp only;rw[D_ (by rw[b];exact Bool.false_ne_true)];unfold M1 at h;rw[Ce]at h;exact p _ _ _ (d.put o.dst undef) m n h
theorem Eu{P:w_}{S:Nat→Prop}{Z:List Nat}{w0:y_}{all:List Oper}{Q:Exit→Act→y_→Prop}(hs:Region.noSelect all.toArray=true)
  (B:∀c a w,¬Q (.panic c) a w):∀(l:Sch) (d:Array Bool) (fr:Fr) (a:Act) (w:y_) (K:Fr→Aa→Prop),At fr a→d_ w0 w→(MI Z l=false→Cls w0 S w)→IM all.toArray d→
  (∀u a' p,At u a'→d_ w0 p→K u p.heap→Q .normal a' p)→CI all.toArray Z l d=true→l.even=true→
  heldG P S Z w0.heap all l fr w.heap K→JG P all.toArray Q (Cls w0 S) Z l.len d a w
 | .e,d,fr,a,w,K,hat,he,_,_,hq,hB,_,h=>⟨by simpa [CI]using hB,hq fr a w hat he h⟩
 | .q i s,d,fr,a,w,K,hat,he,t,hsh,hq,hB,hev,h=>by
   have t:=t rfl;simp only[CI,r_,Yax,Ybl]at hB;obtain⟨⟨⟨⟨C,g⟩,O⟩,R⟩,r⟩:=hB;rw[Ad1]at h;split at h
   ·exact h.elim
   ·rename_i o T;have y:all.toArray[i]?=some o:=by simpa using T
    have z:i∈Region.ready .any all.toArray d:=by simpa using C
    rcases JF hat h with⟨m,h⟩ | ⟨m,h⟩
    ·unfold LR at h;split at h
     ·have⟨v,U,x⟩:=Em h;rw[Ce]at x;refine DK (v:=v) (f:=all.toArray.size) y (Region.noSelect_spec hs) (fun c a' p J=>(B _ _ _ J).elim) O (fun j D=>R j (by simpa using D)) s.len d a w hsh (Region.free_spec y g) z
       (.inl ⟨m,fun p L=>?_⟩) t ?_
      ·rw[hat.evalF];exact U p fun k x=>(L.2 k x).trans (t.2 k x).symm
      ·exact Eu hs B s _ _ _ w K (hat.put o.dst v) he (fun _=>t) (hsh.put z) hq r hev x
     ·exact h.elim
    ·unfold M1 at h;rw[Ce]at h;exact DK (v:=undef) (f:=all.toArray.size) y (Region.noSelect_spec hs) (fun c a' p J=>(B _ _ _ J).elim) O (fun j D=>R j (by simpa using D)) s.len d a w hsh (Region.free_spec y g) z
      (.inr ⟨m,rfl⟩) t (Eu hs B s _ _ _ w K (hat.put o.dst undef) he (fun _=>t) (hsh.put z) hq r hev h)
 | .f i s,d,fr,a,w,K,hat,he,t,hsh,hq,hB,hev,h=>by
   simp only[CI,r_,Yay,Yax,beq_iff_eq]at hB;obtain⟨⟨C,g⟩,r⟩:=hB;refine⟨(fun E=>by rw[C]at E;cases E),fun j D=>?_⟩;have M:=D;rw[C]at D;obtain rfl:j=i:=by simpa using D
   refine CT hat he (fun n=>t (by simp only[MI,n,Yaz])) h fun u a' p F G A H=>⟨A,Eu hs B s _ _ _ p K F G (fun n=>?_) (hsh.put M) hq r hev H⟩;rcases g with g | g
   ·exact A g
   ·rw[g]at n;cases n
 | .b i s j s',d,fr,a,w,K,hat,he,t,hsh,hq,hB,hev,h=>by
   simp only[CI,r_,Yay,Yax,beq_iff_eq]at hB;obtain⟨⟨⟨C,g⟩,r⟩,N⟩:=hB;simp only[Sch.even,r_,beq_iff_eq]at hev;obtain⟨⟨V,e2⟩,W⟩:=hev;refine⟨(fun E=>by rw[C]at E;cases E),fun k x=>?_⟩;have I:=x;rw[C]at x;rcases YaP.1 x with rfl | x
   ·refine CT hat he (fun n=>t (by simp only[MI,n,Yaz])) h.1 fun u a' p F G A H=>⟨A,Eu hs B s _ _ _ p K F G (fun n=>?_) (hsh.put I) hq r V H⟩;rcases g with g | g
    ·exact A g.1
    ·rw[g.1]at n;cases n
   ·obtain rfl:k=j:=by simpa using x
    rw[W];refine CT hat he (fun n=>t (by simp only[MI,n,Bool.and_false,Yaz])) h.2 fun u a' p F G A H=>⟨A,Eu hs B s' _ _ _ p K F G (fun n=>?_) (hsh.put I) hq N e2 H⟩;rcases g with g | g
    ·exact A g.2
    ·rw[g.2]at n;cases n
theorem Aq.heldG{P:w_}{l:List Oper}{fr:Fr}{H:Aa}{K:Fr→Aa→Prop}(S:Nat→Prop)(Z:List Nat)(b:Sch)(g:P.follows .mixedOrders=true)
  (c:(Region.noSelect l.toArray&&(b.len==l.length)&&b.even&&CI l.toArray Z b (AiJ l.length false))=true)
  (h:VC.heldG P S Z H l b fr H K):Aq P l fr H K:=by
 refine⟨?_⟩;intro id Q a w d i k m;subst i;simp only[r_,beq_iff_eq]at c;refine wp_region_any g (GF (S:=Cls w S) (Z:=Z) _ _ _ _ ?_);have e:IM l.toArray (AiJ l.length false):=fun j o _ f=>by
  rw[YbQ,YbR]at f;split at f<;>simp at f
 have:=Eu (P:=P) (S:=S) (Z:=Z) (w0:=w) (Q:=Q) c.1.1.1 k b (AiJ l.length false) fr a {w with drawn:=w.drawn+1} K d ⟨rfl,rfl,rfl⟩ (fun _=>⟨⟨rfl,rfl,rfl⟩,C_.refl _ _⟩) e m c.2 c.1.2 h;rw[c.1.1.2]at this;simpa using this
end Go.VC
namespace Go.Proofs.YtfbghcpdinlmcaaGreatDoor
open Go.VC
def outP(a:N_)(q:Int)(e:Y'):Bool:=a.has e.fr&&a.has e.to&&decide (e.fr=q)
def outE(a:N_)(q:Int):List Y':=a.edges.filter (outP a q)
structure FromV(B:Nat→Prop)(H0:Aa)(mb:Nat)(a:N_):Prop where
 ex:∃m,IK I8 kI H0 mb m∧∀q,∃ad cap,AeC m q= .slice ad (outE a q).length cap∧g_ tEd B H0 ad cap (outE a q)
 at_:B mb
structure StlR(a:N_)(X:PS)(q:Int)(Y:PS):Prop where
 sub:∀p,X p→Y p
 own:Y q
 new:∀p,Y p→X p∨Y0 a q p
 shut:∀p,Y p→¬X p→∀e∈a.edges,e.sil=true→e.fr=p→a.has e.to=true→Y e.to
open Classical in
noncomputable def mss(X:PS):Nat:=(FR fun p=>¬X p).length
theorem Z0{p q:Int→Bool}:∀(l:List Int),(∀x,p x=true→q x=true)→(l.filter p).length≤(l.filter q).length
 | [],_=>I_ _
 | x::l,h=>by
   have c:=Z0 l h;cases a:p x with
   | true=>rw[YbT a,YbT (h x a),b_,b_];omega
   | false=>
     rw[YbU (by rw[a];decide)];cases b:q x with
     | true=>rw[YbT b,b_];omega
     | false=>rw[YbU (by rw[b];decide)];exact c
theorem Z2{p q:Int→Bool}{y:Int}:∀(l:List Int),(∀x,p x=true→q x=true)→y∈l→p y=false→q y=true→(l.filter p).length<(l.filter q).length
 | [],_,hy,_,_=>by cases hy
 | x::l,h,hy,h1,h2=>by
   have le:=Z0 l h;by_cases a:x=y
   ·subst a;rw[YbU (by rw[h1];decide),YbT h2,b_];omega
   ·have b:y∈l:=by
     rcases YaP.1 hy with e | e
     ·exact absurd e.symm a
     ·exact e
    have f:=Z2 l h b h1 h2;cases c:p x with
    | true=>rw[YbT c,YbT (h x c),b_,b_];omega
    | false=>
      rw[YbU (by rw[c];decide)];cases d:q x with
      | true=>rw[YbT d,b_];omega
      | false=>rw[YbU (by rw[d];decide)];exact f
theorem AgX{X Y:PS}{q:Int}(h:∀p,X p→Y p)(h0:0≤q)(d:q<65536)(a:¬X q)(c:Y q):mss Y<mss X:=by
 unfold mss FR;refine Z2 (y:=q) _ (fun p b=>?_) (List.mem_map.2 ⟨q.toNat,List.mem_range.2 (by omega),by omega⟩) ?_ ?_
 ·simp only[Zzj]at b ⊢;exact fun a=>b (h p a)
 ·simp[c]
 ·simp[a]
theorem FL{a:Int→Option v_}{q:Int}{v:v_}(p:Int):Dom (put a q (some v)) p↔Dom a p∨p=q:=by
 unfold Dom;by_cases h:p=q
 ·subst h;rw[Jp];simp
 ·rw[LQ h];simp[h]
end Go.Proofs.YtfbghcpdinlmcaaGreatDoor
namespace Go.VC
section
variable{α:Type}{T:Ty α}{e:x_}{a:Option Addr}{n cap:Nat}{xs ys:List α}{B S:Nat→Prop}{H0 H:Aa}{ps:List Pc}
end
end Go.VC
namespace Go.Proofs.YtfbghcpdinlmcaaGreatDoor
open Go.VC
structure GthR(a:N_)(L out:List Int):Prop where
 nd:out.Nodup
 sub:∀q∈L,q∈out
 cl:∀q∈out,clS a (·∈L) q
def ZQ:ReM→x_
 | .eps=>98
 | .cls _=>104
 | .cat _ _=>105
 | .alt _ _=>305
 | .star _=>310
 | .and_ _ _=>64
 | .minus _ _=>65
def FE:ReM→v_
 | .eps=>.agg #[]
 | .cls s=>Bt s
 | .cat a b=>.agg #[Ao a,Ao b]
 | .alt a b=>.agg #[Ao a,Ao b]
 | .star a=>.agg #[Ao a]
 | .and_ a b=>.agg #[Ao a,Ao b]
 | .minus a b=>.agg #[Ao a,Ao b]
theorem Ot(r:ReM):Ao r= .iface (ZQ r) (FE r):=by cases r<;>rfl
def HH:ReM→FuncId
 | .eps=>271
 | .cls _=>273
 | .cat _ _=>275
 | .alt _ _=>278
 | .star _=>280
 | .and_ _ _=>266
 | .minus _ _=>269
theorem Gy(r:ReM)(w:y_):(callMethod (.iface (ZQ r) (FE r)) "Size" #[]).run prog w= .ok (.enter (HH r) #[FE r]) w:=by
 cases r with
 | eps=>exact UK _ w
 | cls=>exact UJ _ w
 | cat=>exact UI _ w
 | alt=>exact UG _ w
 | star=>exact Ta _ w
 | and_=>exact UH _ w
 | minus=>exact Rw _ w
theorem Iw(r:ReM)(H:Aa):BM prog 267 #[Ao r] H (.iface (ZQ r) (FE r)):=by
 rw[Ot];refine Ak.of_vc func267 rfl (call267 _) (ifeq underlying28 ?_);(conv=>whnf);exact⟨rfl,C_.refl _ _⟩
theorem AaQ:∀(r:ReM),r.nodes≤1000000000→∀(H:Aa),BM prog (HH r) #[FE r] H (.int .i64 (r.nodes:Int)):=fun r=>by
 induction r with
 | eps=>
   intro y H;refine Ak.of_vc func271 rfl (call271 _) (Ct [] rfl ?_);intro x H1 w l c m;have st1:=(St.nil H).box w l c m;(conv=>whnf);exact⟨rfl,st1.old⟩
 | cls s=>
   intro y H;refine Ak.of_vc func273 rfl (call273 _) (Ct (Ad s) rfl ?_);intro x H1 w l c m;have st1:=(St.nil H).box w l c m;(conv=>whnf);exact⟨rfl,st1.old⟩
 | cat a b o q=>
   intro y H;simp only[ReM.nodes]at y;refine Ak.of_vc func275 rfl (call275 _) (Ct [Ao a,Ao b] rfl ?_);intro x H1 w l c m;have st1:=(St.nil H).box w l c m;have n:=c.lt;refine Aq.heldZ (H_ H1) [] (sq [0,1,5,6] (.f 2 (.f 3 (sq [4] (.f 7 (.f 8 (sq [9] (.f 10 .e)))))))) rfl (by kernel_rfl) (fa VQ ?_);refine G_ (v:=Ao a) E4 (by rw[c.cell];rfl) n ?_;refine fa QZ ?_;refine G_ (v:=Ao b) E4 (by rw[c.cell];rfl) n ?_;refine Ah (Iw a H1) fun H2 d=>(⟨d,?_⟩);refine JY.mk (HH a) #[FE a] (Gy a) (o (by omega) H2) ?_;rintro _ H3 ⟨rfl,p⟩;have g:=d.trans (p.mono fun k h=>Ar d h);refine⟨g,?_⟩;(conv=>whnf);rw[W_ (x:=1+(a.nodes:Int)) (by omega)];refine Ah (Iw b H3) fun H4 t=>?_;have i:=g.trans (t.mono fun k h=>Ar g h);refine⟨i,?_⟩;refine JY.mk (HH b) #[FE b] (Gy b) (q (by omega) H4) ?_;rintro _ H5 ⟨rfl,u⟩;have j:=i.trans (u.mono fun k h=>Ar i h);refine⟨j,?_⟩;(conv=>whnf);rw[W_ (x:=1+(a.nodes:Int)+(b.nodes:Int)) (by omega)];refine⟨j,?_⟩;(conv=>whnf);exact⟨by simp only[ReM.nodes];simp,st1.old.trans (j.mono fun k h=>st1.up h)⟩
 | alt a b o q=>
   intro y H;simp only[ReM.nodes]at y;refine Ak.of_vc func278 rfl (call278 _) (Ct [Ao a,Ao b] rfl ?_);intro x H1 w l c m;have st1:=(St.nil H).box w l c m;have n:=c.lt;refine Aq.heldZ (H_ H1) [] (sq [0,1,5,6] (.f 2 (.f 3 (sq [4] (.f 7 (.f 8 (sq [9] (.f 10 .e)))))))) rfl (by kernel_rfl) (fa Wc ?_);refine G_ (v:=Ao a) E4 (by rw[c.cell];rfl) n ?_;refine fa Re ?_;refine G_ (v:=Ao b) E4 (by rw[c.cell];rfl) n ?_;refine Ah (Iw a H1) fun H2 d=>(⟨d,?_⟩);refine JY.mk (HH a) #[FE a] (Gy a) (o (by omega) H2) ?_;rintro _ H3 ⟨rfl,p⟩;have g:=d.trans (p.mono fun k h=>Ar d h);refine⟨g,?_⟩;(conv=>whnf);rw[W_ (x:=1+(a.nodes:Int)) (by omega)];refine Ah (Iw b H3) fun H4 t=>?_;have i:=g.trans (t.mono fun k h=>Ar g h);refine⟨i,?_⟩;refine JY.mk (HH b) #[FE b] (Gy b) (q (by omega) H4) ?_;rintro _ H5 ⟨rfl,u⟩;have j:=i.trans (u.mono fun k h=>Ar i h);refine⟨j,?_⟩;(conv=>whnf);rw[W_ (x:=1+(a.nodes:Int)+(b.nodes:Int)) (by omega)];refine⟨j,?_⟩;(conv=>whnf);exact⟨by simp only[ReM.nodes];simp,st1.old.trans (j.mono fun k h=>st1.up h)⟩
 | star a o=>
   intro y H;simp only[ReM.nodes]at y;refine Ak.of_vc func280 rfl (call280 _) (Ct [Ao a] rfl ?_);intro x H1 w l c m;have st1:=(St.nil H).box w l c m;refine fa Wd ?_;refine G_ (v:=Ao a) E4 (by rw[c.cell];rfl) trivial ?_;refine Ah (Iw a H1) fun H2 d=>?_;have z:=st1.call d;refine JY.mk (HH a) #[FE a] (Gy a) (o (by omega) H2) ?_;rintro _ H3 ⟨rfl,p⟩;have A:=z.call p;(conv=>whnf);rw[W_ (x:=1+(a.nodes:Int)) (by omega)];(conv=>whnf);exact⟨by simp only[ReM.nodes];simp,A.old⟩
 | and_ a b o q=>
   intro y H;simp only[ReM.nodes]at y;refine Ak.of_vc func266 rfl (call266 _) (Ct [Ao a,Ao b] rfl ?_);intro x H1 w l c m;have st1:=(St.nil H).box w l c m;have n:=c.lt;refine Aq.heldZ (H_ H1) [] (sq [0,1,5,6] (.f 2 (.f 3 (sq [4] (.f 7 (.f 8 (sq [9] (.f 10 .e)))))))) rfl (by kernel_rfl) (fa Zw ?_);refine G_ (v:=Ao a) E4 (by rw[c.cell];rfl) n ?_;refine fa Zx ?_;refine G_ (v:=Ao b) E4 (by rw[c.cell];rfl) n ?_;refine Ah (Iw a H1) fun H2 d=>(⟨d,?_⟩);refine JY.mk (HH a) #[FE a] (Gy a) (o (by omega) H2) ?_;rintro _ H3 ⟨rfl,p⟩;have g:=d.trans (p.mono fun k h=>Ar d h);refine⟨g,?_⟩;(conv=>whnf);rw[W_ (x:=1+(a.nodes:Int)) (by omega)];refine Ah (Iw b H3) fun H4 t=>?_;have i:=g.trans (t.mono fun k h=>Ar g h);refine⟨i,?_⟩;refine JY.mk (HH b) #[FE b] (Gy b) (q (by omega) H4) ?_;rintro _ H5 ⟨rfl,u⟩;have j:=i.trans (u.mono fun k h=>Ar i h);refine⟨j,?_⟩;(conv=>whnf);rw[W_ (x:=1+(a.nodes:Int)+(b.nodes:Int)) (by omega)];refine⟨j,?_⟩;(conv=>whnf);exact⟨by simp only[ReM.nodes];simp,st1.old.trans (j.mono fun k h=>st1.up h)⟩
 | minus a b o q=>
   intro y H;simp only[ReM.nodes]at y;refine Ak.of_vc func269 rfl (call269 _) (Ct [Ao a,Ao b] rfl ?_);intro x H1 w l c m;have st1:=(St.nil H).box w l c m;have n:=c.lt;refine Aq.heldZ (H_ H1) [] (sq [0,1,5,6] (.f 2 (.f 3 (sq [4] (.f 7 (.f 8 (sq [9] (.f 10 .e)))))))) rfl (by kernel_rfl) (fa Zy ?_);refine G_ (v:=Ao a) E4 (by rw[c.cell];rfl) n ?_;refine fa Zz ?_;refine G_ (v:=Ao b) E4 (by rw[c.cell];rfl) n ?_;refine Ah (Iw a H1) fun H2 d=>(⟨d,?_⟩);refine JY.mk (HH a) #[FE a] (Gy a) (o (by omega) H2) ?_;rintro _ H3 ⟨rfl,p⟩;have g:=d.trans (p.mono fun k h=>Ar d h);refine⟨g,?_⟩;(conv=>whnf);rw[W_ (x:=1+(a.nodes:Int)) (by omega)];refine Ah (Iw b H3) fun H4 t=>?_;have i:=g.trans (t.mono fun k h=>Ar g h);refine⟨i,?_⟩;refine JY.mk (HH b) #[FE b] (Gy b) (q (by omega) H4) ?_;rintro _ H5 ⟨rfl,u⟩;have j:=i.trans (u.mono fun k h=>Ar i h);refine⟨j,?_⟩;(conv=>whnf);rw[W_ (x:=1+(a.nodes:Int)+(b.nodes:Int)) (by omega)];refine⟨j,?_⟩;(conv=>whnf);exact⟨by simp only[ReM.nodes];simp,st1.old.trans (j.mono fun k h=>st1.up h)⟩
theorem bd_z:(prog.info? 246).bind (·.zero)=some (.agg #[A_ 0,A_ 0,A_ 0,.slice none 0 0,.nilFunc,A_ 0]):=rfl
structure p_ where
 op:Int
 set:BitVec 256
 l:Int
 r:Int
 m:Int
 n:Int
def Bp(op:v_)(bits:List v_)(a b m n:v_):List v_:=[op]++(bits++[a,b,m,n])
def X_(d:p_):List v_:=Bp (.int .i64 d.op) (A9 d.set) (.int .i64 d.l) (.int .i64 d.r) (.int .i64 d.m) (.int .i64 d.n)
theorem AV(d:p_):(X_ d).length=261:=by
 unfold X_ Bp;simp[Au]
theorem DN(d:p_):(X_ d)[0]?=some (.int .i64 d.op):=rfl
theorem Jr(d:p_):(X_ d)[257]?=some (.int .i64 d.l):=by
 unfold X_ Bp;rw[YaE (by simp),YaE (by simp[Au])];simp[Au]
theorem RH(d:p_):(X_ d)[258]?=some (.int .i64 d.r):=by
 unfold X_ Bp;rw[YaE (by simp),YaE (by simp[Au])];simp[Au]
theorem Vg(d:p_):∀(j:Nat) (v:v_),(A9 d.set)[j]?=some v→(X_ d)[1+j]?=some v:=by
 intro j v h;have a:j<256:=by have:=(O_.1 h).1;rwa [Au]at this
 unfold X_ Bp;rw[YaE (by simp),YaG (by rw[Au];simp;omega)];simpa using h
def p_.Ok(d:p_):Prop:=J' .i64 d.op∧J' .i64 d.l∧J' .i64 d.r∧J' .i64 d.m∧J' .i64 d.n
def tRn:Ty p_ where
 size:=261
 rep _ _ cs d:=cs=X_ d∧d.Ok
 len h:=by rw[h.1];exact AV _
 frame h _:=h
 mono h _:=h
theorem CP(d:p_):(X_ d).all (·.oneCell')=true:=by
 unfold X_ Bp;rw[Ych,Ych,A9,Px];rfl
def rnZ:List v_:=Bp (.int .i64 0) (Ai1 256 (.bool false)) (.int .i64 0) (.int .i64 0) (.int .i64 0) (.int .i64 0)
theorem Cy:rnZ.length=261:=by simp[rnZ,Bp]
theorem OF:(prog.info? 159).bind (·.zero)=some (.agg rnZ.toArray):=by kernel_rfl
theorem NG:A9 0#256=Ai1 256 (.bool false):=by
 apply YaJ;intro i;by_cases a:i<256
 ·rw[Pw _ a,List.getElem?_replicate,F_ a];simp
 ·rw[YaL (by rw[Au];omega),YaL (by simp;omega)]
section
variable{op op' a a' b b' m n:v_}{bits bits':List v_}
theorem AaK:Ai (Bp op bits a b m n) 0 [op']=Bp op' bits a b m n:=rfl
theorem Ah8(h:bits.length=256)(c:bits'.length=256):Ai (Bp op bits a b m n) 1 bits'=Bp op bits' a b m n:=by
 unfold Ai Bp;rw[show([op]++(bits++[a,b,m,n])).take 1=[op]from rfl,c,show 1+256=256+1 by omega,show([op]++(bits++[a,b,m,n])).drop (256+1)=(bits++[a,b,m,n]).drop 256 from rfl,List.drop_left' h,YaN]
theorem rs_l(h:bits.length=256):Ai (Bp op bits a b m n) 257 [a']=Bp op bits a' b m n:=by
 unfold Ai Bp;have c:([op]++(bits++[a,b,m,n])).take 257=[op]++bits:=by
  rw[show([op]++(bits++[a,b,m,n])).take (256+1)=op::(bits++[a,b,m,n]).take 256 from rfl,List.take_left' h];rfl
 have e2:([op]++(bits++[a,b,m,n])).drop (257+1)=[b,m,n]:=by
  rw[show([op]++(bits++[a,b,m,n])).drop (257+1)=(bits++[a,b,m,n]).drop 257 from rfl,show(257:Nat)=bits.length+1 by omega,Ycc];rfl
 rw[c,show 257+[a'].length=257+1 from rfl,e2];simp
theorem rs_r(h:bits.length=256):Ai (Bp op bits a b m n) 258 [b']=Bp op bits a b' m n:=by
 unfold Ai Bp;have c:([op]++(bits++[a,b,m,n])).take 258=[op]++(bits++[a]):=by
  rw[show([op]++(bits++[a,b,m,n])).take (257+1)=op::(bits++[a,b,m,n]).take 257 from rfl,show(257:Nat)=bits.length+1 by omega,List.take_length_add_append];rfl
 have e2:([op]++(bits++[a,b,m,n])).drop (258+1)=[m,n]:=by
  rw[show([op]++(bits++[a,b,m,n])).drop (258+1)=(bits++[a,b,m,n]).drop 258 from rfl,show(258:Nat)=bits.length+2 by omega,Ycc];rfl
 rw[c,show 258+[b'].length=258+1 from rfl,e2];simp
theorem E0(h:bits.length=256):(Bp op bits a b m n).length=261:=by unfold Bp;simp[h]
end
theorem LV(x:Int)(s:BitVec 256){S:Nat→Prop}{H:Aa}{K:v_→Prop}(k:K (.agg (X_ ⟨x,s,0,0,0,0⟩).toArray)):
  AJ prog (Instr.build 159 [(0,A_ x),(1,.agg (A9 s).toArray)].toArray) S H K:=by
 refine Ax underlying159 rfl (.agg rnZ.toArray) OF (X_ ⟨x,s,0,0,0,0⟩) ?_ k;have a:(Ai1 256 (Value.bool false)).length=256:=Yce;refine(CK (i:=0) (off:=0) (size:=1) (by kernel_rfl) rfl (by show _≤rnZ.toArray.size;rw[YbW,Cy];decide)).trans ?_;have c:Ai (Value.agg rnZ.toArray).cells.toList 0 (Value.int .i64 x).cells.toList=Bp (.int .i64 x) (Ai1 256 (.bool false)) (.int .i64 0) (.int .i64 0) (.int .i64 0) (.int .i64 0):=AaK;rw[c];have b:(Value.agg (A9 s).toArray).cells=(A9 s).toArray:=rfl;refine(CK (i:=1) (off:=1) (size:=256) (by kernel_rfl) (by rw[b,YbW,Au]) (by rw[YbW,E0 a];decide)).trans ?_;rw[b,YbZ,YbZ,Ah8 a (Au s)];rfl
theorem Qj(x y z:Int){S:Nat→Prop}{H:Aa}{K:v_→Prop}(k:K (.agg (X_ ⟨x,0#256,y,z,0,0⟩).toArray)):
  AJ prog (Instr.build 159 [(0,A_ x),(2,A_ y),(3,A_ z)].toArray) S H K:=by
 refine Ax underlying159 rfl (.agg rnZ.toArray) OF (X_ ⟨x,0#256,y,z,0,0⟩) ?_ k;have a:(Ai1 256 (Value.bool false)).length=256:=Yce;refine(CK (i:=0) (off:=0) (size:=1) (by kernel_rfl) rfl (by show _≤rnZ.toArray.size;rw[YbW,Cy];decide)).trans ?_;have b:Ai (Value.agg rnZ.toArray).cells.toList 0 (Value.int .i64 x).cells.toList=Bp (.int .i64 x) (Ai1 256 (.bool false)) (.int .i64 0) (.int .i64 0) (.int .i64 0) (.int .i64 0):=AaK;rw[b];refine(CK (i:=2) (off:=257) (size:=1) (by kernel_rfl) rfl (by rw[YbW,E0 a];decide)).trans ?_;rw[YbZ,show(Value.int IntKind.i64 y).cells.toList=[Value.int .i64 y]from rfl,rs_l a];refine(CK (i:=3) (off:=258) (size:=1) (by kernel_rfl) rfl (by rw[YbW,E0 a];decide)).trans ?_;rw[YbZ,show(Value.int IntKind.i64 z).cells.toList=[Value.int .i64 z]from rfl,rs_r a];unfold X_;rw[show(p_.mk x 0#256 y z 0 0).set=0#256 from rfl,NG];rfl
def BA(ns:List p_):ReM→Nat→Prop
 | .eps,i=>∃d,ns[i]?=some d∧d.op=0
 | .cls s,i=>∃d,ns[i]?=some d∧d.op=1∧d.set=s
 | .cat a b,i=>∃d j k:_,ns[i]?=some d∧d.op=2∧d.l=((j:Nat):Int)∧d.r=((k:Nat):Int)∧BA ns a j∧BA ns b k
 | .alt a b,i=>∃d j k:_,ns[i]?=some d∧d.op=3∧d.l=((j:Nat):Int)∧d.r=((k:Nat):Int)∧BA ns a j∧BA ns b k
 | .star a,i=>∃d j:_,ns[i]?=some d∧d.op=4∧d.l=((j:Nat):Int)∧BA ns a j
 | .and_ a b,i=>∃d j k:_,ns[i]?=some d∧d.op=5∧d.l=((j:Nat):Int)∧d.r=((k:Nat):Int)∧BA ns a j∧BA ns b k
 | .minus a b,i=>∃d j k:_,ns[i]?=some d∧d.op=6∧d.l=((j:Nat):Int)∧d.r=((k:Nat):Int)∧BA ns a j∧BA ns b k
def opOf:ReM→Int
 | .eps=>0
 | .cls _=>1
 | .cat _ _=>2
 | .alt _ _=>3
 | .star _=>4
 | .and_ _ _=>5
 | .minus _ _=>6
theorem HA{α:Type}{l m:List α}{i:Nat}{x:α}(h:l[i]?=some x):(l++m)[i]?=some x:=by
 rw[YaG (O_.1 h).1];exact h
theorem BA.more{ns c:List p_}:∀{r:ReM} {i:Nat},BA ns r i→BA (ns++c) r i
 | .eps,_,⟨d,h1,h2⟩=>⟨d,HA h1,h2⟩
 | .cls _,_,⟨d,h1,h2⟩=>⟨d,HA h1,h2⟩
 | .cat a b,_,⟨d,j,k,h1,h2,h3,h4,h5,h6⟩=>⟨d,j,k,HA h1,h2,h3,h4,h5.more,h6.more⟩
 | .alt a b,_,⟨d,j,k,h1,h2,h3,h4,h5,h6⟩=>⟨d,j,k,HA h1,h2,h3,h4,h5.more,h6.more⟩
 | .star a,_,⟨d,j,h1,h2,h3,h5⟩=>⟨d,j,HA h1,h2,h3,h5.more⟩
 | .and_ a b,_,⟨d,j,k,h1,h2,h3,h4,h5,h6⟩=>⟨d,j,k,HA h1,h2,h3,h4,h5.more,h6.more⟩
 | .minus a b,_,⟨d,j,k,h1,h2,h3,h4,h5,h6⟩=>⟨d,j,k,HA h1,h2,h3,h4,h5.more,h6.more⟩
def reL(v:v_)(Az:Int):List v_:=[v,A_ Az]
def ReV(S:Nat→Prop)(H:Aa)(v:v_)(ns:List p_)(Az:Int):Prop:=ns.length≤4194304∧∃na nc,v= .agg (reL (.slice na ns.length nc) Az).toArray∧g_ tRn S H na nc ns
section
variable{S S':Nat→Prop}{H H':Aa}{v:v_}{ns:List p_}{Az:Int}
theorem ReV.frame(h:ReV S H v ns Az)(k:C_ S H H'):ReV S H' v ns Az:=by
 have⟨a,na,nc,b,c⟩:=h;exact⟨a,na,nc,b,c.frame k⟩
theorem AaC{K:v_→Aa→Prop}{t:x_}(h:ReV S H v ns Az)
  (k:∀na nc,v= .agg (reL (.slice na ns.length nc) Az).toArray→g_ tRn S H na nc ns→New H (fun b H'=>K (U_ b) H') t (reL (.slice na ns.length nc) Az)):BH prog (Instr.box t v) H K:=by
 obtain⟨c,na,nc,rfl,a⟩:=h;exact Ct (reL (.slice na ns.length nc) Az) rfl (k na nc rfl a)
theorem Ae4{S0:Nat→Prop}{pb:Nat}{na:Option Addr}{nc:Nat}{K:v_→Prop}{t:x_}(b:ns.length≤4194304)(c:Q_ H pb t (reL (.slice na ns.length nc) Az))(a:Hb prog t 2)(d:S0 pb)(e:g_ tRn S H na nc ns)
  (k:∀v,ReV S H v ns Az→K v):AJ prog (Instr.loadAt t (U_ pb)) S0 H K:=
 L_ (cs:=reL (.slice na ns.length nc) Az) a (c.cells fun j v f=>by rw[K_];exact f) d (k _ ⟨b,na,nc,rfl,e⟩)
end
section
open Go.Shelf Go.Proofs
def SU:Go.Shelf.Ren:=⟨fun | 137=>210 | 217=>229 | 266=>240 | n=>n,fun | 9=>9 | 5=>5 | 3=>3 | n=>n,fun | n=>n⟩
theorem AdC:Go.Proofs.Lays.n137 prog SU:={
 mixed:=by kernel_rfl
 f137:=func210.trans (congrArg some (by kernel_rfl))
 f217:=func229.trans (congrArg some (by kernel_rfl))
 f266:=func240.trans (congrArg some (by kernel_rfl))
 t3:=underlying3
 a3:=isAgg3
 z3:=sizeOf3
 v3:=zeroValue3
 t5:=underlying5
 a5:=isAgg5
 z5:=sizeOf5
 v5:=zeroValue5
 t9:=underlying9
 a9:=isAgg9
 z9:=sizeOf9
 v9:=zeroValue9}
open Go.RowKit in
theorem strings_IndexByte(s:ByteArray)(c:Int)(w:y_):
  Calls prog 210 #[.string s,.int .u8 c] w fun e a=>e= .returned (.int .i64 (Lib.indexByte s.data.toList c.toNat.toUInt8))∧a=w:=Any.strings_IndexByte AdC s c w
open Go.Lib in
theorem Ni(s:ByteArray)(c:Nat)(H:Aa):BM prog 210 #[.string s,.int .u8 (c:Int)] H (.int .i64 (indexByte s.data.toList (UInt8.ofNat c))):=by
 intro w a;refine⟨call210 _ w,?_⟩;refine(strings_IndexByte s (c:Int) w).mono ?_;rintro _ _ ⟨rfl,rfl⟩;exact⟨_,rfl,d_.refl _,rfl,by subst a;exact C_.refl _ _⟩
end
open Go.Lib
def Oc(n:Nat):Nat:=if n<10 then 48+n else 87+n
def Iq(c:Nat)(sp:Bool):List Nat:=if c=10 then [92,110]else if c=13 then [92,114]else if c=9 then [92,116]else if c<32∨126<c then [92,120,Oc (c / 16),Oc (c % 16)]else if sp then [92,c]else [c]
def spB(s:ByteArray)(c:Nat):Bool:=decide (0≤indexByte s.data.toList (UInt8.ofNat c))
def U2:List v_:=[.int .u8 110,.int .u8 10,.int .u8 114,.int .u8 13,.int .u8 116,.int .u8 9]
def EH(H:Aa):Prop:=Be H 0 0 U2∧0<H.size
theorem EH.agr{H H':Aa}(h:EH H)(a:C_ (H_ H) H H'):EH H':=
 ⟨h.1.eq (a 0 h.2),Ar a (show H_ H 0 from h.2)⟩
theorem Af7:(prog.info? 335).bind (·.zero)=some (.agg #[.int .u8 0,.int .u8 0]):=by kernel_rfl
theorem Nh{i:Nat}(a:i<16):(⟨#[48,49,50,51,52,53,54,55,56,57,97,98,99,100,101,102]⟩:ByteArray).extract i (i+1)=bA [Oc i]:=by
 have:∀i:Fin 16,(⟨#[48,49,50,51,52,53,54,55,56,57,97,98,99,100,101,102]⟩:ByteArray).extract i.1 (i.1+1)=bA [Oc i.1]:=by decide
 exact this ⟨i,a⟩
theorem CU(u v:List Nat):bA u++bA v=bA (u++v):=by
 apply ByteArray.ext;rw[ByteArray.data_append];unfold bA;simp
theorem WG{s:ByteArray}{c:Nat}:(decide (indexByte s.data.toList (UInt8.ofNat c)≥0))=spB s c:=rfl
def IA(i:Nat):Nat×Nat:=match i with
 | 0=>(110,10)
 | 1=>(114,13)
 | _=>(116,9)
theorem Gx{H:Aa}{s:ByteArray}{c:Nat}(P:EH H)(Y:c<256):BM prog 187 #[.int .u8 (c:Int),.string s] H (.string (bA (Iq c (spB s c)))):=by
 refine Ak.of_vc func187 rfl (call187 _) (L_ (cs:=U2) AeV P.1 trivial ?_);(conv=>whnf);refine A0.mk [8] (fun i:Nat=>[A_ i]) (fun i H1=>i≤3∧(∀j,j<i→(IA j).2≠c)∧St H H1 []) (fun i _=>3-i) ?_ ?_
 ·(conv=>whnf);exact⟨0,rfl,by omega,fun j B=>by omega,St.nil H⟩
 ·rintro i H1 C ⟨Z,h,st1⟩;refine AG.m2 (fun Q=>?_) (fun Q=>?_)
  ·have D:U2.toArray.extract (i*2) (i*2+2)= #[.int .u8 ((IA i).1:Int),.int .u8 ((IA i).2:Int)]:=by
    have:i=0∨i=1∨i=2:=by omega
    rcases this with rfl | rfl | rfl<;>rfl
   have E:(IA i).2=c→Iq c (spB s c)=[92,(IA i).1]:=fun e=>by
    have:i=0∨i=1∨i=2:=by omega
    rcases this with rfl | rfl | rfl<;>(subst e;rfl)
   have R:(IA i).1<256∧(IA i).2<256:=by
    have:i=0∨i=1∨i=2:=by omega
    rcases this with rfl | rfl | rfl<;>decide
   refine AgN Af2 AeU (by omega) (by omega) ?_;rw[U',D];generalize (IA i).1=l at*;generalize S:(IA i).2=v at*;refine Am (.agg #[.int .u8 0,.int .u8 0]) [.int .u8 0,.int .u8 0] Af7 rfl ?_;intro p2 H2 F I J w;have k:=st1.box F I J w;refine AN (cs:=[.int .u8 (l:Int),.int .u8 (v:Int)]) k 0 rfl rfl (I_ _) rfl fun H3 a=>?_;rw[Aw (by rfl)]at a;refine f_ Wf ?_;refine lT (v:=.int .u8 (v:Int)) ct5 ((a.blk 0 rfl).ce rfl) ?_;by_cases K:v=c
   ·have m:((v:Int)==(c:Int))=true:=by rw[K];exact beq_self_eq_true _
    (conv=>whnf);rw[m];refine f_ We ?_;refine lT (v:=.int .u8 (l:Int)) ct5 ((a.blk 0 rfl).ce rfl) ?_;refine Ay CS [.int .u8 (l:Int)] rfl rfl (by decide) (by decide) ?_;intro M H4 d y f g;refine AbA [l] rfl rfl rfl (fun j x z=>by
     cases j with
     | zero=>cases z;rw[f.cell];rfl
     | succ j=>simp at z) rfl ?_
    refine HK (by rw[show(⟨([l].map UInt8.ofNat).toArray⟩:ByteArray).size=1 from rfl];decide) ?_;(conv=>whnf);rw[E K];exact⟨rfl,(a.skip d g).old⟩
   ·have m:((v:Int)==(c:Int))=false:=beq_eq_false_iff_ne.2 (by omega);(conv=>whnf);rw[m];(conv=>whnf);rw[P_ i (by omega)];refine⟨rfl,i+1,by simp,⟨by omega,fun j B=>?_,a.pick [] (by decide)⟩,by omega⟩;rcases Yck (Ycl B)with B | rfl
    ·exact h j B
    ·rw[S];exact K
  ·obtain rfl:i=3:=by omega
   have T:(10:Nat)≠c:=h 0 (by omega);have U:(13:Nat)≠c:=h 1 (by omega);have V:(9:Nat)≠c:=h 2 (by omega);have A:Iq c (spB s c)=if c<32∨126<c then [92,120,Oc (c / 16),Oc (c % 16)]else if spB s c then [92,c]else [c]:=by
    unfold Iq;rw[D_ (Ne.symm T),D_ (Ne.symm U),D_ (Ne.symm V)]
   by_cases n:c<32∨126<c
   ·rw[A,F_ n];have N:c / 2^4=c / 16:=rfl;have o:c &&& 15=c % 16:=by rw[show(15:Nat)=2^4-1 by decide,Nat.and_two_pow_sub_one_eq_mod]
    have p:c / 16<16:=by omega
    have r:c % 16<16:=by omega
    have O:(((⟨#[92,120]⟩:ByteArray)++bA [Oc (c / 16)])++bA [Oc (c % 16)])=bA [92,120,Oc (c / 16),Oc (c % 16)]:=by
     rw[show(⟨#[92,120]⟩:ByteArray)=bA [92,120]from rfl];exact(congrArg (·++bA [Oc (c % 16)]) (CU _ _)).trans (CU _ _)
    by_cases W:c<32
    ·have m:decide ((c:Int)<32)=true:=e_;(conv=>whnf);rw[m];refine Aq.lex rfl (by kernel_rfl) (Ly (b:=4) (by decide) (Ly (b:=4) (by decide) ?_));(conv=>whnf);rw[w8 (x:=((c / 2^4:Nat):Int)+1) (by omega) (by omega)];refine WP underlying9 (by omega) (by omega) (show((c / 2^4:Nat):Int)+1≤((16:Nat):Int) by omega) ?_;rw[show((c / 2^4:Nat):Int).toNat=c / 16 by omega,show(((c / 2^4:Nat):Int)+1).toNat=c / 16+1 by omega,Nh p];refine HK (show 2+1≤maxLen by decide) ?_;refine IG (b:=15) ⟨by simp[IntKind.min,IntKind.signed],by simp[IntKind.max,IntKind.signed,IntKind.bits];omega⟩ ⟨by decide,by decide⟩ ?_;refine IG (b:=15) ⟨by simp[IntKind.min,IntKind.signed],by simp[IntKind.max,IntKind.signed,IntKind.bits];omega⟩ ⟨by decide,by decide⟩ ?_;rw[o];(conv=>whnf);rw[w8 (x:=((c % 16:Nat):Int)+1) (by omega) (by omega)];refine WP underlying9 (by omega) (by omega) (show((c % 16:Nat):Int)+1≤((16:Nat):Int) by omega) ?_;rw[show((c % 16:Nat):Int).toNat=c % 16 by omega,show(((c % 16:Nat):Int)+1).toNat=c % 16+1 by omega,Nh r];refine HK (show 3+1≤maxLen by decide) ?_;(conv=>whnf);rw[←O];exact⟨rfl,st1.old⟩
    ·have m:decide ((c:Int)<32)=false:=V_;have L:decide ((c:Int)>126)=true:=e_;(conv=>whnf);rw[m];(conv=>whnf);rw[L];refine Aq.lex rfl (by kernel_rfl) (Ly (b:=4) (by decide) (Ly (b:=4) (by decide) ?_));(conv=>whnf);rw[w8 (x:=((c / 2^4:Nat):Int)+1) (by omega) (by omega)];refine WP underlying9 (by omega) (by omega) (show((c / 2^4:Nat):Int)+1≤((16:Nat):Int) by omega) ?_;rw[show((c / 2^4:Nat):Int).toNat=c / 16 by omega,show(((c / 2^4:Nat):Int)+1).toNat=c / 16+1 by omega,Nh p];refine HK (show 2+1≤maxLen by decide) ?_;refine IG (b:=15) ⟨by simp[IntKind.min,IntKind.signed],by simp[IntKind.max,IntKind.signed,IntKind.bits];omega⟩ ⟨by decide,by decide⟩ ?_;refine IG (b:=15) ⟨by simp[IntKind.min,IntKind.signed],by simp[IntKind.max,IntKind.signed,IntKind.bits];omega⟩ ⟨by decide,by decide⟩ ?_;rw[o];(conv=>whnf);rw[w8 (x:=((c % 16:Nat):Int)+1) (by omega) (by omega)];refine WP underlying9 (by omega) (by omega) (show((c % 16:Nat):Int)+1≤((16:Nat):Int) by omega) ?_;rw[show((c % 16:Nat):Int).toNat=c % 16 by omega,show(((c % 16:Nat):Int)+1).toNat=c % 16+1 by omega,Nh r];refine HK (show 3+1≤maxLen by decide) ?_;(conv=>whnf);rw[←O];exact⟨rfl,st1.old⟩
   ·rw[A,D_ n];have m:decide ((c:Int)<32)=false:=V_;have L:decide ((c:Int)>126)=false:=V_;(conv=>whnf);rw[m];(conv=>whnf);rw[L];refine Ah (Ni s c H1) fun H2 w=>?_;have k:=st1.call w;(conv=>whnf);rw[WG];have u:∀{G:Aa} {q t:Nat},Q_ G q t [.int .u8 (c:Int)]→∀(j x:Nat),[c][j]?=some x→VC.cell G q (0+j)=some (.int .u8 (x:Int)):=fun{G q t} X j x z=>by
     cases j with
     | zero=>cases z;rw[X.cell];rfl
     | succ j=>simp at z
    cases spB s c with
    | true=>
      refine Ay CS [.int .u8 (c:Int)] rfl rfl (by decide) (by decide) ?_;intro M H4 d y f g;refine AbA [c] rfl rfl rfl (u f) rfl (HK (show 1+1≤maxLen by decide) ?_);(conv=>whnf);exact⟨rfl,(k.skip d g).old⟩
    | false=>
      refine Ay CS [.int .u8 (c:Int)] rfl rfl (by decide) (by decide) ?_;intro M H4 d y f g;refine AbA [c] rfl rfl rfl (u f) rfl ?_;(conv=>whnf);exact⟨rfl,(k.skip d g).old⟩
theorem AhF{s:ByteArray}{c i:Nat}(h:s.data.toList[i]?=some (UInt8.ofNat c)):spB s c=true:=by
 unfold spB;rw[Zzj];have a:=indexByte_ge s.data.toList (UInt8.ofNat c);apply Classical.byContradiction;intro b;exact absurd h (indexByte_none (by omega) i)
theorem AeE{s:ByteArray}{c:Nat}(h:∀i:Nat,s.data.toList[i]? ≠some (UInt8.ofNat c)):spB s c=false:=by
 unfold spB;rw[Zzi];intro a;have⟨o,b⟩:=YbS a;exact h o (indexByte_some b).1
theorem in_p{H:Aa}{s:ByteArray}{c:Nat}(hs:s.size≤1048576)(q:c<256):BM prog 195 #[.string s,.int .u8 (c:Int)] H (.bool (spB s c)):=by
 refine Ak.of_vc func195 rfl (call195 _) ?_;have o:s.data.toList.length=s.size:=rfl;(conv=>whnf);refine A0.mk [5] (fun i:Nat=>[A_ i]) (fun i H1=>i≤s.size∧(∀j,j<i→s.data.toList[j]? ≠some (UInt8.ofNat c))∧St H H1 []) (fun i _=>s.size-i) ?_ ?_
 ·(conv=>whnf);exact⟨0,rfl,by omega,fun j a=>by omega,St.nil H⟩
 ·rintro i H1 d ⟨r,b,st1⟩;refine AG.m2 (fun p=>?_) (fun p=>?_)
  ·have⟨x,f⟩:=Ac (l:=s.data.toList) (k:=i) (by omega);have g:s.data[i]?=some x:=by rw[←Array.getElem?_toList];exact f
   refine DQ underlying9 rfl g ?_;by_cases h:x.toNat=c
   ·have m:((x.toNat:Int)==(c:Int))=true:=by rw[h];exact beq_self_eq_true _
    have n:x=UInt8.ofNat c:=by rw[←h];simp
    rw[AhF (i:=i) (by rw[←n];exact f)];(conv=>whnf);rw[m];(conv=>whnf);exact⟨rfl,st1.old⟩
   ·have m:((x.toNat:Int)==(c:Int))=false:=beq_eq_false_iff_ne.2 (by omega);(conv=>whnf);rw[m];(conv=>whnf);rw[P_ i (by omega)];refine⟨rfl,i+1,by simp,⟨by omega,fun j a=>?_,st1⟩,by omega⟩;rcases Yck (Ycl a)with a | rfl
    ·exact b j a
    ·rw[f];intro e;injection e with e
     apply h;rw[e,UInt8.toNat_ofNat'];omega
  ·obtain rfl:i=s.size:=by omega
   (conv=>whnf);rw[AeE fun j=>by
    by_cases a:j<s.size
    ·exact b j a
    ·rw[YaL (by omega)];exact fun e=>by cases e]
   exact⟨rfl,st1.old⟩
def DP:ByteArray:=⟨#[40,41,91,93,123,125,124,38,45,42,43,63,46,92,47,94]⟩
def Cl:ByteArray:=⟨#[92,93,91,45,94,47]⟩
theorem XZ{H:Aa}{c:Nat}(b:c<256):BM prog 172 #[.int .u8 (c:Int)] H (.bool (spB DP c)):=by
 refine Ak.of_vc func172 rfl (call172 _) (Ah (in_p (s:=DP) (by decide) b) fun H1 a=>?_);(conv=>whnf);exact⟨rfl,a⟩
theorem Ad7{H:Aa}{c:Nat}(b:c<256):BM prog 171 #[.int .u8 (c:Int)] H (.bool (spB Cl c)):=by
 refine Ak.of_vc func171 rfl (call171 _) (Ah (in_p (s:=Cl) (by decide) b) fun H1 a=>?_);(conv=>whnf);exact⟨rfl,a⟩
end Go.Proofs.YtfbghcpdinlmcaaGreatDoor
namespace Go.VC
abbrev pe(x:v_):List PanicEntry:=[{v:=x,recovered:=false}]
def V2(R E:v_→Aa→Prop):Ending→Aa→Prop
 | .returned v,H=>R v H
 | .panicked c,H=>∃x,c=pe x∧E x H
 | .outgrown,_=>False
theorem V2.mono{R R' E E':v_→Aa→Prop}{e:Ending}{H:Aa}(h:V2 R E e H)(a:∀v H,R v H→R' v H)(b:∀v H,E v H→E' v H):V2 R' E' e H:=by
 cases e with
 | returned v=>exact a v H h
 | panicked c=>have⟨x,d,f⟩:=h;exact⟨x,d,b x H f⟩
 | outgrown=>exact h
def Ca(P:w_)(f:FuncId)(args:Array v_)(H:Aa)(R E:v_→Aa→Prop):Prop:=
 ∀w:y_,w.heap=H→(callFunc f args).run P w= .ok (.enter f args) w∧Calls P f args w fun e w'=>d_ w w'∧V2 R E e w'.heap
theorem Ca.mono{P:w_}{f:FuncId}{a:Array v_}{H:Aa}{R R' E E':v_→Aa→Prop}(h:Ca P f a H R E)(c:∀v H,R v H→R' v H)(d:∀v H,E v H→E' v H):Ca P f a H R' E':=fun w b=>
 ⟨(h w b).1,(h w b).2.mono fun e j ⟨g,i⟩=>⟨g,i.mono c d⟩⟩
theorem Ak.pan{P:w_}{f:FuncId}{a:Array v_}{H:Aa}{R E:v_→Aa→Prop}(h:Ak P f a H R):Ca P f a H R E:=fun w b=>
 ⟨(h w b).1,(h w b).2.mono fun e i ⟨v,c,d,g⟩=>by subst c;exact⟨d,g⟩⟩
structure Aj(P:w_)(f:FuncId)(args:Array v_)(H:Aa)(K E:v_→Aa→Prop):Prop where
 in_::
 out_:Ca P f args H K E
theorem Aj.mk{P:w_}{f:FuncId}{a:Array v_}{H:Aa}{K R E E':v_→Aa→Prop}(h:Ca P f a H R E')(k:∀v H',R v H'→K v H')(e:∀v H',E' v H'→E v H'):Aj P f a H K E:=
 ⟨h.mono k e⟩
theorem Aj.of{P:w_}{f:FuncId}{a:Array v_}{H:Aa}{K E:v_→Aa→Prop}(h:Ae P f a H K):Aj P f a H K E:=⟨h.out_.pan⟩
structure AtX(ds:List Deferred)(fr:Fr)(a:Act):Prop where
 tmps:a.tmps.toList=fr
 defers:a.defers=ds
theorem AtX.at_{fr:Fr}{a:Act}(h:AtX [] fr a):At fr a:=⟨h.tmps,h.defers⟩
section
variable{ds:List Deferred}{fr:Fr}{a:Act}
theorem AtX.bare(h:AtX ds fr a):At fr {tmps:=a.tmps,defers:=[]}:=⟨h.tmps,rfl⟩
theorem AtX.evalF(h:AtX ds fr a):a.eval=evF fr:=by
 rw[←h.bare.evalF];funext x;cases x<;>rfl
theorem AtX.put(h:AtX ds fr a)(b:Option Tmp)(v:v_):AtX ds (match b with | none=>fr | some d=>fr.set d v) (a.put b v):=by
 obtain⟨rfl,c⟩:=h;cases b with
 | none=>exact⟨rfl,c⟩
 | some d=>exact⟨by simp[Act.put],c⟩
end
theorem Ae0{a:Act}{b:Option Tmp}{v c:v_}(h:({tmps:=a.tmps,defers:=[]}:Act).put b v=({tmps:=a.tmps,defers:=[]}:Act).put b c):a.put b v=a.put b c:=by
 cases b with
 | none=>rfl
 | some d=>
   have:=congrArg Act.tmps h;simp only[Act.put]at this ⊢;rw[this]
def Yv(P:w_)(o:Oper)(a:Act)(w:y_)(K E:v_→Aa→Prop):Prop:=
 ∀Q:Exit→Act→y_→Prop,(∀x w',d_ w w'→E x w'.heap→Q (.panic (pe x)) a w')→o.wp P a w (fun a' w'=>∃v,a'=a.put o.dst v∧d_ w w'∧K v w'.heap) Q
theorem Ah2{P:w_}{o:Oper}{a:Act}{w:y_}{K E:v_→Aa→Prop}(h:TY P o {tmps:=a.tmps,defers:=[]} w K):Yv P o a w K E:=by
 intro Q _;have b:=h (fun e _ w=>Q e a w);unfold Oper.wp at b ⊢;have p:({tmps:=a.tmps,defers:=[]}:Act).eval=a.eval:=by funext x;cases x<;>rfl
 rw[p]at b;revert b;generalize (execOp a.eval o).run P w=r;intro b;cases r with
 | ok q t=>
   cases q with
   | value v=>
     have⟨j,e,g,i⟩:=b;exact⟨j,Ae0 e,g,i⟩
   | skip=>
     have⟨j,e,g,i⟩:=b;exact⟨j,Ae0 e,g,i⟩
   | defer d=>
     have⟨j,e,g,i⟩:=b;have:=congrArg Act.defers e;cases k:o.dst<;>rw[k]at this<;>simp[Act.put]at this
   | enter f l=>
     refine Calls.mono b ?_;intro e m g;cases e with
     | returned v=>
       have⟨j,e,i,n⟩:=g;exact⟨j,Ae0 e,i,n⟩
     | panicked c=>exact g
     | outgrown=>obtain⟨_,w,i⟩:=g;exact⟨a,w,i⟩
   | row row l=>
     refine Rows.mono b ?_;intro v m g;have⟨j,e,i,n⟩:=g;exact⟨j,Ae0 e,i,n⟩
   | _=>exact b.elim
 | halt s t=>
   cases s<;>first | exact b | exact b.elim
def YR(P:w_)(f:v_)(args:List v_)(H:Aa)(K E:v_→Aa→Prop):Prop:=
 match f with
 | .func (.func g) first cap=>Aj P g (first.toList++args++cap.toList).toArray H K E
 | _=>False
def Tm(P:w_)(o:Oper)(fr:Fr)(H:Aa)(K:v_→Aa→Prop)(E:Fr→v_→Aa→Prop):Prop:=
 match o.op with
 | .panic x=>O' fr x fun v=>match v with
   | .iface t y=>E fr (.iface t y) H
   | _=>False
 | .call {callee:=.value f,args, .. }=>O' fr f fun g=>HU fr args.toList fun vs=>YR P g vs H K (E fr)
 | _=>opK P false (fun _=>True) o fr H K
theorem Aj.out{P:w_}{f:FuncId}{a:Array v_}{H:Aa}{K E:v_→Aa→Prop}(h:Aj P f a H K E):Ca P f a H K E:=by exact h.out_
theorem Gp{P:w_}{o:Oper}{ds:List Deferred}{fr:Fr}{a:Act}{w:y_}{K:v_→Aa→Prop}{E:Fr→v_→Aa→Prop}(i:AtX ds fr a)(h:Tm P o fr w.heap K E):Yv P o a w K (E fr):=by
 unfold Tm at h;split at h
 ·rename_i x k;rw[Ja]at h;split at h
  ·rename_i t y l;intro Q m;have:(execOp a.eval o).run P w= .halt (.panic (.iface t y)) w:=by
    rw[i.evalF];simp only[execOp,k,l];simp[Instr.panic,goPanic]
   unfold Oper.wp;rw[this];exact m _ w (d_.refl w) h
  ·exact h.elim
 ·rename_i f b j k;simp only[Ja,JM,←Yae]at h;unfold YR at h;split at h
  ·rename_i g first cap q
   intro Q m;have e:(first.toList++(AkO (evF fr) b).toList++cap.toList).toArray=first++AkO (evF fr) b++cap:=Array.ext' (by simp)
   have n:=h.out;rw[e]at n;have r:(execOp a.eval o).run P w=(callFunc g (first++AkO (evF fr) b++cap)).run P w:=by
    rw[i.evalF];simp only[execOp,k,resolve,q,Deferred.ofValue];simp[invoke]
   unfold Oper.wp;rw[r,(n w rfl).1];refine(n w rfl).2.mono ?_;intro e s ⟨d,p⟩;cases e with
   | returned v=>exact⟨v,rfl,d,p⟩
   | panicked c=>
     obtain⟨x,rfl,l⟩:=p;exact m x s d l
   | outgrown=>exact p.elim
  ·exact h.elim
 ·exact Ah2 (D0 i.bare h)
def Rk(P:w_)(o:Oper)(want:Bool)(t:Nat)(fr:Fr)(H:Aa)(K:Fr→Aa→Prop)(E:Fr→v_→Aa→Prop):Prop:=
 rdK fr t fun v=>match v with
  | .bool b=>AG b
    (wrK fr t (.bool true) fun fr1=>match want with
     | true=>Tm P o fr1 H (fun v H'=>Db o.dst fr1 v fun fr'=>apK K fr' H') E
     | false=>Db o.dst fr1 undef fun fr'=>apK K fr' H)
    (wrK fr t (.bool false) fun fr1=>match want with
     | false=>Tm P o fr1 H (fun v H'=>Db o.dst fr1 v fun fr'=>apK K fr' H') E
     | true=>Db o.dst fr1 undef fun fr'=>apK K fr' H)
  | .tuple _=>Db o.dst fr undef fun fr'=>apK K fr' H
  | _=>False
def Ms(P:w_)(all:List Oper)(E:Fr→v_→Aa→Prop)(l:List Oper):Fr→Aa→(Fr→Aa→Prop)→Prop:=
 List.rec (motive:=fun _=>Fr→Aa→(Fr→Aa→Prop)→Prop) (fun fr H K=>K fr H) (fun o _ ih fr H K=>
  match o.guard with
  | none=>Tm P o fr H (fun v H'=>Db o.dst fr v fun fr'=>ih fr' H' K) E
  | some (j,want)=>match(all[j]?).bind (·.dst)with
    | none=>False
    | some t=>Rk P o want t fr H (fun fr' H'=>ih fr' H' K) E) l
theorem UR(P:w_)(all rest:List Oper)(o:Oper)(E:Fr→v_→Aa→Prop)(fr:Fr)(H:Aa)(K:Fr→Aa→Prop):Ms P all E (o::rest) fr H K=
  (match o.guard with
  | none=>Tm P o fr H (fun v H'=>Db o.dst fr v fun a=>Ms P all E rest a H' K) E
  | some (j,want)=>match(all[j]?).bind (·.dst)with
    | none=>False
    | some t=>Rk P o want t fr H (fun a H'=>Ms P all E rest a H' K) E):=rfl
theorem AbI{c:List Oper}{ds:List Deferred}{fr:Fr}{a:Act}(d:AtX ds fr a){j t:Nat}(e:(c[j]?).bind (·.dst)=some t){b:Bool}(f:rd fr t= .bool b):yielded c.toArray a.tmps j=some b:=
 I1 d.bare e f
theorem TS{b:List Oper}{ds:List Deferred}{fr:Fr}{a:Act}(c:AtX ds fr a){j t:Nat}(d:(b[j]?).bind (·.dst)=some t){vs:Array v_}(e:rd fr t= .tuple vs):yielded b.toArray a.tmps j=none:=
 I3 c.bare d e
theorem Jm{P:w_}{all:List Oper}{ds:List Deferred}{E:Fr→v_→Aa→Prop}{Q:Exit→Act→y_→Prop}{w0:y_}(m:∀x fr a' f,AtX ds fr a'→d_ w0 f→E fr x f.heap→Q (.panic (pe x)) a' f):∀(l:List Oper) (fr:Fr) (a:Act) (w:y_) (K:Fr→Aa→Prop),AtX ds fr a→d_ w0 w→
  (∀d a' f,AtX ds d a'→d_ w0 f→K d f.heap→Q .normal a' f)→
  Ms P all E l fr w.heap K→wpList P all.toArray Q l a w
 | [],fr,a,w,K,hat,he,hq,h=>hq fr a w hat he h
 | o::l,fr,a,w,K,hat,he,hq,h=>by
   have go:∀(c:Bool),(c=true→Yv P o a w (fun v H'=>Db o.dst fr v fun d=>Ms P all E l d H' K) (E fr))→
     (c=false→Db o.dst fr undef fun d=>Ms P all E l d w.heap K)→
     Region.wanted o (yielded all.toArray a.tmps)=c→wpList P all.toArray Q (o::l) a w:=by
    intro c r s u;unfold wpList;rw[u];cases c with
    | true=>
      refine .inl (Oper.wp_mono ?_ (r rfl _ fun x f e y=>m x fr a f hat (he.trans e) y));rintro a' f ⟨v,rfl,e,n⟩;rw[Ce]at n;exact Jm m l _ _ _ K (hat.put o.dst v) (he.trans e) hq n
    | false=>
      have p:=s rfl;rw[Ce]at p;exact Jm m l _ _ _ K (hat.put o.dst undef) he hq p
   rw[UR]at h;split at h
   ·rename_i g;exact go true (fun _=>Gp hat h) (fun h=>by cases h) (by simp[Region.wanted,g])
   ·rename_i j c g;split at h
    ·exact h.elim
    ·rename_i t q;unfold Rk at h;simp only[apK]at h;rw[DW]at h;split at h
     ·rename_i b i;have k:=AbI hat q i;have hs:fr.set t (.bool b)=fr:=Ez i (by simp[undef]);cases b<;>cases c<;>simp only[AG,F8,hs]at h
      ·exact go true (fun _=>Gp hat h) (fun h=>by cases h) (by simp[Region.wanted,g,k])
      ·exact go false (fun h=>by cases h) (fun _=>h) (by simp[Region.wanted,g,k])
      ·exact go false (fun h=>by cases h) (fun _=>h) (by simp[Region.wanted,g,k])
      ·exact go true (fun _=>Gp hat h) (fun h=>by cases h) (by simp[Region.wanted,g,k])
     ·rename_i vs i;exact go false (fun h=>by cases h) (fun _=>h) (by simp[Region.wanted,g,TS hat q i])
     ·exact h.elim
def V1(E:Fr→v_→Aa→Prop)(l:List Oper):Prop:=∀o∈l,∀d,o.dst=some d→∀fr v x H,E (fr.set d v) x H→E fr x H
theorem Dz(E:v_→Aa→Prop)(l:List Oper):V1 (fun _=>E) l:=fun _ _ _ _ _ _ _ _ h=>h
structure C3(P:w_)(ds:List Deferred)(l:List Oper)(fr:Fr)(H:Aa)(K:Fr→Aa→Prop)(E:Fr→v_→Aa→Prop):Prop where
 in_::
 out_:∀(id:Nat) (Q:Exit→Act→y_→Prop) (a:Act) (w:y_),AtX ds fr a→w.heap=H→(∀x fr a' w',AtX ds fr a'→d_ w w'→E fr x w'.heap→Q (.panic (pe x)) a' w')→
  (V1 E l→∀c,∀o∈l,∀v a w,Q (.panic c) (a.put o.dst v) w→Q (.panic c) a w)→
  (∀fr' a' w',AtX ds fr' a'→d_ w w'→K fr' w'.heap→Q .normal a' w')→(Code.region id l.toArray true).wp P Q a w
theorem C3.of{P:w_}{l:List Oper}{fr:Fr}{H:Aa}{K:Fr→Aa→Prop}{E:Fr→v_→Aa→Prop}(h:Aq P l fr H K):C3 P [] l fr H K E:=by
 refine⟨fun id Q a w b g _ _ i=>?_⟩;refine Code.wp_mono (Q:=fun e a w=>Q e a w∧∀c,e≠ .panic c) (fun e a w h=>h.1) ?_;exact h.out id _ a w b.at_ g (fun c a w h=>h.2 c rfl) fun d a' j f k m=>⟨i d a' j ⟨f.tmps,f.defers⟩ k m,fun c=>by simp⟩
def Qv(P:w_)(S:Nat→Prop)(Z:List Nat)(H0:Aa)(all:List Oper)(E:Fr→v_→Aa→Prop)(i:Nat)(fr:Fr)(H:Aa)(next:Fr→Aa→Prop):Prop:=
 match all[i]? with
 | none=>False
 | some o=>match o.guard with
   | some _=>False
   | none=>match Z.contains i with
     | true=>Tm P o fr H (fun v H'=>Db o.dst fr v fun fr'=>next fr' H') E
     | false=>Tm P o fr H (fun v H'=>C_ S H0 H'∧Db o.dst fr v fun fr'=>next fr' H') E
def Wm(P:w_)(S:Nat→Prop)(Z:List Nat)(H0:Aa)(all:List Oper)(E:Fr→v_→Aa→Prop)(s:Sch):Fr→Aa→(Fr→Aa→Prop)→Prop:=
 Sch.rec (motive:=fun _=>Fr→Aa→(Fr→Aa→Prop)→Prop) (fun fr H K=>K fr H)
  (fun i _ ih fr H K=>match all[i]? with
   | none=>False
   | some o=>match o.guard with
     | some _=>False
     | none=>match Mp o&&GJ P o with
       | true=>Ph P S o fr H fun v=>Db o.dst fr v fun fr'=>ih fr' H K
       | false=>False)
  (fun i _ ih fr H K=>Qv P S Z H0 all E i fr H fun fr' H'=>ih fr' H' K)
  (fun i _ j _ ih ih' fr H K=>(Qv P S Z H0 all E i fr H fun fr' H'=>ih fr' H' K)∧Qv P S Z H0 all E j fr H fun fr' H'=>ih' fr' H' K) s
theorem Ad3(P:w_)(S:Nat→Prop)(Z:List Nat)(H0:Aa)(all:List Oper)(E:Fr→v_→Aa→Prop)(i:Nat)(s:Sch)(fr:Fr)(H:Aa)(K:Fr→Aa→Prop):Wm P S Z H0 all E (.q i s) fr H K=
  (match all[i]? with
   | none=>False
   | some o=>match o.guard with
     | some _=>False
     | none=>match Mp o&&GJ P o with
       | true=>Ph P S o fr H fun v=>Db o.dst fr v fun a=>Wm P S Z H0 all E s a H K
       | false=>False):=rfl
theorem J6{P:w_}{S:Nat→Prop}{Z:List Nat}{w0:y_}{all:List Oper}{ds:List Deferred}{E:Fr→v_→Aa→Prop}{Q:Exit→Act→y_→Prop}(p:∀x fr a' c,AtX ds fr a'→d_ w0 c→E fr x c.heap→Q (.panic (pe x)) a' c){i:Nat}{fr:Fr}{a:Act}{w:y_}{next:Fr→Aa→Prop}{N:Act→y_→Prop}
  (d:AtX ds fr a) (f:d_ w0 w) (h:Qv P S Z w0.heap all E i fr w.heap next)
  (q:∀g a' c,AtX ds g a'→d_ w0 c→(Z.contains i=false→Cls w0 S c)→next g c.heap→N a' c):wpOp P all.toArray Q i N a w:=by
 unfold Qv at h;split at h
 ·exact h.elim
 ·rename_i o r;have m:all.toArray[i]?=some o:=by simpa using r
  split at h
  ·exact h.elim
  ·rename_i s;have e:Region.wanted o (yielded all.toArray a.tmps)=true:=by simp[Region.wanted,s]
   unfold wpOp;rw[m];dsimp only;rw[F_ e];split at h
   ·rename_i t;refine .inl (Oper.wp_mono ?_ (Gp d h _ fun x c b n=>p x fr a c d (f.trans b) n));rintro a' c ⟨v,rfl,b,j⟩;rw[Ce]at j;exact q _ _ _ (d.put o.dst v) (f.trans b) (fun k=>by rw[t]at k;cases k) j
   ·refine .inl (Oper.wp_mono ?_ (Gp d h _ fun x c b n=>p x fr a c d (f.trans b) n));rintro a' c ⟨v,rfl,b,l,j⟩;rw[Ce]at j;exact q _ _ _ (d.put o.dst v) (f.trans b) (fun _=>⟨f.trans b,l⟩) j
theorem UY(a:Act)(b:Option Tmp)(v:v_):(a.put b v).defers=a.defers:=by cases b<;>rfl
theorem Fm{P:w_}{S:Nat→Prop}{Z:List Nat}{w0:y_}{all:List Oper}{ds:List Deferred}{E:Fr→v_→Aa→Prop}{Q:Exit→Act→y_→Prop}(hs:Region.noSelect all.toArray=true)
  (z:∀x fr a' m,AtX ds fr a'→d_ w0 m→E fr x m.heap→Q (.panic (pe x)) a' m) (n:∀c,∀o∈all,∀v a w,Q (.panic c) (a.put o.dst v) w→Q (.panic c) a w):∀(l:Sch) (d:Array Bool) (fr:Fr) (a:Act) (w:y_) (K:Fr→Aa→Prop),AtX ds fr a→d_ w0 w→(MI Z l=false→Cls w0 S w)→IM all.toArray d→
  (∀p a' m,AtX ds p a'→d_ w0 m→K p m.heap→Q .normal a' m)→CI all.toArray Z l d=true→l.even=true→
  Wm P S Z w0.heap all E l fr w.heap K→JG P all.toArray Q (Cls w0 S) Z l.len d a w
 | .e,d,fr,a,w,K,hat,he,_,_,hq,hB,_,h=>⟨by simpa [CI]using hB,hq fr a w hat he h⟩
 | .q i s,d,fr,a,w,K,hat,he,A,hsh,hq,hB,hev,h=>by
   have A:=A rfl;simp only[CI,r_,Yax,Ybl]at hB;obtain⟨⟨⟨⟨B,g⟩,U⟩,V⟩,r⟩:=hB;rw[Ad3]at h;split at h
   ·exact h.elim
   ·rename_i o T;have D:all.toArray[i]?=some o:=by simpa using T
    have F:i∈Region.ready .any all.toArray d:=by simpa using B
    split at h
    ·exact h.elim
    ·rename_i W;have C:Region.wanted o (yielded all.toArray a.tmps)=true:=by simp[Region.wanted,W]
     split at h
     ·have⟨v,X,t⟩:=Em h;rw[Ce]at t;refine DK (v:=v) (f:=all.toArray.size) D (Region.noSelect_spec hs) (fun c a' m Y=>n c o (c_ T) v a' m Y) U (fun j G=>V j (by simpa using G)) s.len d a w hsh (Region.free_spec D g) F
       (.inl ⟨C,fun m N=>?_⟩) A ?_
      ·rw[hat.evalF];exact X m fun k t=>(N.2 k t).trans (A.2 k t).symm
      ·exact Fm hs z n s _ _ _ w K (hat.put o.dst v) he (fun _=>A) (hsh.put F) hq r hev t
     ·exact h.elim
 | .f i s,d,fr,a,w,K,hat,he,A,hsh,hq,hB,hev,h=>by
   simp only[CI,r_,Yay,Yax,beq_iff_eq]at hB;obtain⟨⟨B,g⟩,r⟩:=hB;refine⟨(fun H=>by rw[B]at H;cases H),fun j G=>?_⟩;have O:=G;rw[B]at G;obtain rfl:j=i:=by simpa using G
   refine J6 z hat he h fun p a' m I J u L=>⟨u,Fm hs z n s _ _ _ m K I J (fun y=>?_) (hsh.put O) hq r hev L⟩;rcases g with g | g
   ·exact u g
   ·rw[g]at y;cases y
 | .b i s j s',d,fr,a,w,K,hat,he,A,hsh,hq,hB,hev,h=>by
   simp only[CI,r_,Yay,Yax,beq_iff_eq]at hB;obtain⟨⟨⟨B,g⟩,r⟩,R⟩:=hB;simp only[Sch.even,r_,beq_iff_eq]at hev;obtain⟨⟨e1,e2⟩,e3⟩:=hev;refine⟨(fun H=>by rw[B]at H;cases H),fun k t=>?_⟩;have M:=t;rw[B]at t;rcases YaP.1 t with rfl | t
   ·refine J6 z hat he h.1 fun p a' m I J u L=>⟨u,Fm hs z n s _ _ _ m K I J (fun y=>?_) (hsh.put M) hq r e1 L⟩;rcases g with g | g
    ·exact u g.1
    ·rw[g.1]at y;cases y
   ·obtain rfl:k=j:=by simpa using t
    rw[e3];refine J6 z hat he h.2 fun p a' m I J u L=>⟨u,Fm hs z n s' _ _ _ m K I J (fun y=>?_) (hsh.put M) hq R e2 L⟩;rcases g with g | g
    ·exact u g.2
    ·rw[g.2]at y;cases y
theorem C3.held{P:w_}{ds:List Deferred}{l:List Oper}{fr:Fr}{H:Aa}{K:Fr→Aa→Prop}{E:Fr→v_→Aa→Prop}(S:Nat→Prop)(Z:List Nat)(b:Sch)(d:V1 E l)(k:P.follows .mixedOrders=true)
  (c:(Region.noSelect l.toArray&&(b.len==l.length)&&b.even&&CI l.toArray Z b (AiJ l.length false))=true)
  (h:Wm P S Z H l E b fr H K):C3 P ds l fr H K E:=by
 refine⟨?_⟩;intro id Q a w e m n f p;subst m;simp only[r_,beq_iff_eq]at c;refine wp_region_any k (GF (S:=Cls w S) (Z:=Z) _ _ _ _ ?_);have g:IM l.toArray (AiJ l.length false):=fun j o _ i=>by
  rw[YbQ,YbR]at i;split at i<;>simp at i
 have:=Fm (P:=P) (S:=S) (Z:=Z) (w0:=w) (Q:=Q) c.1.1.1 n (f d) b (AiJ l.length false) fr a {w with drawn:=w.drawn+1} K e ⟨rfl,rfl,rfl⟩ (fun _=>⟨⟨rfl,rfl,rfl⟩,C_.refl _ _⟩) g p c.2 c.1.2 h;rw[c.1.1.2]at this;simpa using this
def DL(ds:List Deferred)(w0:y_)(E:Fr→v_→Aa→Prop)(Q:Exit→Fr→Aa→Prop):Exit→Act→y_→Prop
 | .panic c,a,w=>∃fr,AtX ds fr a∧d_ w0 w∧∃x,c=pe x∧E fr x w.heap
 | .outgrown,_,_=>False
 | e,a,w=>∃fr,AtX ds fr a∧d_ w0 w∧Q e fr w.heap
structure EN(P:w_)(ds:List Deferred)(E:Fr→v_→Aa→Prop)(c:Code)(fr:Fr)(H:Aa)(X:List (Nat×(Fr→Aa→Prop)))(kr:Fr→Aa→Prop):Prop where
 in_::
 out_:∀(a:Act) (w:y_),AtX ds fr a→w.heap=H→(Code.loop c).wp P (DL ds w E (Qx (fun _ _=>False) X kr)) a w
structure Bf(P:w_)(ds:List Deferred)(E:Fr→v_→Aa→Prop)(x y:Code)(fr:Fr)(H:Aa)(kn:Fr→Aa→Prop)(X:List (Nat×(Fr→Aa→Prop)))(kr:Fr→Aa→Prop):Prop where
 in_::
 out_:∀(a:Act) (w:y_),AtX ds fr a→w.heap=H→(Code.seq x y).wp P (DL ds w E (Qx kn X kr)) a w
def vcP(P:w_)(ds:List Deferred)(E:Fr→v_→Aa→Prop)(c:Code):Fr→Aa→(Fr→Aa→Prop)→List (Nat×(Fr→Aa→Prop))→(Fr→Aa→Prop)→Prop:=
 Code.rec (motive:=fun _=>Fr→Aa→(Fr→Aa→Prop)→List (Nat×(Fr→Aa→Prop))→(Fr→Aa→Prop)→Prop)
  (fun fr H kn _ _=>kn fr H)
  (fun _ ops draw fr H kn _ _=>match draw with
   | false=>Ms P ops.toList E ops.toList fr H kn
   | true=>C3 P ds ops.toList fr H kn E)
  (fun a b iha ihb fr H kn X kr=>match LE a with
   | true=>Bf P ds E a b fr H kn X kr
   | false=>iha fr H (fun fr' H'=>ihb fr' H' kn X kr) X kr)
  (fun c _ _ ihx ihy fr H kn X kr=>match c with
   | .tmp t=>rdK fr t fun v=>match v with
     | .bool b=>AG b (wrK fr t (.bool true) fun fr1=>ihx fr1 H kn X kr) (wrK fr t (.bool false) fun fr1=>ihy fr1 H kn X kr)
     | _=>False
   | .const (.bool b)=>AG b (ihx fr H kn X kr) (ihy fr H kn X kr)
   | _=>False)
  (fun id _ ih fr H kn X kr=>ih fr H kn ((id,kn)::X) kr)
  (fun c _ fr H _ X kr=>EN P ds E c fr H X kr)
  (fun _ _ _ _ _ _ _ _ _ _ _=>False)
  (fun id fr H _ X _=>PD X id fr H)
  (fun _ _ _ _ _ _ _=>False)
  (fun _ _ _ _ _ _=>False)
  (fun _ _ _ _ _ _=>False)
  (fun fr H _ _ kr=>kr fr H)
  (fun _ _ _ _ _ _=>False) c
section
variable(P:w_)(ds:List Deferred)(E:Fr→v_→Aa→Prop)(a b:Code)(fr:Fr)(H:Aa)(kn:Fr→Aa→Prop)(X:List (Nat×(Fr→Aa→Prop)))(kr:Fr→Aa→Prop)
theorem Vy(id:Nat)(a:Array Oper)(b:Bool):vcP P ds E (.region id a b) fr H kn X kr=(match b with
   | false=>Ms P a.toList E a.toList fr H kn
   | true=>C3 P ds a.toList fr H kn E):=rfl
theorem AeQ:vcP P ds E (.seq a b) fr H kn X kr=(match LE a with
   | true=>Bf P ds E a b fr H kn X kr
   | false=>vcP P ds E a fr H (fun c H'=>vcP P ds E b c H' kn X kr) X kr):=rfl
theorem AbC(c:z_):vcP P ds E (.cond c a b) fr H kn X kr=(match c with
   | .tmp t=>rdK fr t fun v=>match v with
     | .bool x=>AG x (wrK fr t (.bool true) fun d=>vcP P ds E a d H kn X kr) (wrK fr t (.bool false) fun d=>vcP P ds E b d H kn X kr)
     | _=>False
   | .const (.bool x)=>AG x (vcP P ds E a fr H kn X kr) (vcP P ds E b fr H kn X kr)
   | _=>False):=rfl
theorem Yn(id:Nat):vcP P ds E (.block id a) fr H kn X kr=vcP P ds E a fr H kn ((id,kn)::X) kr:=rfl
end
section
variable{P:w_}{ds:List Deferred}{E:Fr→v_→Aa→Prop}
theorem EN.out{c:Code}{fr:Fr}{H:Aa}{X:List (Nat×(Fr→Aa→Prop))}{kr:Fr→Aa→Prop}(h:EN P ds E c fr H X kr):
  ∀(a:Act) (w:y_),AtX ds fr a→w.heap=H→(Code.loop c).wp P (DL ds w E (Qx (fun _ _=>False) X kr)) a w:=by exact h.out_
theorem Bf.out{x y:Code}{fr:Fr}{H:Aa}{kn:Fr→Aa→Prop}{X:List (Nat×(Fr→Aa→Prop))}{kr:Fr→Aa→Prop}(h:Bf P ds E x y fr H kn X kr):
  ∀(a:Act) (w:y_),AtX ds fr a→w.heap=H→(Code.seq x y).wp P (DL ds w E (Qx kn X kr)) a w:=by exact h.out_
end
theorem DL.env{ds:List Deferred}{w0 d:y_}{E:Fr→v_→Aa→Prop}{Q:Exit→Fr→Aa→Prop}(b:d_ w0 d):∀{e:Exit} {a:Act} {w:y_},DL ds d E Q e a w→DL ds w0 E Q e a w
 | .normal,_,_,⟨fr,h1,h2,h3⟩ | .exit _,_,_,⟨fr,h1,h2,h3⟩ | .goto _,_,_,⟨fr,h1,h2,h3⟩ | .ret,_,_,⟨fr,h1,h2,h3⟩=>⟨fr,h1,b.trans h2,h3⟩
 | .panic c,_,_,⟨fr,h1,h2,h3⟩=>⟨fr,h1,b.trans h2,h3⟩
theorem DL.mono{ds:List Deferred}{w0:y_}{E:Fr→v_→Aa→Prop}{Q Q':Exit→Fr→Aa→Prop}(b:∀e fr H,Q e fr H→Q' e fr H):∀{e:Exit} {a:Act} {w:y_},DL ds w0 E Q e a w→DL ds w0 E Q' e a w
 | .normal,_,_,⟨fr,h1,h2,h3⟩ | .exit _,_,_,⟨fr,h1,h2,h3⟩ | .goto _,_,_,⟨fr,h1,h2,h3⟩ | .ret,_,_,⟨fr,h1,h2,h3⟩=>⟨fr,h1,h2,b _ _ _ h3⟩
 | .panic c,_,_,h=>h
theorem LW{P:w_}{ds:List Deferred}{E:Fr→v_→Aa→Prop}{x y:Code}{kn d:Fr→Aa→Prop}{X:List (Nat×(Fr→Aa→Prop))}{kr:Fr→Aa→Prop}{a:Act}{w:y_}
  (g:x.wp P (DL ds w E (Qx d X kr)) a w)
  (i:∀fr a' b,AtX ds fr a'→d_ w b→d fr b.heap→y.wp P (DL ds b E (Qx kn X kr)) a' b):(Code.seq x y).wp P (DL ds w E (Qx kn X kr)) a w:=by
 refine wp_seq (Code.wp_mono ?_ g);intro e a' b h;cases e with
 | normal=>
   have⟨fr,j,f,k⟩:=h;exact Code.wp_mono (fun e a w h=>DL.env f h) (i fr a' b j f k)
 | exit id=>exact h
 | goto l=>exact h
 | ret=>exact h
 | panic c=>exact h
 | outgrown=>exact h
theorem Cr{P:w_}{ds:List Deferred}{E:Fr→v_→Aa→Prop}:∀(c:Code) (fr:Fr) (kn:Fr→Aa→Prop) (X:List (Nat×(Fr→Aa→Prop))) (kr:Fr→Aa→Prop) (a:Act) (w:y_),AtX ds fr a→
  vcP P ds E c fr w.heap kn X kr→c.wp P (DL ds w E (Qx kn X kr)) a w
 | .skip,fr,kn,X,kr,a,w,hat,h=>wp_skip ⟨fr,hat,d_.refl w,h⟩
 | .region id ops draw,fr,kn,X,kr,a,w,hat,h=>by
   rw[Vy]at h;cases draw with
   | false=>
     have:=wp_region_lit (P:=P) (id:=id) (l:=ops.toList) (Jm (P:=P) (all:=ops.toList) (ds:=ds) (E:=E) (Q:=DL ds w E (Qx kn X kr)) (w0:=w) (fun x fr a' k i j g=>⟨fr,i,j,x,rfl,g⟩) ops.toList fr a w kn hat (d_.refl w) (fun f a' k i j g=>⟨f,i,j,g⟩) h);simpa using this
   | true=>
     have:=h.out_ id (DL ds w E (Qx kn X kr)) a w hat rfl (fun x fr a' k i j g=>⟨fr,i,j,x,rfl,g⟩) (fun q c o C v a k h=>by
      have⟨D,i,j,x,g,n⟩:=h;have⟨p,u⟩:=i;rw[UY]at u;refine⟨a.tmps.toList,⟨rfl,u⟩,j,x,g,?_⟩;cases r:o.dst with
      | none=>rw[r]at p;rw[←p]at n;exact n
      | some d=>
        rw[r]at p;refine q o C d r _ v x _ ?_;rw[←p]at n;simpa [Act.put]using n) (fun f a' k i j g=>⟨f,i,j,g⟩)
     simpa using this
 | .seq x y,fr,kn,X,kr,a,w,hat,h=>by
   rw[AeQ]at h;split at h
   ·exact h.out a w hat rfl
   ·exact LW (Cr x fr _ X kr a w hat h) fun f a' k i _ g=>Cr y f kn X kr a' k i g
 | .cond c x y,fr,kn,X,kr,a,w,hat,h=>by
   rw[AbC]at h;split at h
   ·rename_i t;rw[DW]at h;split at h
    ·rename_i b z;have hs:fr.set t (.bool b)=fr:=Ez z (by simp[undef]);have A:a.eval (.tmp t)= .bool b:=by rw[hat.evalF];exact z
     cases b<;>simp only[AG,F8,hs]at h
     ·exact wp_cond_false A (Cr y fr kn X kr a w hat h)
     ·exact wp_cond_true A (Cr x fr kn X kr a w hat h)
    ·exact h.elim
   ·rename_i b;cases b<;>simp only[AG]at h
    ·exact wp_cond_false rfl (Cr y fr kn X kr a w hat h)
    ·exact wp_cond_true rfl (Cr x fr kn X kr a w hat h)
   ·exact h.elim
 | .block id c,fr,kn,X,kr,a,w,hat,h=>by
   rw[Yn]at h;refine wp_block (Code.wp_mono ?_ (Cr c fr kn _ kr a w hat h));intro e a' k h;cases e with
   | exit s=>
     have⟨f,i,j,g⟩:=h;simp only[Qx,PD]at g;simp only[Exit.inBlock];split at g
     ·rename_i m;have:=Nat.eq_of_beq_eq_true m;rw[F_ this.symm];exact⟨f,i,j,g⟩
     ·rename_i m;have:id≠s:=Nat.ne_of_beq_eq_false m;rw[D_ (Ne.symm this)];exact⟨f,i,j,g⟩
   | normal=>exact h
   | goto l=>exact h
   | ret=>exact h
   | panic c=>exact h
   | outgrown=>exact h
 | .loop c,fr,kn,X,kr,a,w,hat,h=>Code.wp_mono (fun e a w=>DL.mono fun e fr H B=>by
   cases e<;>first | exact B | exact B.elim) (h.out a w hat rfl)
 | .exit id,fr,kn,X,kr,a,w,hat,h=>wp_exit ⟨fr,hat,d_.refl w,h⟩
 | .ret,fr,kn,X,kr,a,w,hat,h=>wp_ret ⟨fr,hat,d_.refl w,h⟩
 | .rangeFunc ..,_,_,_,_,_,_,_,h=>h.elim
 | .scope _,_,_,_,_,_,_,_,h=>h.elim
 | .label _,_,_,_,_,_,_,_,h=>h.elim
 | .goto _,_,_,_,_,_,_,_,h=>h.elim
 | .refuse _,_,_,_,_,_,_,_,h=>h.elim
section
variable{P:w_}{ds:List Deferred}{E:Fr→v_→Aa→Prop}
theorem EN.mk{c:Code}{fr:Fr}{H:Aa}{X:List (Nat×(Fr→Aa→Prop))}{kr:Fr→Aa→Prop}{α:Type}(j:List Nat)(enc:α→List v_)(I:α→Aa→Prop)(m:α→Aa→Nat)
  (h0:RF fr j fun vs=>∃x,vs=enc x∧I x H)
  (F:∀(x:α) (H1:Aa) (k:Nat→v_),I x H1→HZ k fr (Iz c []) fun r=>Vz r j (enc x) fun f=>
   vcP P ds E c f H1 (fun d H'=>Kf (Iz c []) fr d (RF d j fun vs=>∃y,vs=enc y∧I y H'∧m y H'<m x H1)) X kr):EN P ds E c fr H X kr:=by
 generalize Iz c []=G at F;refine⟨?_⟩;intro a w s L;subst L;have o:=h0;rw[GU]at o;have⟨M,t,u⟩:=o
 let J (n:Nat) (a':Act) (w':y_):Prop:=∃d x,AtX ds d a'∧d_ w w'∧Gm (fun _=>undef) d G=Gm (fun _=>undef) fr G∧j.map (rd d)=enc x∧I x w'.heap∧m x w'.heap=n
 refine M4 J ?_ _ a w ⟨fr,M,s,d_.refl w,rfl,t,u,rfl⟩;rintro n N K ⟨f,O,p,b,v,z,A,rfl⟩;have h:=F O K.heap (rd f) A;rw[Dh,JX,DB v,←z,HL j f]at h;refine Code.wp_mono ?_ (Cr c f _ X kr N K p h);intro e T Q g;cases e with
 | normal=>
   have⟨B,q,i,g⟩:=g;simp only[Qx,Kf,Dh,GU]at g;have⟨C,y,R,D,S⟩:=g;exact⟨m y Q.heap,S,B,y,q,b.trans i,C,R,D,rfl⟩
 | exit id=>exact DL.env b g
 | goto l=>exact DL.env b g
 | ret=>exact DL.env b g
 | panic c=>exact DL.env b g
 | outgrown=>exact g
theorem Bf.run{x y:Code}{fr:Fr}{H:Aa}{kn:Fr→Aa→Prop}{X:List (Nat×(Fr→Aa→Prop))}{kr:Fr→Aa→Prop}
  (h:vcP P ds E x fr H (fun b H'=>vcP P ds E y b H' kn X kr) X kr):Bf P ds E x y fr H kn X kr:=by
 refine⟨?_⟩;intro a w c d;subst d;exact LW (Cr x fr _ X kr a w c h) fun b a' e f _ g=>Cr y b kn X kr a' e f g
theorem Bf.cut{x y:Code}{fr:Fr}{H:Aa}{kn:Fr→Aa→Prop}{X:List (Nat×(Fr→Aa→Prop))}{kr:Fr→Aa→Prop}{α:Type}(e:List Nat)(enc:α→List v_)(I:α→Aa→Prop)
  (h:vcP P ds E x fr H (fun c H'=>Kf (Iz x []) fr c (RF c e fun vs=>∃y,vs=enc y∧I y H')) X kr)
  (k:∀(z:α) (H1:Aa) (d:Nat→v_),I z H1→HZ d fr (Iz x []) fun f=>Vz f e (enc z) fun b=>vcP P ds E y b H1 kn X kr):Bf P ds E x y fr H kn X kr:=by
 generalize Iz x []=r at h k;refine⟨?_⟩;intro a w g l;subst l;refine LW (Cr x fr _ X kr a w g h) fun b m i n _ j=>?_;simp only[Kf,Dh,GU]at j;have⟨o,z,p,q⟩:=j;have h:=k z i.heap (rd b) q;rw[Dh,JX,DB o,←p,HL e b]at h;exact Cr y b kn X kr m i n h
end
theorem Vd{P:w_}{fn:Func}{ds:List Deferred}{fr:Fr}{a:Act}{w:y_}{R:v_→Aa→Prop}(b:AtX ds fr a)(h:Pn P fn.results.toList fr w.heap R):
  ∃v,(results fn a.tmps).run P w= .ok v w∧R v w.heap:=OD (a:={tmps:=a.tmps,defers:=[]}) b.bare h
theorem Ca.of_vc{P:w_}{f:FuncId}{fn:Func}{c:Code}{a:Array v_}{H:Aa}{R E:v_→Aa→Prop}(n:P.funcs[f]?=some fn)(o:fn.body=some c)
  (i:∀w:y_,(callFunc f a).run P w= .ok (.enter f a) w)
  (h:Ou (a.toList++Ai1 (fn.ntmps-a.size) undef) fun fr=>vcP P [] (fun _=>E) c fr H (fun j H'=>Pn P fn.results.toList j H' R) [] (fun j H'=>Pn P fn.results.toList j H' R)):
  Ca P f a H R E:=by
 intro w p;subst p;refine⟨i w,?_⟩;refine calls_of_wp n o ?_;rw[HD]at h;have m:AtX [] (a.toList++Ai1 (fn.ntmps-a.size) undef) {tmps:=a++AiJ (fn.ntmps-a.size) undef,defers:=[]}:=⟨by simp,rfl⟩;refine Code.wp_mono ?_ (Cr c _ _ _ _ _ w m h);intro e a' k b;have fin:∀fr,AtX [] fr a'→d_ w k→Pn P fn.results.toList fr k.heap R→a'.defers=[]∧∃v,(results fn a'.tmps).run P k= .ok v k∧d_ w k∧R v k.heap:=by
  intro fr g b d;have⟨v,q,r⟩:=Vd g d;exact⟨g.defers,v,q,b,r⟩
 cases e with
 | normal=>have⟨fr,g,b,d⟩:=b;exact fin fr g b d
 | ret=>have⟨fr,g,b,d⟩:=b;exact fin fr g b d
 | exit id=>have⟨fr,g,b,d⟩:=b;exact d.elim
 | goto l=>have⟨fr,g,b,d⟩:=b;exact d.elim
 | panic c=>have⟨fr,g,d,x,s,t⟩:=b;exact⟨g.defers,d,x,s,t⟩
 | outgrown=>exact b.elim
def Gt(P:w_)(rs:List ResultVar)(fr:Fr)(H:Aa):(List v_→Prop)→Prop:=
 List.rec (motive:=fun _=>(List v_→Prop)→Prop) (fun R=>R []) (fun r _ ih R=>match r with
  | .tmp t=>rdK fr t fun v=>ih fun vs=>R (v::vs)
  | .cell a t=>rdK fr a fun p=>ldK P t p H fun v=>ih fun vs=>R (v::vs)) rs
def LU(vs:List v_):v_:=match vs with
 | [v]=>v
 | vs=>.tuple vs.toArray
def Im(tmps:Array v_)(r:ResultVar):Sem v_:=match r with
 | .tmp t=>pure (tmps.getD t undef)
 | .cell a t=>do loadVar t (←asAddr (tmps.getD a undef))
theorem KG{P:w_}{fr:Fr}{a:Act}{w:y_}(b:At fr a):∀(c:List ResultVar) (R:List v_→Prop),Gt P c fr w.heap R→
  ∃vs:List v_,(c.mapM (Im a.tmps)).run P w= .ok vs w∧R vs
 | [],R,h=>⟨[],by simp,h⟩
 | .tmp t::c,R,h=>by
   have e:rdK fr t (fun v=>Gt P c fr w.heap fun vs=>R (v::vs)):=h;rw[DW]at e;have⟨vs,i,f⟩:=KG b c _ e;have d:a.tmps.getD t undef=rd fr t:=b.eval (.tmp t);have g:(Im a.tmps (.tmp t)).run P w= .ok (rd fr t) w:=by simp[Im,d]
   refine⟨rd fr t::vs,?_,f⟩;rw[Yci,Sem.run_bind,g];simp only[Result.andThen_ok,Sem.run_bind,i,Sem.run_pure]
 | .cell x t::c,R,h=>by
   have e:rdK fr x (fun p=>ldK P t p w.heap fun v=>Gt P c fr w.heap fun vs=>R (v::vs)):=h;rw[DW]at e;have⟨p,v,j,k,f⟩:=Gb e;have⟨vs,l,m⟩:=KG b c _ f;have d:a.tmps.getD x undef=rd fr x:=b.eval (.tmp x);have g:(Im a.tmps (.cell x t)).run P w= .ok v w:=by simp[Im,d,j,asAddr,k]
   refine⟨v::vs,?_,m⟩;rw[Yci,Sem.run_bind,g];simp only[Result.andThen_ok,Sem.run_bind,l,Sem.run_pure]
theorem Fg{P:w_}{fn:Func}{ds:List Deferred}{fr:Fr}{a:Act}{w:y_}{R:v_→Prop}(b:AtX ds fr a)(h:Gt P fn.results.toList fr w.heap fun vs=>R (LU vs)):
  ∃v,(results fn a.tmps).run P w= .ok v w∧R v:=by
 have⟨vs,c,d⟩:=KG (a:={tmps:=a.tmps,defers:=[]}) b.bare _ _ h;refine⟨LU vs,?_,d⟩;have e:results fn a.tmps=(do
  let vs ←fn.results.mapM (Im a.tmps)
  pure (if h:vs.size=1 then vs[0]else .tuple vs)):=rfl
 have e2:(fn.results.mapM (Im a.tmps)).run P w= .ok vs.toArray w:=by
  rw[Array.mapM_eq_mapM_toList];have f:(List.toArray <$> fn.results.toList.mapM (Im a.tmps))=(fn.results.toList.mapM (Im a.tmps) >>= fun l=>pure l.toArray):=rfl;rw[f,Sem.run_bind,c];simp
 rw[e,Sem.run_bind,e2];simp only[Result.andThen_ok,Sem.run_pure]
 match vs with
 | []=>rfl
 | [v]=>rfl
 | _::_::_=>rfl
def recB(o0 o1:Oper)(t0 t1:Nat):Prop:=(∃ats,o0.op= .call {callee:=.builtin .recover,args:= #[],argTypes:=ats})∧o0.guard=none∧o0.dst=some t0∧o1.op= .assign (.tmp t0)∧o1.guard=none∧o1.dst=some t1
inductive AfZ:FrameMode→FrameMode→v_→Prop
 | ret:AfZ .returning .returning .nilIface
 | pan (x:v_):AfZ (.panicking (pe x)) (.panicking [{v:=x,recovered:=true}]) x
theorem HP{P:w_}{g:FuncId}{fn:Func}{D:Nat}{b i:Oper}{r N:Nat}{rest:Code}{a:Array v_}{u s:FrameMode}{rv:v_}{H:Aa}{R:Aa→Prop}(Q:P.funcs[g]?=some fn)(S:fn.body=some (.seq (.region D #[b,i] false) rest))
  (T:recB b i r N) (U:AfZ u s rv) (z:fn.results= #[])
  (h:Ou (a.toList++Ai1 (fn.ntmps-a.size) undef) fun fr=>rdK fr r fun _=>rdK (fr.set r rv) r fun v=>v=rv∧wrK fr r rv fun E=>wrK E N rv fun F=>vc P rest F H (fun _ H'=>R H') [] (fun _ H'=>R H')):
  ∀w:y_,w.heap=H→CallsD P g a u w fun e n d=>e= .returned (.tuple #[])∧n=s∧d_ w d∧R d.heap:=by
 intro w V;subst V;rw[HD]at h;simp only[DW,F8]at h;have⟨G,h⟩:=h;obtain⟨⟨W,X⟩,Y,I,Z,b4,O⟩:=T;refine callsD_of_wpS Q S ?_;intro j k J
 let o:Act:={tmps:=a++AiJ (fn.ntmps-a.size) undef,defers:=[]}
 have A:At (a.toList++Ai1 (fn.ntmps-a.size) undef) o:=⟨by simp[o],rfl⟩;refine wpS_seq (wpS_region ?_);have t:(execOp o.eval b).run P w= .ok .recover w:=by
  simp only[execOp,X,resolve];simp[invoke,builtin]
 have B:∀(C:Frame),{j with mode:=s}=C→wpOpsS P #[b,i] (Exit.thenS (rest.wpS P (bodyPostS P fn j k fun e n d=>e= .returned (.tuple #[])∧n=s∧d_ w d∧R d.heap)) (bodyPostS P fn j k fun e n d=>e= .returned (.tuple #[])∧n=s∧d_ w d∧R d.heap)) [1] (o.put b.dst rv) (C::k) w:=by
  intro C K;have p:=A.put b.dst rv;have x:(execOp (o.put b.dst rv).eval i).run P w= .ok (.value rv) w:=by
   rw[p.evalF,I];simp only[execOp,Z];have:evF ((a.toList++Ai1 (fn.ntmps-a.size) undef).set r rv) (.tmp r)=rv:=G;simp[this]
  have L:Region.wanted i (yielded #[b,i] (o.put b.dst rv).tmps)=true:=by simp[Region.wanted,b4]
  unfold wpOpsS;have g1:(#[b,i]:Array Oper)[1]?=some i:=rfl;rw[g1];simp only[L,if_true,x];simp only[Oper.upon,wpOpsS,Exit.thenS];refine wpS_of_wp ?_;have q:=p.put i.dst rv;rw[I,O]at q;rw[I,O];refine Code.wp_mono ?_ (Co rest _ _ _ _ _ w q h);intro e a' d f;have fin:∀fr,At fr a'→d_ w d→R d.heap→a'.defers=[]∧∃n,C::k={j with mode:=n}::k∧∃v,(results fn a'.tmps).run P d= .ok v d∧Ending.returned v= .returned (.tuple #[])∧n=s∧d_ w d∧R d.heap:=by
   intro fr y f m;refine⟨y.defers,s,by rw[K],.tuple #[],?_,rfl,rfl,f,m⟩;simp[results,z]
  cases e with
  | normal=>have⟨fr,y,f,m⟩:=f;exact fin fr y f m
  | ret=>have⟨fr,y,f,m⟩:=f;exact fin fr y f m
  | exit id=>have⟨fr,y,f,m⟩:=f;exact m.elim
  | goto l=>have⟨fr,y,f,m⟩:=f;exact m.elim
  | panic c=>exact f.elim
  | outgrown=>exact f.elim
 have M:Region.wanted b (yielded #[b,i] o.tmps)=true:=by simp[Region.wanted,Y]
 show wpOpsS P #[b,i] _ [0,1] o (j::k) w;unfold wpOpsS;have g0:(#[b,i]:Array Oper)[0]?=some b:=rfl;rw[g0];simp only[M,if_true,t];cases U with
 | ret=>
   have:recoverD (j::k)=none:=by simp[recoverD,J]
   rw[this];exact B j (by rw[←J])
 | pan=>
   have:recoverD (j::k)=some (rv,{j with mode:=.panicking [{v:=rv,recovered:=true}]}::k):=by simp[recoverD,J]
   rw[this];exact B _ rfl
structure Fh(P:w_)(g:FuncId)(args:Array v_)(u u':FrameMode)(H:Aa)(K:Aa→Prop):Prop where
 in_::
 out_:∀w:y_,w.heap=H→CallsD P g args u w fun e u2 w'=>e= .returned (.tuple #[])∧u2=u'∧d_ w w'∧K w'.heap
theorem Fh.mk{P:w_}{g:FuncId}{a:Array v_}{u c:FrameMode}{H:Aa}{K R:Aa→Prop}(h:∀w:y_,w.heap=H→CallsD P g a u w fun e d b=>e= .returned (.tuple #[])∧d=c∧d_ w b∧R b.heap)(k:∀H',R H'→K H'):Fh P g a u c H K:=
 ⟨fun w f=>(h w f).mono fun e d b ⟨i,j,l,m⟩=>⟨i,j,l,k _ m⟩⟩
def defB(o1 o2:Oper)(tc:Nat)(g:FuncId)(cap:Array z_):Prop:=
 o1.op= .makeFunc (.func g) #[] cap∧o1.guard=none∧o1.dst=some tc∧(∃ats,o2.op= .defer {callee:=.value (.tmp tc),args:= #[],argTypes:=ats})∧o2.guard=none∧o2.dst=none
abbrev dfr(g:FuncId)(vs:List v_):Deferred:={target:=.fn (.func g) vs.toArray,args:= #[]}
theorem Ak.of_defer{P:w_}{f:FuncId}{fn:Func}{Y A B:Code}{Z:Nat}{r t:Oper}{y:Nat}{g:FuncId}{cap:Array z_}{b:Array v_}{H:Aa}{R:v_→Aa→Prop}(hf:P.funcs[f]?=some fn)
  (hb:fn.body=some (.seq Y (.seq A (.seq (.region Z #[r,t] false) B)))) (D:∀w:y_,(callFunc f b).run P w= .ok (.enter f b) w) (hD:defB r t y g cap) (hg:∀(vs:Array v_) (w:y_),(callFunc g vs).run P w= .ok (.enter g vs) w)
  (h:Ou (b.toList++Ai1 (fn.ntmps-b.size) undef) fun fr=>
   vc P Y fr H (fun L H1=>vc P A L H1 (fun a H2=>HU a cap.toList fun vs=>wrK a y (.func (.func g) #[] vs.toArray) fun M=>rdK M y fun fv=>fv= .func (.func g) #[] vs.toArray∧
    vcP P [dfr g vs] (fun d x H4=>Fh P g vs.toArray (.panicking (pe x)) (.panicking [{v:=x,recovered:=true}]) H4 fun H5=>Gt P fn.results.toList d H5 fun j=>R (LU j) H5) B M H2
     (fun d H4=>Fh P g vs.toArray .returning .returning H4 fun H5=>Gt P fn.results.toList d H5 fun j=>R (LU j) H5) []
     (fun d H4=>Fh P g vs.toArray .returning .returning H4 fun H5=>Gt P fn.results.toList d H5 fun j=>R (LU j) H5))
    [] (fun d H4=>Gt P fn.results.toList d H4 fun j=>R (LU j) H4)) [] (fun d H4=>Gt P fn.results.toList d H4 fun j=>R (LU j) H4)):
  Ak P f b H R:=by
 intro w hw;subst hw;refine⟨D w,?_⟩;rw[HD]at h;obtain⟨d1,d2,d3,⟨a7,d4⟩,d5,d6⟩:=hD;refine calls_of_wp_defers hf hb ?_
 let a0:Act:={tmps:=b++AiJ (fn.ntmps-b.size) undef,defers:=[]}
 have N:At (b.toList++Ai1 (fn.ntmps-b.size) undef) a0:=⟨by simp[a0],rfl⟩;have m:∀(fr:Fr) (a':Act) (k:y_),At fr a'→d_ w k→(Gt P fn.results.toList fr k.heap fun j=>R (LU j) k.heap)→Leaves P fn a'.tmps (fun e k=>∃v,e= .returned v∧d_ w k∧R v k.heap) a'.defers .returning k:=by
  intro fr a' k q z h3;rw[q.defers];have⟨v,O,e2⟩:=Fg (fn:=fn) (ds:=[]) (R:=fun v=>R v k.heap) ⟨q.tmps,q.defers⟩ h3;exact⟨v,O,v,rfl,z,e2⟩
 refine wp_seq (Code.wp_mono ?_ (Co Y _ _ _ _ a0 w N h));intro e a1 X q;cases e with
 | ret=>have⟨fr,Q,G,E⟩:=q;exact m fr a1 X Q G E
 | exit id=>have⟨fr,Q,G,E⟩:=q;exact E.elim
 | goto l=>have⟨fr,Q,G,E⟩:=q;exact E.elim
 | panic c=>exact q.elim
 | outgrown=>exact q.elim
 | normal=>
 have⟨L,Q,G,E⟩:=q;refine wp_seq (Code.wp_mono ?_ (Co A _ _ _ _ a1 X Q E));intro e I F z;cases e with
 | ret=>have⟨fr,J,S,n⟩:=z;exact m fr I F J (G.trans S) n
 | exit id=>have⟨fr,J,S,n⟩:=z;exact n.elim
 | goto l=>have⟨fr,J,S,n⟩:=z;exact n.elim
 | panic c=>exact z.elim
 | outgrown=>exact z.elim
 | normal=>
 have⟨a,J,S,n⟩:=z;have n:HU a cap.toList _:=n;rw[JM]at n;simp only[F8,DW]at n;have⟨m4,m5⟩:=n;have T:=G.trans S;have a3:(execOp I.eval r).run P F= .ok (.value (.func (.func g) #[] (cap.toList.map (evF a)).toArray)) F:=by
  rw[J.evalF];simp only[execOp,d1];simp only[←Yae,Array.toArray_toList];simp[Instr.makeFunc]
 have i:=J.put r.dst (.func (.func g) #[] (cap.toList.map (evF a)).toArray);rw[d3]at i;have a4:(execOp (I.put r.dst (.func (.func g) #[] (cap.toList.map (evF a)).toArray)).eval t).run P F= .ok (.defer (dfr g (cap.toList.map (evF a)))) F:=by
  rw[d3,i.evalF];simp only[execOp,d4,resolve];have:evF (a.set y (.func (.func g) #[] (cap.toList.map (evF a)).toArray)) (.tmp y)= .func (.func g) #[] (cap.toList.map (evF a)).toArray:=m4;simp[this,Deferred.ofValue]
 refine wp_seq (wp_region_lit (l:=[r,t]) ?_);have X:Region.wanted r (yielded #[r,t] I.tmps)=true:=by simp[Region.wanted,d2]
 have a6:∀tm,Region.wanted t (yielded #[r,t] tm)=true:=fun tm=>by simp[Region.wanted,d5]
 unfold wpList;simp only[X,if_true];refine .inl ?_;unfold Oper.wp;rw[a3];simp only[Oper.upon];unfold wpList;simp only[a6,if_true];refine .inl ?_;unfold Oper.wp;rw[a4];simp only[Oper.upon,wpList,Exit.then];rw[d3];have U:AtX [dfr g (cap.toList.map (evF a))] (a.set y (.func (.func g) #[] (cap.toList.map (evF a)).toArray)) ({(I.put (some y) (.func (.func g) #[] (cap.toList.map (evF a)).toArray))with defers:=dfr g (cap.toList.map (evF a))::(I.put (some y) (.func (.func g) #[] (cap.toList.map (evF a)).toArray)).defers}.put t.dst undef):=by
  rw[d6];exact⟨i.tmps,by show _::_=_;rw[i.defers]⟩
 refine Code.wp_mono ?_ (Cr B _ _ _ _ _ F U m5);intro e V C K;have W:∀w:y_,(invoke (.fn (.func g) (cap.toList.map (evF a)).toArray) #[]).run P w= .ok (.enter g (cap.toList.map (evF a)).toArray) w:=fun w=>by
  simp only[invoke];rw[Array.empty_append];exact hg _ w
 have fin:∀fr,AtX [dfr g (cap.toList.map (evF a))] fr V→d_ F C→(Fh P g (cap.toList.map (evF a)).toArray .returning .returning C.heap fun H5=>Gt P fn.results.toList fr H5 fun j=>R (LU j) H5)→
   Leaves P fn V.tmps (fun e k=>∃v,e= .returned v∧d_ w k∧R v k.heap) V.defers .returning C:=by
  intro fr o s p;rw[o.defers];refine leaves_cons (fun h=>by cases h) (W C) ((p.out_ C rfl).mono ?_);rintro e u w6 ⟨rfl,rfl,q1,q2⟩;have⟨v,O,e2⟩:=Fg (fn:=fn) (R:=fun v=>R v w6.heap) o q2;exact⟨v,O,v,rfl,(T.trans s).trans q1,e2⟩
 cases e with
 | normal=>have⟨fr,o,s,p⟩:=K;exact fin fr o s p
 | ret=>have⟨fr,o,s,p⟩:=K;exact fin fr o s p
 | exit id=>have⟨fr,o,s,p⟩:=K;exact p.elim
 | goto l=>have⟨fr,o,s,p⟩:=K;exact p.elim
 | outgrown=>exact K.elim
 | panic c=>
   obtain⟨fr,o,s,x,rfl,p⟩:=K;show Leaves P fn V.tmps _ V.defers (.panicking (pe x)) C;rw[o.defers];refine leaves_cons (fun h=>by cases h) (W C) ((p.out_ C rfl).mono ?_);rintro e u w6 ⟨rfl,rfl,q1,q2⟩;have⟨v,O,e2⟩:=Fg (fn:=fn) (R:=fun v=>R v w6.heap) o q2;exact⟨v,O,v,rfl,(T.trans s).trans q1,e2⟩
def AaR:ResultVar→Nat
 | .tmp t=>t
 | .cell a _=>a
theorem Qg{fr:Fr}{d t:Nat}{v:v_}(h:d≠t):rd (fr.set d v) t=rd fr t:=by
 unfold rd;rw[YaD,YaD,YaC h]
theorem OE{P:w_}{fr:Fr}{d:Nat}{v:v_}{H:Aa}:∀{b:List ResultVar} {R:List v_→Prop},(∀r∈b,d≠AaR r)→Gt P b (fr.set d v) H R→Gt P b fr H R
 | [],R,_,h=>h
 | .tmp t::b,R,hd,h=>by
   have c:rdK (fr.set d v) t (fun a=>Gt P b (fr.set d v) H fun vs=>R (a::vs)):=h;show rdK fr t (fun a=>Gt P b fr H fun vs=>R (a::vs));rw[DW]at c ⊢;have f:d≠t:=hd _ Yca;rw[Qg f]at c;exact OE (fun r g=>hd r (YbY _ g)) c
 | .cell x t::b,R,hd,h=>by
   have c:rdK (fr.set d v) x (fun p=>ldK P t p H fun a=>Gt P b (fr.set d v) H fun vs=>R (a::vs)):=h;show rdK fr x (fun p=>ldK P t p H fun a=>Gt P b fr H fun vs=>R (a::vs));rw[DW]at c ⊢;have f:d≠x:=hd _ Yca;rw[Qg f]at c;have e:(fun a=>Gt P b (fr.set d v) H fun vs=>R (a::vs))=fun a=>Gt P b (fr.set d v) H fun vs=>R (a::vs):=rfl;revert c;unfold ldK;generalize rd fr x=p;intro c;split at c
   ·have⟨a,i,e2⟩:=c.out_;exact⟨⟨a,i,OE (fun r g=>hd r (YbY _ g)) e2⟩⟩
   ·exact c.elim
theorem Uk{P:w_}{g:FuncId}{vs:Array v_}{b:List ResultVar}{R:v_→Aa→Prop}{l:List Oper}(e:(l.all fun o=>match o.dst with | none=>true | some d=>b.all fun r=> !(d==AaR r))=true):
  V1 (fun a x H4=>Fh P g vs (.panicking (pe x)) (.panicking [{v:=x,recovered:=true}]) H4 fun H5=>Gt P b a H5 fun f=>R (LU f) H5) l:=by
 intro o i d j fr v x H h;have c:=Ybl.1 e o i;rw[j]at c;refine Fh.mk h.out_ fun H' k=>OE (fun r m=>?_) k;have:=Ybl.1 c r m;simpa using this
theorem Ak.of_vcL{P:w_}{f:FuncId}{fn:Func}{c:Code}{a:Array v_}{H:Aa}{R:v_→Aa→Prop}(p:P.funcs[f]?=some fn)(q:fn.body=some c)
  (j:∀w:y_,(callFunc f a).run P w= .ok (.enter f a) w)
  (h:Ou (a.toList++Ai1 (fn.ntmps-a.size) undef) fun fr=>vc P c fr H (fun k H'=>Gt P fn.results.toList k H' fun m=>R (LU m) H') [] (fun k H'=>Gt P fn.results.toList k H' fun m=>R (LU m) H')):
  Ak P f a H R:=by
 intro w r;subst r;refine⟨j w,?_⟩;refine calls_of_wp p q ?_;rw[HD]at h;have n:At (a.toList++Ai1 (fn.ntmps-a.size) undef) {tmps:=a++AiJ (fn.ntmps-a.size) undef,defers:=[]}:=⟨by simp,rfl⟩;refine Code.wp_mono ?_ (Co c _ _ _ _ _ w n h);intro e a' i b;have fin:∀fr,At fr a'→d_ w i→(Gt P fn.results.toList fr i.heap fun m=>R (LU m) i.heap)→a'.defers=[]∧∃v,(results fn a'.tmps).run P i= .ok v i∧∃o,Ending.returned v= .returned o∧d_ w i∧R o i.heap:=by
  intro fr d b g;have⟨v,s,t⟩:=Fg (fn:=fn) (ds:=[]) (R:=fun v=>R v i.heap) ⟨d.tmps,d.defers⟩ g;exact⟨d.defers,v,s,v,rfl,b,t⟩
 cases e with
 | normal=>have⟨fr,d,b,g⟩:=b;exact fin fr d b g
 | ret=>have⟨fr,d,b,g⟩:=b;exact fin fr d b g
 | exit id=>have⟨fr,d,b,g⟩:=b;exact g.elim
 | goto l=>have⟨fr,d,b,g⟩:=b;exact g.elim
 | panic c=>exact b.elim
 | outgrown=>exact b.elim
section
variable{α:Type}{ps qs l:List α}{i j:Nat}{p q:α}
theorem lgL(h:ps[i]?=some p):(ps++qs)[i]?=some p:=by rw[YaG (O_.1 h).1];exact h
theorem lsL(h:ps[i]?=some p):(ps++qs).set i q=ps.set i q++qs:=Ycg _ _ (O_.1 h).1
theorem M_(ps l:List α)(j:Nat):(ps++l)[ps.length+j]?=l[j]? :=by
 rw[YaE (Ycn _ _)];congr 1;omega
theorem X'(ps l:List α)(j:Nat)(x:α):(ps++l).set (ps.length+j) x=ps++l.set j x:=by
 rw[Ycf _ _ (Ycn _ _)];congr 2;omega
theorem lgS(h:ps[i]?=some p):(ps.set i q)[i]?=some q:=YaA (O_.1 h).1
theorem lset(h:ps[i]?=some p):ps.set i p=ps:=by
 refine YaJ fun j=>?_;by_cases a:i=j
 ·subst a;rw[lgS h,h]
 ·rw[YaC a]
theorem Ep(ps l:List α):(ps++l)[ps.length]?=l[0]? :=M_ ps l 0
theorem Ru(ps l:List α)(x:α):(ps++l).set ps.length x=ps++l.set 0 x:=X' ps l 0 x
end
section
variable{B:Nat→Prop}{H0 H:Aa}{ps qs:List Pc}{e:x_}{b:Nat}{l:List v_}
theorem B_.lft(st:B_ B H0 H (ps++qs)):B_ B H0 H ps:=
 ⟨st.old,st.lt0,st.size,fun p a=>st.oks p (YbV _ a),fun p a=>st.rng p (YbV _ a),(YbX.1 st.dis).1⟩
theorem B_.subl(st:B_ B H0 H ps)(h:List.Sublist qs ps):B_ B H0 H qs:=
 ⟨st.old,st.lt0,st.size,fun p a=>st.oks p (h.subset a),fun p a=>st.rng p (h.subset a),st.dis.sublist h⟩
theorem Bw{P:w_}{t o:Nat}{cs:List v_}{K:Aa→Prop}(st:B_ B H0 H ps)(i:Nat)(j:(P.info? t).map (·.size)=some cs.length)(f:ps[i]?=some (pB e b l))(m:o+cs.length≤l.length)(n:cs.all (·.oneCell')=true)
  (k:∀H',B_ B H0 H' (ps.set i (pB e b (Ai l o cs)))→C_ (fun k=>k≠b) H H'→H'.size=H.size→K H'):CN P (Instr.storeAt t (.pointer (some ⟨b,o,none⟩)) (.agg cs.toArray)) H K:=by
 refine VC.stN j (st.at_ i f) m n ?_;intro H' g a c;exact k H' (st.upd i f (a.mono fun k d h=>d.2 h) _ g (fun k d=>.inl d) (fun k d=>by rw[c];exact(st.in_ i f d).2) (by omega)) a c
theorem WH{P:w_}{t o:Nat}{v:v_}{K:Aa→Prop}(st:B_ B H0 H ps)(i:Nat)(j:BW P t)(f:ps[i]?=some (pB e b l))(m:o<l.length)(n:v.oneCell'=true)
  (k:∀H',B_ B H0 H' (ps.set i (pB e b (l.set o v)))→C_ (fun k=>k≠b) H H'→H'.size=H.size→K H'):CN P (Instr.storeAt t (.pointer (some ⟨b,o,none⟩)) v) H K:=by
 refine VC.st1 j (st.at_ i f) m n ?_;intro H' g a c;exact k H' (st.upd i f (a.mono fun k d h=>d.2 h) _ g (fun k d=>.inl d) (fun k d=>by rw[c];exact(st.in_ i f d).2) (by omega)) a c
theorem AH{l cs:List v_}(h:cs.length=l.length):Ai l 0 cs=cs:=by unfold Ai;simp[h]
end
end Go.VC
namespace Go.Proofs.YtfbghcpdinlmcaaGreatDoor
open Go.VC Go.Lib
def bt(t:ByteArray)(i:Nat):Nat:=match t.data[i]? with
 | some b=>b.toNat
 | none=>256
section
variable{t:ByteArray}{i:Nat}
theorem Dl(h:i<t.size):∃b,t.data[i]?=some b∧bt t i=b.toNat∧bt t i<256:=by
 have a:i<t.data.size:=h;refine⟨t.data[i],Yag a,?_,?_⟩
 ·unfold bt;rw[Yag a]
 ·unfold bt;rw[Yag a];exact UInt8.toNat_lt _
theorem C6(h:¬i<t.size):bt t i=256:=by
 have a:¬i<t.data.size:=h;unfold bt;rw[Array.getElem?_eq_none (by omega)]
theorem D8(h:bt t i≠256):i<t.size:=by
 apply Classical.byContradiction;intro a;exact h (C6 a)
end
def D6(c:Nat):Option Nat:=if 48≤c∧c≤57 then some (c-48)else if 97≤c∧c≤102 then some (c-87)else none
theorem Ia{c v:Nat}(h:D6 c=some v):v<16:=by
 unfold D6 at h;split at h
 ·cases h;omega
 ·split at h
  ·cases h;omega
  ·cases h
def Ad5:ByteArray:=⟨#[48,49,50,51,52,53,54,55,56,57,97,98,99,100,101,102]⟩
theorem U9(c:Nat)(a:c<256):indexByte Ad5.data.toList (UInt8.ofNat c)=match D6 c with | some v=>(v:Int) | none=> -1:=by
 have:∀c:Fin 256,indexByte Ad5.data.toList (UInt8.ofNat c.1)=match D6 c.1 with | some v=>(v:Int) | none=> -1:=by decide+kernel
 exact this ⟨c,a⟩
def Hw(t:ByteArray)(i:Nat):Sum Nat (Nat×Nat):=
 if bt t i=256 then .inl i else if bt t i=110 then .inr (10,i+1)else if bt t i=114 then .inr (13,i+1)else if bt t i=116 then .inr (9,i+1)
 else if bt t i=120 then match D6 (bt t (i+1))with
  | none=>.inl (i+1)
  | some a=>match D6 (bt t (i+2))with
    | none=>.inl (i+2)
    | some b=>.inr (16*a+b,i+3)
 else if bt t i<32∨126<bt t i∨(48≤bt t i∧bt t i≤57)∨(97≤bt t i∧bt t i≤122)∨(65≤bt t i∧bt t i≤90)then .inl i else .inr (bt t i,i+1)
def B0(t s:ByteArray)(i:Nat):Sum Nat (Nat×Nat):=
 if bt t i=92 then Hw t (i+1)else if bt t i<32∨126<bt t i∨spB s (bt t i)=true then .inl i else .inr (bt t i,i+1)
def Hu(t:ByteArray)(lo j:Nat)(x:BitVec 256)(f:Nat→BitVec 256→Sum Nat (BitVec 256×Nat)):Sum Nat (BitVec 256×Nat):=
 if bt t j=45 then(match B0 t Cl (j+1)with
  | .inl e=>.inl e
  | .inr (hi,k)=>if hi<lo then .inl (j+1)else f k (x ||| AC lo hi))
 else f j (x ||| AC lo lo)
def Dj(t:ByteArray):Nat→Nat→BitVec 256→Sum Nat (BitVec 256×Nat)
 | 0,i,_=>.inl i
 | n+1,i,x=>if bt t i=93 then .inr (x,i+1)else match B0 t Cl i with
   | .inl e=>.inl e
   | .inr (lo,j)=>Hu t lo j x (Dj t n)
def IU(t:ByteArray)(i:Nat):Sum Nat (BitVec 256×Nat):=
 match Dj t (t.size+1) (if bt t i=94 then i+1 else i) 0#256 with
 | .inl e=>.inl e
 | .inr (x,k)=>.inr (if bt t i=94 then ~~~x else x,k)
def BE(t:ByteArray)(i:Nat):Sum Nat (BitVec 256×Nat):=
 if bt t i=46 then .inr (~~~(AC 10 10),i+1)else if bt t i=91 then IU t (i+1)else match B0 t DP i with
 | .inl e=>.inl e
 | .inr (b,k)=>.inr (AC b b,k)
theorem AcI{t:ByteArray}{i:Nat}{c j:Nat}(h:Hw t i= .inr (c,j)):c<256∧i<j∧j≤t.size:=by
 unfold Hw at h;split at h
 ·cases h
 ·rename_i f;have g:=D8 f;obtain⟨b,-,-,l⟩:=Dl g;split at h
  ·cases h;omega
  ·split at h
   ·cases h;omega
   ·split at h
    ·cases h;omega
    ·split at h
     ·split at h
      ·cases h
      ·rename_i a k;split at h
       ·cases h
       ·rename_i m d;cases h;have n:=Ia k;have o:=Ia d;have p:i+2<t.size:=D8 fun e=>by rw[e]at d;cases d
        omega
     ·split at h
      ·cases h
      ·cases h;omega
theorem Dp{t s:ByteArray}{i:Nat}{c j:Nat}(h:B0 t s i= .inr (c,j)):c<256∧i<j∧j≤t.size:=by
 unfold B0 at h;split at h
 ·have:=AcI h;omega
 ·split at h
  ·cases h
  ·rename_i a;cases h;have d:i<t.size:=D8 fun e=>a (.inr (.inl (by omega)));obtain⟨b,-,-,f⟩:=Dl d;omega
theorem Rz{t:ByteArray}:∀{n i:Nat} {x y:BitVec 256} {k:Nat},Dj t n i x= .inr (y,k)→i<k∧k≤t.size
 | 0,i,x,y,k,h=>by cases h
 | n+1,i,x,y,k,h=>by
   unfold Dj at h;split at h
   ·rename_i d;cases h;have a:i<t.size:=D8 fun e=>by omega
    omega
   ·split at h
    ·cases h
    ·rename_i lo j b;have:=Dp b;unfold Hu at h;split at h
     ·split at h
      ·cases h
      ·rename_i a f c;have:=Dp c;split at h
       ·cases h
       ·have:=Rz h;omega
     ·have:=Rz h;omega
theorem KE{t:ByteArray}{i:Nat}{y:BitVec 256}{k:Nat}(h:BE t i= .inr (y,k)):i<k∧k≤t.size:=by
 unfold BE at h;split at h
 ·rename_i d;cases h;have f:i<t.size:=D8 fun e=>by omega
  omega
 ·split at h
  ·unfold IU at h;split at h
   ·cases h
   ·rename_i x c a;cases h;have:=Rz a;split at this<;>omega
  ·split at h
   ·cases h
   ·rename_i b c a;cases h;have:=Dp a;omega
theorem Fw:prog.underlying 9=some .string:=rfl
abbrev rdL(t:ByteArray)(i:Nat):List v_:=[.string t,A_ i]
abbrev pRd(r:Nat)(t:ByteArray)(i:Nat):Pc:=pB 357 r (rdL t i)
def En(c i:Nat):v_:=.iface 68 (.agg #[A_ c,A_ i,.string ⟨#[]⟩])
theorem Jo{H:Aa}{r i:Nat}{t:ByteArray}(a:Q_ H r 357 (rdL t i)):BM prog 245 #[U_ r] H (.tuple #[.int .u8 (if bt t i=256 then 0 else(bt t i:Int)),.bool (decide (bt t i≠256))]):=by
 refine Ak.of_vc func245 rfl (call245 _) (Aq.lex rfl (by kernel_rfl) (f_ AI ?_));refine G_ (v:=A_ i) E_ (by rw[a.cell];rfl) trivial ?_;refine f_ Rf ?_;refine G_ (v:=.string t) ct9 (by rw[a.cell];rfl) trivial ?_;by_cases e:i<t.size
 ·have⟨b,f,c,g⟩:=Dl e;have d:decide ((i:Int)<(t.size:Int))=true:=e_;(conv=>whnf);rw[d];refine Aq.lex rfl (by kernel_rfl) (f_ Rf ?_);refine G_ (v:=.string t) ct9 (by rw[a.cell];rfl) trivial ?_;refine f_ AI ?_;refine G_ (v:=A_ i) E_ (by rw[a.cell];rfl) trivial ?_;refine DQ Fw rfl f ?_;(conv=>whnf);refine⟨?_,C_.refl _ _⟩;rw[D_ (by omega),e_,c]
 ·have c:=C6 e;have d:decide ((i:Int)<(t.size:Int))=false:=V_;(conv=>whnf);rw[d];(conv=>whnf);refine⟨?_,C_.refl _ _⟩;rw[F_ c,V_]
theorem D5{H:Aa}{r:Nat}{e:Nat}:Ca prog 246 #[U_ r,A_ e] H (fun _ _=>False) (fun x H'=>x=En 10 e∧H'=H):=by
 refine Ca.of_vc func246 rfl (call246 _) (Ax underlying68 rfl _ rfl [A_ 10,A_ e,.string ⟨#[]⟩] rfl ?_);(conv=>whnf);exact⟨rfl,rfl⟩
section
variable{α:Type}{ps:List α}{i:Nat}
theorem CB{p:α}(h:ps[i]?=some p):ps.set i p=ps:=by
 refine YaJ fun j=>?_;by_cases a:i=j
 ·subst a;rw[YaA (O_.1 h).1,h]
 ·rw[YaC a]
theorem Ip{p q:α}(h:ps[i]?=some p):(ps.set i q)[i]?=some q:=YaA (O_.1 h).1
end
section
variable{B:Nat→Prop}{H0 H:Aa}{ps:List Pc}
theorem AfB{k r i:Nat}{t:ByteArray}(s:t.size≤1152921504606846976)(st:B_ B H0 H ps)(d:ps[k]?=some (pRd r t i)):
  Ca prog 248 #[U_ r] H (fun v H'=>∃c:Nat,D6 (bt t i)=some c∧v= .int .u8 (c:Int)∧B_ B H0 H' (ps.set k (pRd r t (i+1))))
   (fun x H'=>D6 (bt t i)=none∧x=En 10 i∧B_ B H0 H' (ps.set k (pRd r t i))):=by
 refine Ca.of_vc func248 rfl (call248 _) (Aj.of (Ah (Jo (st.blk k d)) fun H1 g=>?_));have st1:=st.call g;by_cases f:bt t i=256
 ·rw[F_ f,V_];refine Aj.of (Ah (Ni Ad5 0 H1) fun H2 e=>?_);have a:=st1.call e;refine Bf.run (f_ AI ?_);refine lT (v:=A_ i) E_ ((a.blk k d).ce rfl) ?_;refine Aj.mk D5 (fun _ _ h=>h.elim) ?_;rintro _ _ ⟨rfl,rfl⟩;exact⟨by rw[f];rfl,rfl,by rw[CB d];exact a⟩
 ·have m:=D8 f;have⟨b,n,o,j⟩:=Dl m;rw[D_ f,e_];refine Aj.of (Ah (Ni Ad5 (bt t i) H1) fun H2 e=>?_);have a:=st1.call e;rw[U9 _ j];cases p:D6 (bt t i)with
  | none=>
    refine Bf.run (f_ AI ?_);refine lT (v:=A_ i) E_ ((a.blk k d).ce rfl) ?_;refine Aj.mk D5 (fun _ _ h=>h.elim) ?_;rintro _ _ ⟨rfl,rfl⟩;exact⟨rfl,rfl,by rw[CB d];exact a⟩
  | some c=>
    have u:=Ia p;have q:decide ((c:Int)<0)=false:=V_;refine Bf.run ?_;(conv=>whnf);rw[q];refine f_ AI ?_;refine lT (v:=A_ i) E_ ((a.blk k d).ce rfl) ?_;(conv=>whnf);rw[W_ (x:=(i:Int)+1) (by omega)];refine f_ AI (Bh a k E_ d (by simp) rfl fun H3 l=>?_);(conv=>whnf);rw[w8 (x:=(c:Int)) (by omega) (by omega)];(conv=>whnf);exact⟨c,rfl,rfl,l⟩
theorem Kw(b:EH H0)(a:B 0)(st:B_ B H0 H ps):EH H:=
 ⟨b.1.eq (st.old _ a),st.up a⟩
end
theorem or16{a b:Nat}(c:b<16):a*2^4 ||| b=16*a+b:=by
 have:=Nat.two_pow_add_eq_or_of_lt (i:=4) (b:=b) (by simpa using c) a;rw[Nat.mul_comm a,←this]
section
variable{B:Nat→Prop}{H0 H:Aa}{ps:List Pc}{k r i:Nat}
theorem Zk{t:ByteArray}(hE:EH H0)(K:B 0)(ht:t.size≤1152921504606846976)(st:B_ B H0 H ps)(g:ps[k]?=some (pRd r t i)):
  Ca prog 247 #[U_ r] H (fun v H'=>∃c j:Nat,Hw t i= .inr (c,j)∧v= .int .u8 (c:Int)∧B_ B H0 H' (ps.set k (pRd r t j)))
   (fun x H'=>∃e j:Nat,Hw t i= .inl e∧x=En 10 e∧B_ B H0 H' (ps.set k (pRd r t j))):=by
 refine Ca.of_vc func247 rfl (call247 _) (Aj.of (Ah (Jo (st.blk k g)) fun H1 L=>?_));have st1:=st.call L;by_cases A:bt t i=256
 ·rw[F_ A,V_];refine Bf.run ?_;(conv=>whnf);refine f_ AI ?_;refine lT (v:=A_ i) E_ ((st1.blk k g).ce rfl) ?_;refine Aj.mk D5 (fun _ _ h=>h.elim) ?_;rintro _ _ ⟨rfl,rfl⟩;exact⟨i,i,by unfold Hw;rw[F_ A],rfl,by rw[CB g];exact st1⟩
 have hi:=D8 A;have⟨b,a9,D,C⟩:=Dl hi;rw[D_ A,e_];obtain⟨c,M⟩:∃c,c=bt t i:=⟨_,rfl⟩;rw[←M]at A C ⊢;refine Bf.run (L_ (cs:=U2) AeV (Kw hE K st1).1 trivial ?_);(conv=>whnf);refine EN.mk [22] (fun n:Nat=>[A_ n]) (fun n H1=>n≤3∧(∀j,j<n→(IA j).1≠c)∧B_ B H0 H1 ps) (fun n _=>3-n) ?_ ?_
 ·(conv=>whnf);exact⟨0,rfl,by omega,fun j I=>by omega,st1⟩
 ·rintro n G N ⟨J,y,f⟩;refine AG.m2 (fun hz=>?_) (fun hz=>?_)
  ·have O:U2.toArray.extract (n*2) (n*2+2)= #[.int .u8 ((IA n).1:Int),.int .u8 ((IA n).2:Int)]:=by
    have:n=0∨n=1∨n=2:=by omega
    rcases this with rfl | rfl | rfl<;>rfl
   have P:(IA n).1=c→Hw t i= .inr ((IA n).2,i+1):=fun e=>by
    have:n=0∨n=1∨n=2:=by omega
    unfold Hw;rw[←M,D_ A];rcases this with rfl | rfl | rfl<;>(subst e;rfl)
   have ab:(IA n).1<256∧(IA n).2<256:=by
    have:n=0∨n=1∨n=2:=by omega
    rcases this with rfl | rfl | rfl<;>decide
   refine AgN Af2 AeU (by omega) (by omega) ?_;rw[U',O];generalize hl:(IA n).1=l at*;generalize (IA n).2=v at*;refine Am (.agg #[.int .u8 0,.int .u8 0]) [.int .u8 0,.int .u8 0] Af7 rfl ?_;intro p2 H2 Q R D S;have T:=f.box Q R D S;refine AN (cs:=[.int .u8 (l:Int),.int .u8 (v:Int)]) T ps.length rfl (by rw[YaE (I_ _),Ycm];rfl) (I_ _) rfl fun H3 s=>?_;rw[Ycf _ _ (I_ _),Ycm,Aw (by rfl)]at s;have C:Q_ H3 p2 335 [.int .u8 (l:Int),.int .u8 (v:Int)]:=s.blk ps.length (by rw[YaE (I_ _),Ycm];rfl);have E:(ps++[pB 335 p2 [.int .u8 (l:Int),.int .u8 (v:Int)]])[k]?=some (pRd r t i):=by
    rw[YaG (O_.1 g).1];exact g
   have F:∀{H':Aa} {q:Pc},B_ B H0 H' ((ps++[pB 335 p2 [.int .u8 (l:Int),.int .u8 (v:Int)]]).set k q)→B_ B H0 H' (ps.set k q):=fun h=>by
    rw[Ycg _ _ (O_.1 g).1]at h;exact⟨h.old,h.lt0,h.size,fun p g=>h.oks p (YbV _ g),fun p g=>h.rng p (YbV _ g),(YbX.1 h.dis).1⟩
   (conv=>whnf);try (refine Bf.run ?_)
   refine f_ We ?_;refine G_ (v:=.int .u8 (l:Int)) ct5 (by rw[C.cell];rfl) trivial ?_;by_cases U:l=c
   ·have d:((l:Int)==(c:Int))=true:=by rw[U];exact beq_self_eq_true _
    (conv=>whnf);rw[d];refine f_ AI ?_;refine lT (v:=A_ i) E_ ((s.blk k E).ce rfl) ?_;(conv=>whnf);rw[W_ (x:=(i:Int)+1) (by omega)];refine f_ AI (Bh s k E_ E (by simp) rfl fun H4 m=>?_);have V:Q_ H4 p2 335 [.int .u8 (l:Int),.int .u8 (v:Int)]:=m.blk ps.length (by
     rw[YaC (by have:=(O_.1 g).1;omega),YaE (I_ _),Ycm];rfl)
    refine f_ Wf ?_;refine G_ (v:=.int .u8 (v:Int)) ct5 (by rw[V.cell];rfl) trivial ?_;(conv=>whnf);exact⟨v,i+1,P U,rfl,F m⟩
   ·have d:((l:Int)==(c:Int))=false:=beq_eq_false_iff_ne.2 (by omega);(conv=>whnf);rw[d];(conv=>whnf);rw[P_ n (by omega)];refine⟨rfl,n+1,rfl,⟨by omega,fun j I=>?_,⟨s.old,s.lt0,s.size,fun p g=>s.oks p (YbV _ g),fun p g=>s.rng p (YbV _ g),(YbX.1 s.dis).1⟩⟩,by omega⟩;rcases Yck (Ycl I)with I | rfl
    ·exact y j I
    ·rw[hl];exact U
  ·obtain rfl:n=3:=by omega
   have n0:(110:Nat)≠c:=y 0 (by omega);have n1:(114:Nat)≠c:=y 1 (by omega);have n2:(116:Nat)≠c:=y 2 (by omega);have o:Hw t i=(if c=120 then match D6 (bt t (i+1))with
     | none=>.inl (i+1)
     | some a=>match D6 (bt t (i+2))with
       | none=>.inl (i+2)
       | some b=>.inr (16*a+b,i+3)
    else if c<32∨126<c∨(48≤c∧c≤57)∨(97≤c∧c≤122)∨(65≤c∧c≤90)then .inl i else .inr (c,i+1)):=by
    unfold Hw;rw[←M,D_ A,D_ (Ne.symm n0),D_ (Ne.symm n1),D_ (Ne.symm n2)]
   by_cases W:c=120
   ·rw[F_ W]at o;have d:((c:Int)==(120:Int))=true:=by rw[W];rfl
    (conv=>whnf);try (refine Bf.run ?_)
    (conv=>whnf);rw[d];refine f_ AI ?_;refine lT (v:=A_ i) E_ ((f.blk k g).ce rfl) ?_;(conv=>whnf);rw[W_ (x:=(i:Int)+1) (by omega)];refine f_ AI (Bh f k E_ g (by simp) rfl fun H4 m=>?_);have X:(ps.set k (pRd r t (i+1)))[k]?=some (pRd r t (i+1)):=Ip g;replace m:B_ B H0 H4 (ps.set k (pRd r t (i+1))):=m;refine Aj.mk (AfB ht m X) ?_ ?_
    ·rintro _ H5 ⟨a,Y,rfl,u⟩;have ae:=Ia Y;rw[Ycb]at u;have Z:(ps.set k (pRd r t (i+1+1)))[k]?=some (pRd r t (i+1+1)):=Ip g;refine AhS (b:=4) (by decide) (K5 (by omega)) (Aj.mk (AfB ht u Z) ?_ ?_)
     ·rintro _ H6 ⟨b2,z,rfl,w⟩;have a0:=Ia z;rw[Ycb]at w;refine vor (K5 (by omega)) (K5 (by omega)) ?_;rw[or16 a0];(conv=>whnf);exact⟨16*a+b2,i+3,by rw[o,Y];show(match D6 (bt t (i+1+1))with | none=>_ | some b=>_)=_;rw[z],rfl,w⟩
     ·rintro _ H6 ⟨J,rfl,w⟩;rw[Ycb]at w;exact⟨i+2,i+2,by rw[o,Y];show(match D6 (bt t (i+1+1))with | none=>_ | some b=>_)=_;rw[J],rfl,w⟩
    ·rintro _ H5 ⟨J,rfl,u⟩;rw[Ycb]at u;exact⟨i+1,i+1,by rw[o,J],rfl,u⟩
   ·rw[D_ W]at o;have d:((c:Int)==(120:Int))=false:=beq_eq_false_iff_ne.2 (by omega);(conv=>whnf);try (refine Bf.run ?_)
    (conv=>whnf);rw[d];clear d;refine Bf.run ?_;(conv=>whnf);by_cases a1:c<32
    ·skip
     have d:decide ((c:Int)<32)=true:=e_;(conv=>whnf);rw[d];clear d;(conv=>whnf);refine f_ AI ?_;refine lT (v:=A_ i) E_ ((f.blk k g).ce rfl) ?_;refine Aj.mk D5 (fun _ _ h=>h.elim) ?_;rintro _ _ ⟨rfl,rfl⟩;exact⟨i,i,by rw[o,F_ (by omega)],rfl,by rw[CB g];exact f⟩
    ·skip
     have d:decide ((c:Int)<32)=false:=V_;(conv=>whnf);rw[d];clear d;by_cases a2:126<c
     ·skip
      have d:decide ((c:Int)>126)=true:=e_;(conv=>whnf);rw[d];clear d;(conv=>whnf);refine f_ AI ?_;refine lT (v:=A_ i) E_ ((f.blk k g).ce rfl) ?_;refine Aj.mk D5 (fun _ _ h=>h.elim) ?_;rintro _ _ ⟨rfl,rfl⟩;exact⟨i,i,by rw[o,F_ (by omega)],rfl,by rw[CB g];exact f⟩
     ·skip
      have d:decide ((c:Int)>126)=false:=V_;(conv=>whnf);rw[d];clear d;by_cases a3:48≤c
      ·skip
       have d:decide ((c:Int)≥48)=true:=e_;(conv=>whnf);rw[d];clear d;by_cases a4:c≤57
       ·skip
        have d:decide ((c:Int)≤57)=true:=e_;(conv=>whnf);rw[d];clear d;(conv=>whnf);refine f_ AI ?_;refine lT (v:=A_ i) E_ ((f.blk k g).ce rfl) ?_;refine Aj.mk D5 (fun _ _ h=>h.elim) ?_;rintro _ _ ⟨rfl,rfl⟩;exact⟨i,i,by rw[o,F_ (by omega)],rfl,by rw[CB g];exact f⟩
       ·skip
        have d:decide ((c:Int)≤57)=false:=V_;(conv=>whnf);rw[d];clear d;by_cases a5:97≤c
        ·skip
         have d:decide ((c:Int)≥97)=true:=e_;(conv=>whnf);rw[d];clear d;by_cases a6:c≤122
         ·skip
          have d:decide ((c:Int)≤122)=true:=e_;(conv=>whnf);rw[d];clear d;(conv=>whnf);refine f_ AI ?_;refine lT (v:=A_ i) E_ ((f.blk k g).ce rfl) ?_;refine Aj.mk D5 (fun _ _ h=>h.elim) ?_;rintro _ _ ⟨rfl,rfl⟩;exact⟨i,i,by rw[o,F_ (by omega)],rfl,by rw[CB g];exact f⟩
         ·skip
          have d:decide ((c:Int)≤122)=false:=V_;(conv=>whnf);rw[d];clear d;have d:decide ((c:Int)≥65)=true:=e_;(conv=>whnf);rw[d];clear d;have d:decide ((c:Int)≤90)=false:=V_;(conv=>whnf);rw[d];clear d;(conv=>whnf);refine f_ AI ?_;refine lT (v:=A_ i) E_ ((f.blk k g).ce rfl) ?_;(conv=>whnf);rw[W_ (x:=(i:Int)+1) (by omega)];refine f_ AI (Bh f k E_ g (by simp) rfl fun H4 m=>?_);(conv=>whnf);exact⟨c,i+1,by rw[o,D_ (by omega)],rfl,m⟩
        ·skip
         have d:decide ((c:Int)≥97)=false:=V_;(conv=>whnf);rw[d];clear d;by_cases a7:65≤c
         ·skip
          have d:decide ((c:Int)≥65)=true:=e_;(conv=>whnf);rw[d];clear d;by_cases a8:c≤90
          ·skip
           have d:decide ((c:Int)≤90)=true:=e_;(conv=>whnf);rw[d];clear d;(conv=>whnf);refine f_ AI ?_;refine lT (v:=A_ i) E_ ((f.blk k g).ce rfl) ?_;refine Aj.mk D5 (fun _ _ h=>h.elim) ?_;rintro _ _ ⟨rfl,rfl⟩;exact⟨i,i,by rw[o,F_ (by omega)],rfl,by rw[CB g];exact f⟩
          ·skip
           have d:decide ((c:Int)≤90)=false:=V_;(conv=>whnf);rw[d];clear d;(conv=>whnf);refine f_ AI ?_;refine lT (v:=A_ i) E_ ((f.blk k g).ce rfl) ?_;(conv=>whnf);rw[W_ (x:=(i:Int)+1) (by omega)];refine f_ AI (Bh f k E_ g (by simp) rfl fun H4 m=>?_);(conv=>whnf);exact⟨c,i+1,by rw[o,D_ (by omega)],rfl,m⟩
         ·skip
          have d:decide ((c:Int)≥65)=false:=V_;(conv=>whnf);rw[d];clear d;(conv=>whnf);refine f_ AI ?_;refine lT (v:=A_ i) E_ ((f.blk k g).ce rfl) ?_;(conv=>whnf);rw[W_ (x:=(i:Int)+1) (by omega)];refine f_ AI (Bh f k E_ g (by simp) rfl fun H4 m=>?_);(conv=>whnf);exact⟨c,i+1,by rw[o,D_ (by omega)],rfl,m⟩
      ·skip
       have d:decide ((c:Int)≥48)=false:=V_;(conv=>whnf);rw[d];clear d;have d:decide ((c:Int)≥97)=false:=V_;(conv=>whnf);rw[d];clear d;have d:decide ((c:Int)≥65)=false:=V_;(conv=>whnf);rw[d];clear d;(conv=>whnf);refine f_ AI ?_;refine lT (v:=A_ i) E_ ((f.blk k g).ce rfl) ?_;(conv=>whnf);rw[W_ (x:=(i:Int)+1) (by omega)];refine f_ AI (Bh f k E_ g (by simp) rfl fun H4 m=>?_);(conv=>whnf);exact⟨c,i+1,by rw[o,D_ (by omega)],rfl,m⟩
theorem Ig{t s:ByteArray}(G:EH H0)(u:B 0)(I:t.size≤1152921504606846976)(st:B_ B H0 H ps)(d:ps[k]?=some (pRd r t i)):
  Ca prog 242 #[U_ r,.string s] H (fun v H'=>∃c j:Nat,B0 t s i= .inr (c,j)∧v= .int .u8 (c:Int)∧B_ B H0 H' (ps.set k (pRd r t j)))
   (fun x H'=>∃e j:Nat,B0 t s i= .inl e∧x=En 10 e∧B_ B H0 H' (ps.set k (pRd r t j))):=by
 refine Ca.of_vc func242 rfl (call242 _) (Aj.of (Ah (Jo (st.blk k d)) fun H1 w=>?_));have st1:=st.call w;by_cases p:bt t i=256
 ·rw[F_ p,V_];refine Bf.run ?_;(conv=>whnf);refine f_ AI ?_;refine lT (v:=A_ i) E_ ((st1.blk k d).ce rfl) ?_;refine Aj.mk D5 (fun _ _ h=>h.elim) ?_;rintro _ _ ⟨rfl,rfl⟩;exact⟨i,i,by unfold B0;rw[p,D_ (by decide),F_ (.inr (.inl (by decide)))],rfl,by rw[CB d];exact st1⟩
 have J:=D8 p;have⟨b,K,L,y⟩:=Dl J;rw[D_ p,e_];obtain⟨c,z⟩:∃c,c=bt t i:=⟨_,rfl⟩;rw[←z]at p y ⊢;by_cases n:c=92
 ·have f:((c:Int)==(92:Int))=true:=by rw[n];rfl
  have o:B0 t s i=Hw t (i+1):=by unfold B0;rw[←z,F_ n]
  (conv=>whnf);rw[f];refine f_ AI ?_;refine lT (v:=A_ i) E_ ((st1.blk k d).ce rfl) ?_;(conv=>whnf);rw[W_ (x:=(i:Int)+1) (by omega)];refine f_ AI (Bh st1 k E_ d (by simp) rfl fun H4 g=>?_);replace g:B_ B H0 H4 (ps.set k (pRd r t (i+1))):=g;have A:(ps.set k (pRd r t (i+1)))[k]?=some (pRd r t (i+1)):=Ip d;refine Aj.mk (Zk G u I g A) ?_ ?_
  ·rintro _ H5 ⟨a,j,C,rfl,l⟩;rw[Ycb]at l;(conv=>whnf);exact⟨a,j,by rw[o];exact C,rfl,l⟩
  ·rintro _ H5 ⟨e,j,C,rfl,l⟩;rw[Ycb]at l;exact⟨e,j,by rw[o];exact C,rfl,l⟩
 have M:((c:Int)==(92:Int))=false:=beq_eq_false_iff_ne.2 (by omega);have o:B0 t s i=if c<32∨126<c∨spB s c=true then .inl i else .inr (c,i+1):=by unfold B0;rw[←z,D_ n]
 (conv=>whnf);rw[M];refine Bf.run ?_;(conv=>whnf);by_cases E:c<32
 ·skip
  have f:decide ((c:Int)<32)=true:=e_;(conv=>whnf);rw[f];clear f;(conv=>whnf);refine f_ AI ?_;refine lT (v:=A_ i) E_ ((st1.blk k d).ce rfl) ?_;refine Aj.mk D5 (fun _ _ h=>h.elim) ?_;rintro _ _ ⟨rfl,rfl⟩;exact⟨i,i,by rw[o,F_ (by omega)],rfl,by rw[CB d];exact st1⟩
 ·skip
  have f:decide ((c:Int)<32)=false:=V_;(conv=>whnf);rw[f];clear f;by_cases F:126<c
  ·skip
   have f:decide ((c:Int)>126)=true:=e_;(conv=>whnf);rw[f];clear f;(conv=>whnf);refine f_ AI ?_;refine lT (v:=A_ i) E_ ((st1.blk k d).ce rfl) ?_;refine Aj.mk D5 (fun _ _ h=>h.elim) ?_;rintro _ _ ⟨rfl,rfl⟩;exact⟨i,i,by rw[o,F_ (by omega)],rfl,by rw[CB d];exact st1⟩
  ·skip
   have f:decide ((c:Int)>126)=false:=V_;(conv=>whnf);rw[f];clear f;refine Aj.of (Ah (Ni s c H1) fun H2 D=>?_);have m:=st1.call D;(conv=>whnf);rw[WG];cases q:spB s c with
   | true=>
     (conv=>whnf);refine f_ AI ?_;refine lT (v:=A_ i) E_ ((m.blk k d).ce rfl) ?_;refine Aj.mk D5 (fun _ _ h=>h.elim) ?_;rintro _ _ ⟨rfl,rfl⟩;exact⟨i,i,by rw[o,F_ (.inr (.inr q))],rfl,by rw[CB d];exact m⟩
   | false=>
     (conv=>whnf);refine f_ AI ?_;refine lT (v:=A_ i) E_ ((m.blk k d).ce rfl) ?_;(conv=>whnf);rw[W_ (x:=(i:Int)+1) (by omega)];refine f_ AI (Bh m k E_ d (by simp) rfl fun H4 g=>?_);(conv=>whnf);exact⟨c,i+1,by rw[o,D_ (by rw[q];simp;omega)],rfl,g⟩
end
def Bm(a:ReM):ReM:=.alt a .eps
def YS(q:Option ReM)(p:ReM):ReM:=match q with
 | none=>p
 | some q=>.cat q p
def BZ(a:ReM)(m:Nat):Nat→Option ReM
 | 0=>none
 | k+1=>some (YS (BZ a m k) (if k<m then a else Bm a))
def Cf(a:ReM)(m:Nat)(n:Int):ReM:=
 if n<0 then(if m=0 then .star a else .cat ((BZ a m m).getD .eps) (.star a))else if n=0 then .eps else(BZ a m n.toNat).getD .eps
structure AF where
 place:Int
 alt:Option ReM
 meet:Option ReM
 sign:Nat
 row:Option ReM
 factor:Option ReM
def A7(f:AF):AF:=match f.factor with
 | none=>f
 | some p=>{f with row:=some (YS f.row p),factor:=none}
def Cu(f:AF):AF:=
 let g:=A7 f
 let r:=g.row.getD .eps
 {g with meet:=some (match g.meet with | none=>r | some q=>if g.sign=38 then .and_ q r else .minus q r),row:=none}
def CH(f:AF):AF:=
 let g:=Cu f
 let r:=g.meet.getD .eps
 {g with alt:=some (match g.alt with | none=>r | some q=>.alt q r),meet:=none}
def EB(place:Int):AF:=⟨place,none,none,0,none,none⟩
def DU(t:ByteArray)(i:Nat):Bool:=decide (48≤bt t i∧bt t i≤57)
def BV(t:ByteArray):Nat→Nat→Nat→Nat×Nat
 | 0,i,v=>(v,i)
 | k+1,i,v=>if DU t i then BV t k (i+1) (10*v+(bt t i-48))else(v,i)
def upM(t:ByteArray)(m i:Nat):Sum (Nat×Nat) (Int×Nat):=
 if bt t i=44 then(if bt t (i+1)=125 then .inr (-1,i+1)else if DU t (i+1)then .inr (((BV t 3 (i+1) 0).1:Int),(BV t 3 (i+1) 0).2)else .inl (20,i+1))else .inr ((m:Int),i)
def F0(t:ByteArray)(from_ m:Nat)(n:Int)(i:Nat):Sum (Nat×Nat) (Nat×Int×Nat):=
 if bt t i=125 then(if 255<m∨255<n∨(0≤n∧n<(m:Int))then .inl (22,from_)else .inr (m,n,i+1))else .inl (20,i)
def Cc(t:ByteArray)(from_:Nat):Sum (Nat×Nat) (Nat×Int×Nat):=
 if DU t (from_+1)then(match upM t (BV t 3 (from_+1) 0).1 (BV t 3 (from_+1) 0).2 with
  | .inl e=>.inl e
  | .inr (n,i)=>F0 t from_ (BV t 3 (from_+1) 0).1 n i)
 else .inl (20,from_+1)
theorem GT{t:ByteArray}:∀(k i v:Nat),i≤(BV t k i v).2∧(BV t k i v).2≤i+k∧(i≤t.size→(BV t k i v).2≤t.size)
 | 0,i,v=>⟨I_ _,I_ _,fun h=>h⟩
 | k+1,i,v=>by
   unfold BV;split
   ·rename_i h;have⟨b,c,a⟩:=GT (t:=t) k (i+1) (10*v+(bt t i-48));unfold DU at h;have h:=of_decide_eq_true h;have d:i<t.size:=D8 (by omega);exact⟨by omega,by omega,fun _=>a (by omega)⟩
   ·exact⟨I_ _,by omega,fun h=>h⟩
theorem No{t:ByteArray}:∀(k i v:Nat),(BV t k i v).1<(v+1)*10^k
 | 0,i,v=>by unfold BV;simp
 | k+1,i,v=>by
   unfold BV;split
   ·rename_i h;unfold DU at h;have h:=of_decide_eq_true h;have a:=No (t:=t) k (i+1) (10*v+(bt t i-48));refine Ybu a ?_;rw[Nat.pow_succ,Nat.mul_comm (10^k) 10,←Nat.mul_assoc];exact Nat.mul_le_mul_right _ (by omega)
   ·show v<(v+1)*10^(k+1);have:1≤10^(k+1):=Nat.one_le_pow _ _ (by omega);have:=Nat.mul_le_mul (I_ (v+1)) this;omega
theorem Km{t:ByteArray}{p m j:Nat}{n:Int}(h:Cc t p= .inr (m,n,j)):p<j∧j≤t.size∧m≤255∧n≤255∧(0≤n→(m:Int)≤n)∧ -1≤n:=by
 unfold Cc at h;split at h
 ·obtain⟨e,f,-⟩:=GT (t:=t) 3 (p+1) 0;generalize BV t 3 (p+1) 0=q at h e f;split at h
  ·cases h
  ·rename_i g c a;have b:q.2≤c∧ -1≤g:=by
    unfold upM at a;split at a
    ·split at a
     ·cases a;exact⟨by omega,by omega⟩
     ·split at a
      ·obtain⟨i,k,-⟩:=GT (t:=t) 3 (q.2+1) 0;cases a;exact⟨by omega,by omega⟩
      ·cases a
    ·cases a;exact⟨I_ _,by omega⟩
   unfold F0 at h;split at h
   ·rename_i d;split at h
    ·cases h
    ·rename_i l;cases h;have:c<t.size:=D8 (by omega);refine⟨by omega,by omega,?_,?_,?_,b.2⟩<;>omega
   ·cases h
 ·cases h
def FF(c:Nat):Bool:=c==42|| c==43|| c==63|| c==123
def EL(t:ByteArray)(i:Nat):Sum (Nat×Nat) (Nat×Int×Nat):=
 if bt t i=42 then .inr (0,-1,i+1)else if bt t i=43 then .inr (1,-1,i+1)else if bt t i=63 then .inr (0,1,i+1)else Cc t i
structure RdS where
 i:Nat
 f:AF
 fs:List AF
def Cm(t:ByteArray)(s:RdS):Sum (Nat×Nat) RdS:=
 if FF (bt t s.i)then(match s.f.factor with
  | none=>.inl (20,s.i)
  | some a=>match EL t s.i with
    | .inl e=>.inl e
    | .inr (m,n,k)=>.inr ⟨k,{s.f with factor:=some (Cf a m n)},s.fs⟩)
 else if bt t s.i=124 then .inr ⟨s.i+1,CH s.f,s.fs⟩
 else if bt t s.i=38∨bt t s.i=45 then .inr ⟨s.i+1,{Cu s.f with sign:=bt t s.i},s.fs⟩
 else if bt t s.i=41 then(match s.fs with
  | []=>.inl (20,s.i)
  | g::r=>.inr ⟨s.i+1,{g with factor:=(CH s.f).alt},r⟩)
 else if bt t s.i=40 then(if 1000≤s.fs.length then .inl (23,s.i)else .inr ⟨s.i+1,EB s.i,A7 s.f::s.fs⟩)
 else match BE t s.i with
  | .inl e=>.inl (10,e)
  | .inr (x,k)=>.inr ⟨k,{A7 s.f with factor:=some (.cls x)},s.fs⟩
theorem Ts{t:ByteArray}{s c:RdS}(h:Cm t s= .inr c)(b:s.i<t.size):s.i<c.i∧c.i≤t.size:=by
 unfold Cm at h;split at h
 ·rename_i e;split at h
  ·cases h
  ·split at h
   ·cases h
   ·rename_i m n k a;cases h;unfold EL at a;split at a
    ·cases a;exact⟨Ycj _,b⟩
    ·split at a
     ·cases a;exact⟨Ycj _,b⟩
     ·split at a
      ·cases a;exact⟨Ycj _,b⟩
      ·have:=Km a;exact⟨this.1,this.2.1⟩
 ·split at h
  ·cases h;exact⟨Ycj _,b⟩
  ·split at h
   ·cases h;exact⟨Ycj _,b⟩
   ·split at h
    ·split at h
     ·cases h
     ·cases h;exact⟨Ycj _,b⟩
    ·split at h
     ·split at h
      ·cases h
      ·cases h;exact⟨Ycj _,b⟩
     ·split at h
      ·cases h
      ·rename_i x k d;cases h;exact KE d
def XE(s:RdS):Sum (Nat×Int) ReM:=match s.fs with
 | []=>let r:=(CH s.f).alt.getD .eps;if 2000<r.nodes then .inl (24,0)else .inr r
 | _::_=>.inl (21,s.f.place)
def ZI(e:Nat×Nat):Nat×Int:=(e.1,(e.2:Int))
def HF(t:ByteArray):Nat→RdS→Sum (Nat×Int) ReM
 | 0,s=>XE s
 | n+1,s=>if s.i<t.size then(match Cm t s with
   | .inl e=>.inl (ZI e)
   | .inr s'=>HF t n s')else XE s
def Cb(t:ByteArray)(s:RdS):Sum (Nat×Int) ReM:=HF t (t.size-s.i) s
theorem FU{t:ByteArray}:∀(n m:Nat) (s:RdS),t.size-s.i≤n→t.size-s.i≤m→HF t n s=HF t m s
 | 0,0,s,_,_=>rfl
 | 0,m+1,s,h,_=>by unfold HF;rw[D_ (by omega)]
 | n+1,0,s,_,h=>by unfold HF;rw[D_ (by omega)]
 | n+1,m+1,s,h1,h2=>by
   unfold HF;by_cases a:s.i<t.size
   ·rw[F_ a,F_ a];cases hs:Cm t s with
    | inl e=>rfl
    | inr b=>
      have:=Ts hs a;exact FU n m b (by omega) (by omega)
   ·rw[D_ a,D_ a]
section
variable{t:ByteArray}
theorem Ey{s a:RdS}(b:s.i<t.size)(h:Cm t s= .inr a):Cb t s=Cb t a:=by
 have c:=Ts h b;have e:Cb t s=HF t (t.size-s.i-1+1) s:=FU _ _ _ (I_ _) (by omega);rw[e,HF,F_ b,h];exact FU _ _ _ (by omega) (I_ _)
theorem EE{s:RdS}{e:Nat×Nat}(a:s.i<t.size)(h:Cm t s= .inl e):Cb t s= .inl (ZI e):=by
 have b:Cb t s=HF t (t.size-s.i-1+1) s:=FU _ _ _ (I_ _) (by omega);rw[b,HF,F_ a,h]
theorem O8{s:RdS}(a:¬s.i<t.size):Cb t s=XE s:=by
 unfold Cb;rw[show t.size-s.i=0 by omega];rfl
end
def CY(t:ByteArray):Sum (Nat×Int) ReM:=if 1048576<t.size then .inl (1,0)else Cb t ⟨0,EB (-1),[]⟩
inductive RwM
 | eps
 | cls (s:BitVec 256)
 | cat (a b:RwM)
 | alt (a b:RwM)
 | and_ (a b:RwM)
 | minus (a b:RwM)
 | rep (a:RwM) (m n:Int)
def AS(m:Int):Nat:=if m= -2 then 1 else m.toNat
def RwM.den:RwM→ReM
 | .eps=>.eps
 | .cls s=>.cls s
 | .cat a b=>.cat a.den b.den
 | .alt a b=>.alt a.den b.den
 | .and_ a b=>.and_ a.den b.den
 | .minus a b=>.minus a.den b.den
 | .rep a m n=>Cf a.den (AS m) n
def AA(op x y:Int):p_:=⟨op,0#256,x,y,0,0⟩
def DG(s:BitVec 256):p_:=⟨1,s,0,0,0,0⟩
def BY(x m n:Int):p_:=⟨7,0#256,x,0,m,n⟩
def V4(m n:Int):Prop:=(m= -2∧n= -1)∨(0≤m∧m≤255∧ -1≤n∧n≤255∧(0≤n→m≤n))
def N0(ws:List RwM)(d:p_):RwM→Prop
 | .eps=>d=AA 0 0 0
 | .cls s=>d=DG s
 | .cat a b=>∃j k:Nat,d=AA 2 j k∧ws[j]?=some a∧ws[k]?=some b
 | .alt a b=>∃j k:Nat,d=AA 3 j k∧ws[j]?=some a∧ws[k]?=some b
 | .and_ a b=>∃j k:Nat,d=AA 5 j k∧ws[j]?=some a∧ws[k]?=some b
 | .minus a b=>∃j k:Nat,d=AA 6 j k∧ws[j]?=some a∧ws[k]?=some b
 | .rep a m n=>∃j:Nat,d=BY j m n∧ws[j]?=some a∧V4 m n
inductive Raw:List p_→List RwM→Prop
 | nil:Raw [] []
 | add {ds:List p_} {ws:List RwM} {d:p_} {w:RwM}:Raw ds ws→N0 ws d w→Raw (ds++[d]) (ws++[w])
theorem Raw.len{ds:List p_}{a:List RwM}(h:Raw ds a):ds.length=a.length:=by
 induction h with
 | nil=>rfl
 | add _ _ b=>simp[b]
theorem N0.more{c us:List RwM}{d:p_}:∀{w:RwM},N0 c d w→N0 (c++us) d w
 | .eps,h=>h
 | .cls s,h=>h
 | .cat a b,⟨j,k,h1,h2,h3⟩=>⟨j,k,h1,HA h2,HA h3⟩
 | .alt a b,⟨j,k,h1,h2,h3⟩=>⟨j,k,h1,HA h2,HA h3⟩
 | .and_ a b,⟨j,k,h1,h2,h3⟩=>⟨j,k,h1,HA h2,HA h3⟩
 | .minus a b,⟨j,k,h1,h2,h3⟩=>⟨j,k,h1,HA h2,HA h3⟩
 | .rep a m n,⟨j,h1,h2,h3⟩=>⟨j,h1,HA h2,h3⟩
theorem Z7{α:Type}{l:List α}{x y:α}{i:Nat}(h:(l++[x])[i]?=some y):l[i]?=some y∨(i=l.length∧y=x):=by
 by_cases a:i<l.length
 ·rw[YaG a]at h;exact .inl h
 ·rw[YaE (by omega)]at h;have:i-l.length=0:=by
   have:=(O_.1 h).1;simp at this;omega
  rw[this]at h;exact .inr ⟨by omega,by simpa using h.symm⟩
section
variable{ds:List p_}{a:List RwM}
theorem Raw.at_(h:Raw ds a):∀{i:Nat} {w:RwM},a[i]?=some w→∃d b vs,ds[i]?=some d∧a=b++vs∧b.length=i∧N0 b d w:=by
 induction h with
 | nil=>intro i w c;cases c
 | @add ds a d w h1 h2 ih=>
   intro i e c;rcases Z7 c with c | ⟨rfl,rfl⟩
   ·obtain⟨d',b,vs,f,rfl,g,j⟩:=ih c;exact⟨d',b,vs++[w],HA f,by simp,g,j⟩
   ·refine⟨d,a,[e],?_,rfl,rfl,h2⟩;rw[←h1.len];simp
theorem Raw.at2(h:Raw ds a){i:Nat}{w:RwM}(b:a[i]?=some w):∃d,ds[i]?=some d∧N0 a d w:=by
 obtain⟨d,f,vs,c,rfl,-,e⟩:=h.at_ b;exact⟨d,c,e.more⟩
end
structure C' where
 place:Int
 alt:Int
 meet:Int
 sign:Nat
 row:Int
 factor:Int
def frL(f:C'):List v_:=[A_ f.place,A_ f.alt,A_ f.meet,.int .u8 (f.sign:Int),A_ f.row,A_ f.factor]
def tFr:Ty C' where
 size:=6
 rep _ _ cs d:=cs=frL d
 len h:=by rw[h];rfl
 frame h _:=h
 mono h _:=h
theorem Wh(d:C'):(frL d).all (·.oneCell')=true:=rfl
def IxR(ws:List RwM)(x:Int):Option ReM→Prop
 | none=>x= -1
 | some r=>∃(j:Nat) (w:RwM),x=(j:Int)∧ws[j]?=some w∧w.den=r
structure FrR(ws:List RwM)(f:C')(a:AF):Prop where
 place:f.place=a.place
 alt:IxR ws f.alt a.alt
 meet:IxR ws f.meet a.meet
 sign:f.sign=a.sign
 row:IxR ws f.row a.row
 factor:IxR ws f.factor a.factor
theorem IxR.more{a us:List RwM}{x:Int}:∀{o:Option ReM},IxR a x o→IxR (a++us) x o
 | none,h=>h
 | some r,⟨j,w,h1,h2,h3⟩=>⟨j,w,h1,HA h2,h3⟩
theorem FrR.more{b us:List RwM}{f:C'}{a:AF}(h:FrR b f a):FrR (b++us) f a:=⟨h.place,h.alt.more,h.meet.more,h.sign,h.row.more,h.factor.more⟩
theorem IxR.neg{a:List RwM}{x:Int}{o:Option ReM}(h:IxR a x o):x<0↔o=none:=by
 cases o with
 | none=>exact⟨fun _=>rfl,fun _=>by rw[show x= -1 from h];decide⟩
 | some r=>
   obtain⟨j,w,rfl,-⟩:=h;exact⟨fun h=>absurd h (by omega),fun h=>by cases h⟩
theorem IxR.new{ds:List p_}{a:List RwM}{w:RwM}{r:ReM}(h:Raw ds a)(b:w.den=r):IxR (a++[w]) (ds.length:Int) (some r):=⟨ds.length,w,rfl,by rw[h.len];simp,b⟩
def Bl(ds:List p_)(f:C'):List p_×C':=
 if f.factor<0 then(ds,f)else if f.row<0 then(ds,{f with row:=f.factor,factor:= -1})else(ds++[AA 2 f.row f.factor],{f with row:=ds.length,factor:= -1})
def CW(ds:List p_)(f:C'):List p_×C':=if f.row<0 then(ds++[AA 0 0 0],{f with row:=ds.length})else(ds,f)
def EJ(ds:List p_)(f:C'):List p_×C':=
 if f.meet<0 then(ds,{f with meet:=f.row,row:= -1})else(ds++[AA (if f.sign=38 then 5 else 6) f.meet f.row],{f with meet:=ds.length,row:= -1})
def CZ(ds:List p_)(f:C'):List p_×C':=EJ (CW (Bl ds f).1 (Bl ds f).2).1 (CW (Bl ds f).1 (Bl ds f).2).2
def Sf(ds:List p_)(f:C'):List p_×C':=
 if f.alt<0 then(ds,{f with alt:=f.meet,meet:= -1})else(ds++[AA 3 f.alt f.meet],{f with alt:=ds.length,meet:= -1})
def El(ds:List p_)(f:C'):List p_×C':=Sf (CZ ds f).1 (CZ ds f).2
theorem GY(ds:List p_)(f:C'):(Bl ds f).1.length≤ds.length+1:=by
 unfold Bl;split;· simp
 split<;>simp
theorem NQ(ds:List p_)(f:C'):(CW ds f).1.length≤ds.length+1:=by unfold CW;split<;>simp
theorem Xz(ds:List p_)(f:C'):(EJ ds f).1.length≤ds.length+1:=by unfold EJ;split<;>simp
theorem Y8(ds:List p_)(f:C'):(Sf ds f).1.length≤ds.length+1:=by unfold Sf;split<;>simp
theorem JP(ds:List p_)(f:C'):(CZ ds f).1.length≤ds.length+3:=by
 unfold CZ;have a:=GY ds f;have b:=NQ (Bl ds f).1 (Bl ds f).2;have c:=Xz (CW (Bl ds f).1 (Bl ds f).2).1 (CW (Bl ds f).1 (Bl ds f).2).2;omega
theorem Ko(ds:List p_)(f:C'):(El ds f).1.length≤ds.length+4:=by
 unfold El;have a:=JP ds f;have b:=Y8 (CZ ds f).1 (CZ ds f).2;omega
structure Q7(ws:List RwM)(q:List p_×C')(a:AF):Prop where
 ex:∃us,Raw q.1 (ws++us)∧FrR (ws++us) q.2 a
theorem Q7.then_{c:List RwM}{q d:List p_×C'}{a a':AF}(h:Q7 c q a)(k:∀b,Raw q.1 b→FrR b q.2 a→Q7 b d a'):Q7 c d a':=by
 have⟨j,g,i⟩:=h;have⟨vs,e,f⟩:=k _ g i;rw[YaN]at e f;exact⟨_,e,f⟩
section
variable{ds:List p_}
theorem M0{b:List RwM}{f:C'}{a:AF}(h:Raw ds b)(g:FrR b f a):Q7 b (Bl ds f) (A7 a):=by
 unfold Bl A7;cases c:a.factor with
 | none=>
   rw[F_ (g.factor.neg.2 c)];exact⟨[],by simpa using h,by simpa using g⟩
 | some p=>
   rw[D_ (fun e=>by have:=g.factor.neg.1 e;rw[c]at this;cases this)];have d:=g.factor;rw[c]at d;cases i:a.row with
   | none=>
     rw[F_ (g.row.neg.2 i)];exact⟨[],by simpa using h,by simpa using⟨g.place,g.alt,g.meet,g.sign,d,rfl⟩⟩
   | some q=>
     rw[D_ (fun e=>by have:=g.row.neg.1 e;rw[i]at this;cases this)];have l:=g.row;rw[i]at l;have⟨j,w,m,e2,n⟩:=l;have⟨k,v,o,r,s⟩:=d;refine⟨[.cat w v],h.add ⟨j,k,by rw[m,o],e2,r⟩,⟨g.place,g.alt.more,g.meet.more,g.sign,?_,rfl⟩⟩;exact IxR.new h (by rw[←n,←s];rfl)
theorem LB{n:List RwM}{f:C'}{a:AF}(h:Raw ds n)(g:FrR n f a):Q7 n (CZ ds f) (Cu a):=by
 refine(M0 h g).then_ fun o p g1=>?_;unfold CZ;generalize Bl ds f=F at*;have⟨l,z⟩:=F;have G:Q7 o (CW l z) {A7 a with row:=some ((A7 a).row.getD .eps)}:=by
  unfold CW;cases r:(A7 a).row with
  | none=>
    rw[F_ (g1.row.neg.2 r)];exact⟨[.eps],p.add rfl,⟨g1.place,g1.alt.more,g1.meet.more,g1.sign,IxR.new p rfl,g1.factor.more⟩⟩
  | some q=>
    rw[D_ (fun e=>by have:=g1.row.neg.1 e;rw[r]at this;cases this)];have A:=g1.row;rw[r]at A;exact⟨[],by simpa using p,by simpa using⟨g1.place,g1.alt,g1.meet,g1.sign,A,g1.factor⟩⟩
 refine G.then_ fun d s g2=>?_;generalize CW l z=H at*;have⟨m,c⟩:=H;have⟨j,w,t,e2,u⟩:=g2.row;unfold EJ;cases i:(A7 a).meet with
 | none=>
   rw[F_ (g2.meet.neg.2 i)];refine⟨[],by simpa using s,?_⟩;rw[YaX];refine⟨g2.place,g2.alt,?_,g2.sign,rfl,g2.factor⟩;show IxR d c.row (some (match(A7 a).meet with | none=>_ | some q=>_));rw[i];exact⟨j,w,t,e2,u⟩
 | some q=>
   rw[D_ (fun e=>by have:=g2.meet.neg.1 e;rw[show({A7 a with row:=some ((A7 a).row.getD .eps)}:AF).meet=(A7 a).meet from rfl,i]at this;cases this)];have B:=g2.meet;rw[show({A7 a with row:=some ((A7 a).row.getD .eps)}:AF).meet=(A7 a).meet from rfl,i]at B;have⟨k,v,C,D,E⟩:=B;have hs:c.sign=(A7 a).sign:=g2.sign;have fin:∀(x:RwM) (op:Int),N0 d (AA op c.meet c.row) x→some x.den=(Cu a).meet→Q7 d (m++[AA op c.meet c.row],{c with meet:=(m.length:Int),row:= -1}) (Cu a):=fun x op I y=>
    ⟨[x],s.add I,⟨g2.place,g2.alt.more,by show IxR _ _ (Cu a).meet;rw[←y];exact IxR.new s rfl,g2.sign,rfl,g2.factor.more⟩⟩
   by_cases b:c.sign=38
   ·rw[F_ b];refine fin (.and_ v w) 5 ⟨k,j,by rw[t,C],D,e2⟩ ?_;show some (ReM.and_ v.den w.den)=some (match(A7 a).meet with | none=>_ | some q=>_);rw[i];show _=some (if(A7 a).sign=38 then _ else _);rw[F_ (by rw[←hs];exact b),u,E]
   ·rw[D_ b];refine fin (.minus v w) 6 ⟨k,j,by rw[t,C],D,e2⟩ ?_;show some (ReM.minus v.den w.den)=some (match(A7 a).meet with | none=>_ | some q=>_);rw[i];show _=some (if(A7 a).sign=38 then _ else _);rw[D_ (by rw[←hs];exact b),u,E]
theorem Kp{c:List RwM}{f:C'}{a:AF}(h:Raw ds c)(g:FrR c f a):Q7 c (El ds f) (CH a):=by
 refine(LB h g).then_ fun d i g2=>?_;unfold El;generalize CZ ds f=r at*;have⟨s,t⟩:=r;have m:=g2.meet;have l:(Cu a).meet=some ((Cu a).meet.getD .eps):=rfl;rw[l]at m;have⟨j,w,n,e2,o⟩:=m;unfold Sf;cases b:(Cu a).alt with
 | none=>
   rw[F_ (g2.alt.neg.2 b)];refine⟨[],by simpa using i,?_⟩;rw[YaX];refine⟨g2.place,?_,rfl,g2.sign,g2.row,g2.factor⟩;show IxR d t.meet (some (match(Cu a).alt with | none=>_ | some q=>_));rw[b];exact⟨j,w,n,e2,o⟩
 | some q=>
   rw[D_ (fun e=>by have:=g2.alt.neg.1 e;rw[b]at this;cases this)];have p:=g2.alt;rw[b]at p;have⟨k,v,u,x,y⟩:=p;refine⟨[.alt v w],i.add ⟨k,j,by rw[n,u],x,e2⟩,⟨g2.place,?_,rfl,g2.sign,g2.row.more,g2.factor.more⟩⟩;show IxR _ _ (some (match(Cu a).alt with | none=>_ | some q=>_));rw[b];exact IxR.new i (by show ReM.alt v.den w.den=_;rw[o,y])
end
section
variable{B:Nat→Prop}{H0 H:Aa}{rest:List Pc}{bb n:Nat}{v:v_}
end
abbrev tRe:x_:=56
section
variable{B:Nat→Prop}{H0 H:Aa}{rest:List Pc}{bb:Nat}
end
theorem MD:(prog.info? 56).bind (·.zero)=some (.agg #[.slice none 0 0,A_ 0]):=rfl
abbrev s_:List v_:=[.slice none 0 0,A_ 0]
end Go.Proofs.YtfbghcpdinlmcaaGreatDoor
namespace Go.VC
section
variable{α:Type}{T:Ty α}{B:Nat→Prop}{H0 H:Aa}{ps:List Pc}{e:x_}{b n cap:Nat}{xs:List α}
theorem B_.cellsE{j:Nat}{x:α}(st:B_ B H0 H ps)(i:Nat)(d:ps[i]?=some (pS T e (T_ b) n cap xs))(a:xs[j]?=some x):∃c,Be H b (j*T.size) c∧T.rep none_ H c x:=by
 have f:=(O_.1 a).1;obtain⟨-,-,-,l,-,-,h,-⟩:=(st.at_ i d).1.placeS f;exact h x a
theorem B_.ltE(st:B_ B H0 H ps)(i:Nat)(a:ps[i]?=some (pS T e (T_ b) n cap xs)):b<H.size:=(st.in_ i a (.inl ⟨0,n,cap,rfl⟩)).2
theorem ixE{P:w_}{t by_ j:Nat}{z:v_}{k:IntKind}{c:Int}{S0:Nat→Prop}{H2:Aa}{K:v_→Prop}(d:SlT P t e T.size by_ z)(st:B_ B H0 H ps)(i:Nat)(f:ps[i]?=some (pS T e (T_ b) n cap xs))
  (h:j<xs.length) (a:c=(j:Int)) (g:K (.pointer (some ⟨b,j*T.size,none⟩))):AJ P (Instr.indexAt t (.slice (T_ b) n cap) (.int k c)) S0 H2 K:=by
 have l:=st.len i f;exact ix d (by omega) (by omega) (by rw[a,U',K_];exact g)
theorem st1E{P:w_}{t j k:Nat}{v:v_}{x x':α}{K:Aa→Prop}(st:B_ B H0 H ps)(i:Nat)(M:BW P t)(z:ps[i]?=some (pS T e (T_ b) n cap xs))(I:xs[j]?=some x)(S:k<T.size)(N:v.oneCell'=true)
  (O:∀H' c,T.rep none_ H' c x→T.rep none_ H' (c.set k v) x') (Q:∀H',B_ B H0 H' (ps.set i (pS T e (T_ b) n cap (xs.set j x')))→C_ (fun q=>q≠b) H H'→K H'):
  CN P (Instr.storeAt t (.pointer (some ⟨b,j*T.size+k,none⟩)) v) H K:=by
 have R:=(O_.1 I).1;have h:=st.at_ i z;obtain⟨-,-,-,l,a,o,A,p⟩:=h.1.placeS R;have⟨c,A,d⟩:=A x I;have r:=T.len d;refine VC.st1 M a (by omega) N ?_;intro H' C s D;have u:C_ none_ H H':=fun q f=>f.elim;have g:=O H' c (T.frame d u);have w:=p H' (c.set k v) x' (by
  have:Ai l (j*T.size) (c.set k v)=l.set (j*T.size+k) v:=by
   apply YaJ;intro m;rw[Ds (by rw[YaH,r];exact o),YaH,r];by_cases J:j*T.size≤m∧m<j*T.size+T.size
   ·rw[F_ J];have y:m-j*T.size<c.length:=by omega
    have E:(c[m-j*T.size]?)=l[m]? :=by
     have L:=A (m-j*T.size) _ (N' y);rw[show j*T.size+(m-j*T.size)=m by omega,a.cell]at L;rw[N' y,L]
    by_cases F:m=j*T.size+k
    ·subst F;rw[show j*T.size+k-j*T.size=k by omega,YaA (by omega),YaA (by omega)]
    ·rw[YaC (by omega),YaC (by omega),E]
   ·rw[D_ J,YaC (by omega)]
  rw[this];exact C) u g
 exact Q H' (st.upd i z (s.mono fun q f G=>f.2 (.inl (by subst G;exact⟨0,n,cap,rfl⟩))) _ ⟨w,h.2⟩ (fun q f=>.inl f) (fun q f=>by rw[D];exact(st.in_ i z f).2) (by omega)) s
end
end Go.VC
namespace Go.Proofs.YtfbghcpdinlmcaaGreatDoor
open Go.VC Go.Lib
abbrev tSt:x_:=148
abbrev stP(sb fb:Nat)(na:Option Addr)(nc fc n:Nat)(ds:List p_)(frs:List C')(rest:List Pc):List Pc:=
 pB tSt sb [.slice na ds.length nc,.slice (T_ fb) n fc]::pS tRn 159 na ds.length nc ds::pS tFr 150 (T_ fb) n fc frs::rest
structure Dst(B:Nat→Prop)(H0 H:Aa)(sb fb:Nat)(ds:List p_)(frs:List C')(rest:List Pc):Prop where
 ex:∃na nc fc n,B_ B H0 H (stP sb fb na nc fc n ds frs rest)
def AO(x:Int):Prop:= -4294967296<x∧x<4294967296
theorem BP{x:Int}(h:AO x):J' .i64 x:=by
 unfold AO at h;unfold J';show(-9223372036854775808:Int)≤x∧x≤9223372036854775807;omega
theorem YF{op x y:Int}(a:AO op)(b:AO x)(c:AO y):(AA op x y).Ok:=⟨BP a,BP b,BP c,BP (x:=0) (by unfold AO;omega),BP (x:=0) (by unfold AO;omega)⟩
section
variable{B:Nat→Prop}{H0 H:Aa}{sb fb nc fc n:Nat}{na:Option Addr}{ds:List p_}{frs:List C'}{rest:List Pc}
theorem Ku{op x y:Int}(st:B_ B H0 H (stP sb fb na nc fc n ds frs rest))(q:AO op)(r:AO x)(s:AO y)(I:ds.length≤16777216):
  Ak prog 133 #[U_ sb,A_ op,A_ x,A_ y] H
   (fun v H'=>v= .int .i64 (ds.length:Int)∧C_ (fun k=>k=fb) H H'∧∃d f,B_ B H0 H' (stP sb fb d f fc n (ds++[AA op x y]) frs rest)):=by
 have t:fb≠sb:=fun e=>st.apart2 (i:=0) (j:=2) rfl rfl (by decide) sb rfl (.inl ⟨0,n,fc,by rw[e]⟩);have w:¬a_ (.slice na ds.length nc) fb:=fun e=>st.apart2 (i:=1) (j:=2) rfl rfl (by decide) fb (.inl e) (.inl ⟨0,n,fc,rfl⟩);have J:fb<H.size:=st.ltE 2 rfl;refine Ak.of_vc func133 rfl (call133 _) (f_ Cq ?_);refine lT (v:=.slice na ds.length nc) DZ ((st.blk 0 rfl).ce rfl) ?_;refine Qj op x y (Ay EZ (X_ (AA op x y)) rfl (AV _) (by decide) (by decide) ?_);intro z H1 g A h b;have st1:=st.skip g b;refine Kj (ys:=[AA op x y]) st1 1 EZ rfl (h.cells (o:=0) (cs:=X_ (AA op x y)) fun j v C=>by rw[K_];exact C) (Ty.reps_one ⟨rfl,YF q r s⟩) rfl (fun u D=>Ybl.1 (CP _) u D) (by simp[maxLen];omega) (by simp;omega) fun m p H9 c l=>?_;have E:ds.length+[AA op x y].length=(ds++[AA op x y]).length:=by simp
 rw[E]at c ⊢;refine f_ Cq (WH c 0 DZ rfl (show 0<2 by decide) rfl fun H10 a F K=>(f_ Cq ?_));refine lT (v:=.slice m (ds++[AA op x y]).length p) DZ ((a.blk 0 rfl).ce rfl) ?_;have G:IntKind.wrap .i64 (((ds++[AA op x y]).length:Int)-1)=(ds.length:Int):=by
  rw[J_,h_,w64 (by omega) (by omega)];omega
 (conv=>whnf);rw[G];(conv=>whnf);refine⟨rfl,?_,m,p,a⟩;rintro k rfl;rw[F _ t,l _ ⟨by have:z=H.size:=g;omega,w⟩,b _ (by have:z=H.size:=g;omega)]
theorem Bo{fr:List C'}{f:C'}{k:Nat}{v:v_}(st:B_ B H0 H (stP sb fb na nc fc n ds (fr++[f]) rest))(a:(frL f)[k]?=some v):cell H fb (fr.length*tFr.size+k)=some v:=by
 obtain⟨c,b,rfl⟩:=st.cellsE 2 rfl (x:=f) (j:=fr.length) (by simp);exact b k v a
theorem Wg{fr:List C'}{f:C'}(st:B_ B H0 H (stP sb fb na nc fc n ds (fr++[f]) rest)):n=fr.length+1:=by
 have:=st.len 2 rfl;rw[this];simp
theorem EG{t k:Nat}{v:v_}{fr:List C'}{f f':C'}{K:Aa→Prop}(st:B_ B H0 H (stP sb fb na nc fc n ds (fr++[f]) rest))(b:BW prog t)(d:k<6)(e:v.oneCell'=true)(g:(frL f).set k v=frL f')
  (h:∀H',B_ B H0 H' (stP sb fb na nc fc n ds (fr++[f']) rest)→C_ (fun q=>q≠fb) H H'→K H'):CN prog (Instr.storeAt t (.pointer (some ⟨fb,fr.length*tFr.size+k,none⟩)) v) H K:=by
 refine st1E (T:=tFr) (x:=f) (x':=f') st 2 b rfl (by simp) d e (fun H' c i=>by rw[show c=frL f from i];exact g) fun H' a j=>?_;rw[show(fr++[f]).set fr.length f'=fr++[f']from by simp]at a;exact h H' a j
structure FrN(f:C'):Prop where
 alt:AO f.alt
 meet:AO f.meet
 row:AO f.row
 factor:AO f.factor
theorem Ov:AO (-1):=by unfold AO;omega
theorem Lg{m:Nat}(h:m≤16777216):AO (m:Int):=by unfold AO;omega
section
variable{ds:List p_}{f:C'}
theorem Jw(h:FrN f)(a:ds.length≤16777216):FrN (Bl ds f).2:=by
 unfold Bl;split
 ·exact h
 ·split
  ·exact⟨h.alt,h.meet,h.factor,Ov⟩
  ·exact⟨h.alt,h.meet,Lg a,Ov⟩
theorem U0(h:FrN f)(a:ds.length≤16777216):FrN (CW ds f).2:=by
 unfold CW;split
 ·exact⟨h.alt,h.meet,Lg a,h.factor⟩
 ·exact h
theorem X0(h:FrN f)(a:ds.length≤16777216):FrN (EJ ds f).2:=by
 unfold EJ;split
 ·exact⟨h.alt,h.row,Ov,h.factor⟩
 ·exact⟨h.alt,Lg a,Ov,h.factor⟩
theorem Xq(h:FrN f)(a:ds.length≤16777200):FrN (CZ ds f).2:=by
 unfold CZ;have b:=GY ds f;have c:=NQ (Bl ds f).1 (Bl ds f).2;exact X0 (U0 (Jw h (by omega)) (by omega)) (by omega)
end
section
variable{fr:List C'}{f:C'}
theorem PC(st:B_ B H0 H (stP sb fb na nc fc n ds (fr++[f]) rest))(s:FrN f)(u:ds.length≤16777216):
  Ak prog 80 #[U_ sb] H (fun _ H'=>∃g h,B_ B H0 H' (stP sb fb g h fc n (Bl ds f).1 (fr++[(Bl ds f).2]) rest)):=by
 have t:=Wg st;have i:=st.max 2 rfl;simp only[J_,h_,maxLen]at i;refine Ak.of_vc func80 rfl (call80 _) (Aq.lex rfl (by kernel_rfl) (f_ Bs ?_));refine lT (v:=.slice (T_ fb) n fc) C7 ((st.blk 0 rfl).ce rfl) ?_;refine f_ Bs ?_;refine lT (v:=.slice (T_ fb) n fc) C7 ((st.blk 0 rfl).ce rfl) ?_;(conv=>whnf);rw[W_ (x:=(n:Int)-1) (by omega)];refine ixE (j:=fr.length) FG st 2 rfl (by simp) (by omega) (f_ De (G_ (v:=A_ f.factor) E_ (Bo st (k:=5) rfl) trivial ?_));by_cases c:f.factor<0
 ·have l:decide (f.factor<0)=true:=n_ c;have e:Bl ds f=(ds,f):=by unfold Bl;rw[F_ c]
  (conv=>whnf);rw[l];(conv=>whnf);rw[e];exact⟨na,nc,st⟩
 ·have l:decide (f.factor<0)=false:=j_ c;(conv=>whnf);rw[l];(conv=>whnf);try (refine An.run ?_)
  refine f_ CD (G_ (v:=A_ f.row) E_ (Bo st (k:=4) rfl) trivial ?_);by_cases d:f.row<0
  ·have m:decide (f.row<0)=true:=n_ d;have e:Bl ds f=(ds,{f with row:=f.factor,factor:= -1}):=by unfold Bl;rw[D_ c,F_ d]
   (conv=>whnf);rw[m];refine f_ De (G_ (v:=A_ f.factor) E_ (Bo st (k:=5) rfl) trivial (f_ CD (EG (k:=4) (f':={f with row:=f.factor}) st E_ (by decide) rfl rfl fun G1 a o=>(f_ De (EG (k:=5) (f':={f with row:=f.factor,factor:= -1}) a E_ (by decide) rfl rfl fun G2 b o=>?_)))));(conv=>whnf);rw[e];exact⟨na,nc,b⟩
  ·have m:decide (f.row<0)=false:=j_ d;have e:Bl ds f=(ds++[AA 2 f.row f.factor],{f with row:=ds.length,factor:= -1}):=by unfold Bl;rw[D_ c,D_ d]
   (conv=>whnf);rw[m];refine Aq.heldZ (fun k=>k=fb) [13] (sq [0,1,2,3,4,5,6,7,8,9] (.f 10 (sq [11,12] (.f 13 .e)))) rfl (by kernel_rfl) (f_ CD (G_ (v:=A_ f.row) E_ (Bo st (k:=4) rfl) rfl (f_ De (G_ (v:=A_ f.factor) E_ (Bo st (k:=5) rfl) rfl ?_))));refine Ae.mk (Ku (op:=2) st (by unfold AO;omega) s.row s.factor u) ?_;rintro _ G1 ⟨rfl,w,p,q,a⟩;refine⟨w,?_⟩;refine f_ CD (EG (k:=4) (f':={f with row:=ds.length}) a E_ (by decide) rfl rfl fun G2 b o=>(f_ De (EG (k:=5) (f':={f with row:=ds.length,factor:= -1}) b E_ (by decide) rfl rfl fun G3 r o=>?_)));(conv=>whnf);rw[e];exact⟨p,q,r⟩
theorem QV(st:B_ B H0 H (stP sb fb na nc fc n ds (fr++[f]) rest))(K:FrN f)(Q:ds.length≤16777200):
  Ak prog 79 #[U_ sb] H (fun _ H'=>∃E F,B_ B H0 H' (stP sb fb E F fc n (CZ ds f).1 (fr++[(CZ ds f).2]) rest)):=by
 have L:=Wg st;have G:=st.max 2 rfl;simp only[J_,h_,maxLen]at G;refine Ak.of_vc func79 rfl (call79 _) (Ae.mk (PC st K (by omega)) ?_);rintro R H1 ⟨m,o,st1⟩;have d:=Jw K (ds:=ds) (by omega);have s:=GY ds f;have q:CZ ds f=EJ (CW (Bl ds f).1 (Bl ds f).2).1 (CW (Bl ds f).1 (Bl ds f).2).2:=rfl;obtain⟨a,b,M⟩:∃a b,Bl ds f=(a,b):=⟨_,_,rfl⟩;rw[M]at st1 d s q;replace st1:B_ B H0 H1 (stP sb fb m o fc n a (fr++[b]) rest):=st1;replace d:FrN b:=d;replace s:a.length≤ds.length+1:=s;replace q:CZ ds f=EJ (CW a b).1 (CW a b).2:=q;refine Aq.lex rfl (by kernel_rfl) (f_ Bs ?_);refine lT (v:=.slice (T_ fb) n fc) C7 ((st1.blk 0 rfl).ce rfl) ?_;refine f_ Bs ?_;refine lT (v:=.slice (T_ fb) n fc) C7 ((st1.blk 0 rfl).ce rfl) ?_;(conv=>whnf);rw[W_ (x:=(n:Int)-1) (by omega)];refine ixE (j:=fr.length) FG st1 2 rfl (by simp) (by omega) ?_;(conv=>whnf);try (refine An.run ?_)
 refine f_ CD (G_ (v:=A_ b.row) E_ (Bo st1 (k:=4) rfl) trivial ?_);by_cases D:b.row<0
 ·have I:decide (b.row<0)=true:=n_ D;have t:EJ (CW a b).1 (CW a b).2=EJ (a++[AA 0 0 0]) {b with row:=(a.length:Int)}:=by unfold CW;rw[F_ D]
  (conv=>whnf);rw[I];refine Ae.mk (Ku (op:=0) (x:=0) (y:=0) st1 (by unfold AO;omega) (by unfold AO;omega) (by unfold AO;omega) (by omega)) ?_;rintro _ G8 ⟨rfl,N,O,P,J⟩;refine f_ CD (EG (k:=4) (f':={b with row:=(a.length:Int)}) J E_ (by decide) rfl rfl fun G9 g l=>?_);have r:FrN {b with row:=(a.length:Int)}:=⟨d.alt,d.meet,Lg (by omega),d.factor⟩;(conv=>whnf);try (refine An.run ?_)
  refine f_ Dd (G_ (v:=A_ ({b with row:=(a.length:Int)}).meet) E_ (Bo g (k:=2) rfl) trivial ?_);by_cases p:b.meet<0
  ·have u:decide (b.meet<0)=true:=n_ p;have e:CZ ds f=(a++[AA 0 0 0],{({b with row:=(a.length:Int)})with meet:=({b with row:=(a.length:Int)}).row,row:= -1}):=by rw[q,t];unfold EJ;rw[F_ p]
   (conv=>whnf);rw[u];refine f_ CD (G_ (v:=A_ ({b with row:=(a.length:Int)}).row) E_ (Bo g (k:=4) rfl) trivial (f_ Dd (EG (k:=2) (f':={({b with row:=(a.length:Int)})with meet:=({b with row:=(a.length:Int)}).row}) g E_ (by decide) rfl rfl fun G5 w l=>(f_ CD (EG (k:=4) (f':={({b with row:=(a.length:Int)})with meet:=({b with row:=(a.length:Int)}).row,row:= -1}) w E_ (by decide) rfl rfl fun G6 c l=>?_)))));(conv=>whnf);rw[e];exact⟨_,_,c⟩
  ·have u:decide (b.meet<0)=false:=j_ p;(conv=>whnf);rw[u];(conv=>whnf);try (refine An.run ?_)
   refine f_ MZ (G_ (v:=.int .u8 (({b with row:=(a.length:Int)}).sign:Int)) ct5 (Bo g (k:=3) rfl) trivial ?_);by_cases z:b.sign=38
   ·have A:((b.sign:Int)==38)=true:=by rw[z];rfl
    have e:CZ ds f=(a++[AA 0 0 0]++[AA 5 ({b with row:=(a.length:Int)}).meet ({b with row:=(a.length:Int)}).row],{({b with row:=(a.length:Int)})with meet:=((a++[AA 0 0 0]).length:Int),row:= -1}):=by rw[q,t];unfold EJ;rw[D_ p];show(_++[AA (if b.sign=38 then 5 else 6) _ _],_)=_;rw[F_ z]
    (conv=>whnf);rw[A];refine Aq.heldZ (fun k=>k=fb) [13] (sq [0,1,2,3,4,5,6,7,8,9] (.f 10 (sq [11,12] (.f 13 .e)))) rfl (by kernel_rfl) (f_ Dd (G_ (v:=A_ ({b with row:=(a.length:Int)}).meet) E_ (Bo g (k:=2) rfl) rfl (f_ CD (G_ (v:=A_ ({b with row:=(a.length:Int)}).row) E_ (Bo g (k:=4) rfl) rfl ?_))));refine Ae.mk (Ku (op:=5) g (by unfold AO;omega) r.meet r.row (by simp;omega)) ?_;rintro _ G1 ⟨rfl,C,m,o,h⟩;refine⟨C,?_⟩;refine f_ Dd (EG (k:=2) (f':={({b with row:=(a.length:Int)})with meet:=((a++[AA 0 0 0]).length:Int)}) h E_ (by decide) rfl rfl fun G2 i l=>(f_ CD (EG (k:=4) (f':={({b with row:=(a.length:Int)})with meet:=((a++[AA 0 0 0]).length:Int),row:= -1}) i E_ (by decide) rfl rfl fun G6 c l=>?_)));(conv=>whnf);rw[e];exact⟨_,_,c⟩
   ·have A:((b.sign:Int)==38)=false:=beq_eq_false_iff_ne.2 (by omega);have e:CZ ds f=(a++[AA 0 0 0]++[AA 6 ({b with row:=(a.length:Int)}).meet ({b with row:=(a.length:Int)}).row],{({b with row:=(a.length:Int)})with meet:=((a++[AA 0 0 0]).length:Int),row:= -1}):=by rw[q,t];unfold EJ;rw[D_ p];show(_++[AA (if b.sign=38 then 5 else 6) _ _],_)=_;rw[D_ z]
    (conv=>whnf);rw[A];refine Aq.heldZ (fun k=>k=fb) [13] (sq [0,1,2,3,4,5,6,7,8,9] (.f 10 (sq [11,12] (.f 13 .e)))) rfl (by kernel_rfl) (f_ Dd (G_ (v:=A_ ({b with row:=(a.length:Int)}).meet) E_ (Bo g (k:=2) rfl) rfl (f_ CD (G_ (v:=A_ ({b with row:=(a.length:Int)}).row) E_ (Bo g (k:=4) rfl) rfl ?_))));refine Ae.mk (Ku (op:=6) g (by unfold AO;omega) r.meet r.row (by simp;omega)) ?_;rintro _ G1 ⟨rfl,C,m,o,h⟩;refine⟨C,?_⟩;refine f_ Dd (EG (k:=2) (f':={({b with row:=(a.length:Int)})with meet:=((a++[AA 0 0 0]).length:Int)}) h E_ (by decide) rfl rfl fun G2 i l=>(f_ CD (EG (k:=4) (f':={({b with row:=(a.length:Int)})with meet:=((a++[AA 0 0 0]).length:Int),row:= -1}) i E_ (by decide) rfl rfl fun G6 c l=>?_)));(conv=>whnf);rw[e];exact⟨_,_,c⟩
 ·have I:decide (b.row<0)=false:=j_ D;have t:EJ (CW a b).1 (CW a b).2=EJ a b:=by unfold CW;rw[D_ D]
  (conv=>whnf);rw[I];(conv=>whnf);try (refine An.run ?_)
  refine f_ Dd (G_ (v:=A_ (b).meet) E_ (Bo st1 (k:=2) rfl) trivial ?_);by_cases p:b.meet<0
  ·have u:decide (b.meet<0)=true:=n_ p;have e:CZ ds f=(a,{(b)with meet:=(b).row,row:= -1}):=by rw[q,t];unfold EJ;rw[F_ p]
   (conv=>whnf);rw[u];refine f_ CD (G_ (v:=A_ (b).row) E_ (Bo st1 (k:=4) rfl) trivial (f_ Dd (EG (k:=2) (f':={(b)with meet:=(b).row}) st1 E_ (by decide) rfl rfl fun G5 w l=>(f_ CD (EG (k:=4) (f':={(b)with meet:=(b).row,row:= -1}) w E_ (by decide) rfl rfl fun G6 c l=>?_)))));(conv=>whnf);rw[e];exact⟨_,_,c⟩
  ·have u:decide (b.meet<0)=false:=j_ p;(conv=>whnf);rw[u];(conv=>whnf);try (refine An.run ?_)
   refine f_ MZ (G_ (v:=.int .u8 ((b).sign:Int)) ct5 (Bo st1 (k:=3) rfl) trivial ?_);by_cases z:b.sign=38
   ·have A:((b.sign:Int)==38)=true:=by rw[z];rfl
    have e:CZ ds f=(a++[AA 5 (b).meet (b).row],{(b)with meet:=((a).length:Int),row:= -1}):=by rw[q,t];unfold EJ;rw[D_ p];show(_++[AA (if b.sign=38 then 5 else 6) _ _],_)=_;rw[F_ z]
    (conv=>whnf);rw[A];refine Aq.heldZ (fun k=>k=fb) [13] (sq [0,1,2,3,4,5,6,7,8,9] (.f 10 (sq [11,12] (.f 13 .e)))) rfl (by kernel_rfl) (f_ Dd (G_ (v:=A_ (b).meet) E_ (Bo st1 (k:=2) rfl) rfl (f_ CD (G_ (v:=A_ (b).row) E_ (Bo st1 (k:=4) rfl) rfl ?_))));refine Ae.mk (Ku (op:=5) st1 (by unfold AO;omega) d.meet d.row (by omega)) ?_;rintro _ G1 ⟨rfl,C,m,o,h⟩;refine⟨C,?_⟩;refine f_ Dd (EG (k:=2) (f':={(b)with meet:=((a).length:Int)}) h E_ (by decide) rfl rfl fun G2 i l=>(f_ CD (EG (k:=4) (f':={(b)with meet:=((a).length:Int),row:= -1}) i E_ (by decide) rfl rfl fun G6 c l=>?_)));(conv=>whnf);rw[e];exact⟨_,_,c⟩
   ·have A:((b.sign:Int)==38)=false:=beq_eq_false_iff_ne.2 (by omega);have e:CZ ds f=(a++[AA 6 (b).meet (b).row],{(b)with meet:=((a).length:Int),row:= -1}):=by rw[q,t];unfold EJ;rw[D_ p];show(_++[AA (if b.sign=38 then 5 else 6) _ _],_)=_;rw[D_ z]
    (conv=>whnf);rw[A];refine Aq.heldZ (fun k=>k=fb) [13] (sq [0,1,2,3,4,5,6,7,8,9] (.f 10 (sq [11,12] (.f 13 .e)))) rfl (by kernel_rfl) (f_ Dd (G_ (v:=A_ (b).meet) E_ (Bo st1 (k:=2) rfl) rfl (f_ CD (G_ (v:=A_ (b).row) E_ (Bo st1 (k:=4) rfl) rfl ?_))));refine Ae.mk (Ku (op:=6) st1 (by unfold AO;omega) d.meet d.row (by omega)) ?_;rintro _ G1 ⟨rfl,C,m,o,h⟩;refine⟨C,?_⟩;refine f_ Dd (EG (k:=2) (f':={(b)with meet:=((a).length:Int)}) h E_ (by decide) rfl rfl fun G2 i l=>(f_ CD (EG (k:=4) (f':={(b)with meet:=((a).length:Int),row:= -1}) i E_ (by decide) rfl rfl fun G6 c l=>?_)));(conv=>whnf);rw[e];exact⟨_,_,c⟩
theorem NO(st:B_ B H0 H (stP sb fb na nc fc n ds (fr++[f]) rest))(y:FrN f)(D:ds.length≤16777200):
  Ak prog 78 #[U_ sb] H (fun _ H'=>∃o p,B_ B H0 H' (stP sb fb o p fc n (El ds f).1 (fr++[(El ds f).2]) rest)):=by
 have z:=Wg st;have q:=st.max 2 rfl;simp only[J_,h_,maxLen]at q;refine Ak.of_vc func78 rfl (call78 _) (Ae.mk (QV st y (by omega)) ?_);rintro E H1 ⟨h,i,st1⟩;have c:=Xq y (ds:=ds) (by omega);have d:=JP ds f;have l:El ds f=Sf (CZ ds f).1 (CZ ds f).2:=rfl;obtain⟨b,a,A⟩:∃b a,CZ ds f=(b,a):=⟨_,_,rfl⟩;rw[A]at st1 c d l;replace st1:B_ B H0 H1 (stP sb fb h i fc n b (fr++[a]) rest):=st1;replace c:FrN a:=c;replace d:b.length≤ds.length+3:=d;replace l:El ds f=Sf b a:=l;refine Aq.lex rfl (by kernel_rfl) (f_ Bs ?_);refine lT (v:=.slice (T_ fb) n fc) C7 ((st1.blk 0 rfl).ce rfl) ?_;refine f_ Bs ?_;refine lT (v:=.slice (T_ fb) n fc) C7 ((st1.blk 0 rfl).ce rfl) ?_;(conv=>whnf);rw[W_ (x:=(n:Int)-1) (by omega)];refine ixE (j:=fr.length) FG st1 2 rfl (by simp) (by omega) ?_;(conv=>whnf);try (refine An.run ?_)
 refine f_ JN (G_ (v:=A_ a.alt) E_ (Bo st1 (k:=1) rfl) trivial ?_);by_cases m:a.alt<0
 ·have r:decide (a.alt<0)=true:=n_ m;have e:El ds f=(b,{a with alt:=a.meet,meet:= -1}):=by rw[l];unfold Sf;rw[F_ m]
  (conv=>whnf);rw[r];refine f_ Dd (G_ (v:=A_ a.meet) E_ (Bo st1 (k:=2) rfl) trivial (f_ JN (EG (k:=1) (f':={a with alt:=a.meet}) st1 E_ (by decide) rfl rfl fun G5 s t=>(f_ Dd (EG (k:=2) (f':={a with alt:=a.meet,meet:= -1}) s E_ (by decide) rfl rfl fun G6 g t=>?_)))));(conv=>whnf);rw[e];exact⟨_,_,g⟩
 ·have r:decide (a.alt<0)=false:=j_ m;have e:El ds f=(b++[AA 3 a.alt a.meet],{a with alt:=(b.length:Int),meet:= -1}):=by rw[l];unfold Sf;rw[D_ m]
  (conv=>whnf);rw[r];refine Aq.heldZ (fun k=>k=fb) [13] (sq [0,1,2,3,4,5,6,7,8,9] (.f 10 (sq [11,12] (.f 13 .e)))) rfl (by kernel_rfl) (f_ JN (G_ (v:=A_ a.alt) E_ (Bo st1 (k:=1) rfl) rfl (f_ Dd (G_ (v:=A_ a.meet) E_ (Bo st1 (k:=2) rfl) rfl ?_))));refine Ae.mk (Ku (op:=3) st1 (by unfold AO;omega) c.alt c.meet (by omega)) ?_;rintro _ G1 ⟨rfl,C,h,i,u⟩;refine⟨C,?_⟩;refine f_ JN (EG (k:=1) (f':={a with alt:=(b.length:Int)}) u E_ (by decide) rfl rfl fun G2 w t=>(f_ Dd (EG (k:=2) (f':={a with alt:=(b.length:Int),meet:= -1}) w E_ (by decide) rfl rfl fun G6 g t=>?_)));(conv=>whnf);rw[e];exact⟨_,_,g⟩
end
end
end Go.Proofs.YtfbghcpdinlmcaaGreatDoor
namespace Go.VC
theorem B_.rebase{B:Nat→Prop}{H0 H:Aa}{ps:List Pc}(st:B_ B H0 H ps):B_ B H H ps:=⟨C_.refl _ _,fun k a=>st.up a,I_ _,st.oks,st.rng,st.dis⟩
theorem B_.widen{B:Nat→Prop}{H0 H H':Aa}{ps:List Pc}(st:B_ B H0 H ps)(f:C_ (H_ H) H H')(N:Nat→Prop)(e:∀k,N k→H.size≤k∧k<H'.size):B_ (fun k=>B k∨N k) H' H' ps:=by
 have a:=st.call f;refine⟨C_.refl _ _,fun k b=>?_,I_ _,a.oks,fun p d k b=>⟨fun c=>?_,(a.rng p d k b).2⟩,a.dis⟩
 ·rcases b with b | b
  ·exact a.up b
  ·exact(e k b).2
 ·rcases c with c | c
  ·exact(st.rng p d k b).1 c
  ·have:=(st.rng p d k b).2;have:=(e k c).1;omega
end Go.VC
namespace Go.Proofs.YtfbghcpdinlmcaaGreatDoor
open Go.VC Go.Lib
inductive ROp
 | alt
 | cat
 | and_
 | minus
def opR:ROp→ReM→ReM→ReM
 | .alt=>.alt
 | .cat=>.cat
 | .and_=>.and_
 | .minus=>.minus
def opF:ROp→FuncId
 | .alt=>131
 | .cat=>194
 | .and_=>167
 | .minus=>168
theorem PX(op:ROp)(a b:ReM):(opR op a b).nodes=1+a.nodes+b.nodes:=by cases op<;>rfl
def S_(r:ReM):Nat:=min r.nodes 2001
def Ab(r:ReM)(fn:v_):List v_:=[A_ ((S_ r:Nat):Int),fn]
inductive CF(B:Nat→Prop)(H:Aa):v_→ReM→Prop
 | leaf {b:Nat} {r:ReM}:B b→Q_ H b 28 [Ao r]→CF B H (.func (.func 214) #[] #[U_ b]) r
 | join {b1 b2 b3:Nat} {va vb:v_} {ra rb:ReM} (op:ROp):B b1→B b2→B b3→Q_ H b1 238 [.func (.func (opF op)) #[] #[]]→Q_ H b2 142 (Ab ra va)→Q_ H b3 142 (Ab rb vb)→
   CF B H va ra→CF B H vb rb→CF B H (.func (.func 170) #[] #[U_ b1,U_ b2,U_ b3]) (opR op ra rb)
 | star {b:Nat} {va:v_} {ra:ReM}:B b→Q_ H b 142 (Ab ra va)→CF B H va ra→CF B H (.func (.func 230) #[] #[U_ b]) (.star ra)
theorem CF.frame{B B':Nat→Prop}{H H':Aa}{v:v_}{r:ReM}(h:CF B H v r)(k:C_ B H H')(s:∀k,B k→B' k):CF B' H' v r:=by
 induction h with
 | leaf a b=>exact .leaf (s _ a) (b.agr k a)
 | join op a b e f g i _ _ c d=>exact .join op (s _ a) (s _ b) (s _ e) (f.agr k a) (g.agr k b) (i.agr k e) c d
 | star a b _ j=>exact .star (s _ a) (b.agr k a) j
theorem WW{B:Nat→Prop}{H H':Aa}(b:C_ B H H')(c:∀k,B k→k<H.size){k:Nat}(a:B k):k<H'.size:=by
 have h:=b k a;rw[Yag (c k a)]at h;exact(Yaa.1 h).1
theorem op_p(op:ROp)(a b:ReM)(H:Aa):BM prog (opF op) #[Ao a,Ao b] H (Ao (opR op a b)):=by
 have⟨T1,c,d⟩:=Jl a;have⟨T2,e,e2⟩:=Jl b;cases op with
 | alt=>
   show BM prog 131 #[Ao a,Ao b] H (.iface 305 (.agg #[Ao a,Ao b]));rw[d,e2];refine Ak.of_vc func131 rfl (call131 _) (Ax underlying305 rfl _ rfl [.iface T1 c,.iface T2 e] rfl ?_);(conv=>whnf);exact⟨rfl,C_.refl _ _⟩
 | cat=>
   show BM prog 194 #[Ao a,Ao b] H (.iface 105 (.agg #[Ao a,Ao b]));rw[d,e2];refine Ak.of_vc func194 rfl (call194 _) (Ax underlying105 rfl _ rfl [.iface T1 c,.iface T2 e] rfl ?_);(conv=>whnf);exact⟨rfl,C_.refl _ _⟩
 | and_=>
   show BM prog 167 #[Ao a,Ao b] H (.iface 64 (.agg #[Ao a,Ao b]));rw[d,e2];refine Ak.of_vc func167 rfl (call167 _) (Ax underlying64 rfl _ rfl [.iface T1 c,.iface T2 e] rfl ?_);(conv=>whnf);exact⟨rfl,C_.refl _ _⟩
 | minus=>
   show BM prog 168 #[Ao a,Ao b] H (.iface 65 (.agg #[Ao a,Ao b]));rw[d,e2];refine Ak.of_vc func168 rfl (call168 _) (Ax underlying65 rfl _ rfl [.iface T1 c,.iface T2 e] rfl ?_);(conv=>whnf);exact⟨rfl,C_.refl _ _⟩
theorem MO(cap:Array v_):(((#[]:Array v_).toList++([]:List v_))++cap.toList).toArray=cap:=by simp
theorem AgH{B:Nat→Prop}{H:Aa}{v:v_}{r:ReM}(h:CF B H v r)(t:∀k,B k→k<H.size):∃g cap,v= .func (.func g) #[] cap∧∀H',C_ B H H'→BM prog g cap H' (Ao r):=by
 induction h with
 | @leaf b r h1 h2=>
   refine⟨_,_,rfl,fun H' c=>?_⟩;have u:=h2.agr c h1;refine Ak.of_vc func214 rfl (call214 _) ?_;refine G_ (v:=Ao r) E4 (by rw[u.cell];rfl) trivial ?_;(conv=>whnf);exact⟨rfl,C_.refl _ _⟩
 | @join b1 b2 b3 va vb ra rb op h1 h2 h3 h4 h5 h6 _ _ ih1 ih2=>
   refine⟨_,_,rfl,fun H' c=>?_⟩;have p:=h4.agr c h1;have q:=h5.agr c h2;have s:=h6.agr c h3;obtain⟨g1,l,rfl,p1⟩:=ih1;obtain⟨g2,w,rfl,p2⟩:=ih2;refine Ak.of_vc func170 rfl (call170 _) (Aq.held (H_ H') 9 (sq [0,1,2,4,5] (.f 3 (.f 6 (.f 7 (.f 8 .e))))) rfl (by kernel_rfl) ?_);refine G_ (v:=.func (.func (opF op)) #[] #[]) AiE (by rw[p.cell];rfl) p.lt ?_;refine f_ MY ?_;refine G_ (v:=.func (.func g1) #[] l) VF (by rw[q.cell];rfl) q.lt ?_;refine f_ MY ?_;refine G_ (v:=.func (.func g2) #[] w) VF (by rw[s.cell];rfl) s.lt ?_;(conv=>whnf);rw[MO];refine Ah (p1 H' c) fun G1 a=>?_;refine⟨a,?_⟩;have m:C_ B H G1:=c.trans (a.mono fun k j=>WW c t j);(conv=>whnf);rw[MO];refine Ah (p2 G1 m) fun G2 n=>?_;have d:=a.trans (n.mono fun k j=>Ar a j);refine⟨d,?_⟩;refine Ah (op_p op ra rb G2) fun G3 o=>?_;have i:=d.trans (o.mono fun k j=>Ar d j);refine⟨i,?_⟩;(conv=>whnf);refine⟨i,?_⟩;exact⟨rfl,i⟩
 | @star b va ra h1 h2 _ ih=>
   refine⟨_,_,rfl,fun H' c=>?_⟩;have x:=h2.agr c h1;obtain⟨g1,l,rfl,p1⟩:=ih;refine Ak.of_vc func230 rfl (call230 _) (f_ MY ?_);refine G_ (v:=.func (.func g1) #[] l) VF (by rw[x.cell];rfl) trivial ?_;(conv=>whnf);rw[MO];refine Ah (p1 H' c) fun G1 a=>?_;have⟨T1,y,z⟩:=Jl ra;show _;rw[show Ao (.star ra)= .iface 310 (.agg #[Ao ra])from rfl];rw[z];refine Ax underlying310 rfl _ rfl [.iface T1 y] rfl ?_;(conv=>whnf);exact⟨rfl,a⟩
structure RY(B:Nat→Prop)(H:Aa)(ps:List Pc)(r:ReM)(v:v_)(H':Aa):Prop where
 ex:∃(B':Nat→Prop) (fn:v_),v= .agg (Ab r fn).toArray∧(∀k,B k→B' k)∧C_ (H_ H) H H'∧B_ B' H' H' ps∧CF B' H' fn r
theorem CF.fn{B:Nat→Prop}{H:Aa}{v:v_}{r:ReM}(h:CF B H v r):∃g c,v= .func (.func g) #[] c:=by
 cases h<;>exact⟨_,_,rfl⟩
theorem C2{l:List v_}{r:ReM}{v:v_}(h:l.length=2):Ai l 0 (Ab r v)=Ab r v:=AH (by rw[h];rfl)
theorem Av{H:Aa}{b:Nat}{r:ReM}{v:v_}(h:Q_ H b 142 (Ab r v)):Be H b 0 (Ab r v):=h.cells (fun j v a=>by rw[K_];exact a)
def Al:List v_:=[A_ 0,.nilFunc]
theorem Dq:(prog.info? 142).bind (·.zero)=some (.agg Al.toArray):=by kernel_rfl
theorem Sw(n:Nat)(a:n<1152921504606846976)(H:Aa):BM prog 169 #[A_ n] H (.int .i64 ((min n 2001:Nat):Int)):=by
 refine Ak.of_vc func169 rfl (call169 _) (AjG ?_);(conv=>whnf);refine⟨?_,C_.refl _ _⟩
 congr 1
 split<;>omega
theorem F7(r:ReM):S_ r≤2001:=Nat.min_le_right _ _
section
variable{B:Nat→Prop}{H0 H:Aa}{ps:List Pc}
theorem Rq{r:ReM}(st:B_ B H0 H ps)(m:r.nodes=1):Ak prog 191 #[Ao r] H (RY B H ps r):=by
 refine Ak.of_vc func191 rfl (call191 _) ?_;have⟨T1,n,l⟩:=Jl r;rw[l];refine Ct [.iface T1 n] rfl ?_;intro b H1 o p g h;refine Am (.agg Al.toArray) Al Dq rfl ?_;intro q H2 s t i c;refine Ax underlying142 rfl _ rfl (Ab r (.func (.func 214) #[] #[U_ b])) (by unfold Ab S_;rw[m];rfl) ?_;refine VC.stN (cs:=Ab r (.func (.func 214) #[] #[U_ b])) rfl i (by simp[Ab,Al]) rfl ?_;intro H3 d e u;rw[C2 rfl]at d;refine lN (cs:=Ab r (.func (.func 214) #[] #[U_ b])) AX (Av d) ?_;have j:C_ (H_ H) H H2:=(h.mono fun k a=>by have:k<H.size:=a;omega).trans (c.mono fun k a=>by have:k<H.size:=a;omega);have f:C_ (H_ H) H H3:=j.trans (e.mono fun k a=>by have:k<H.size:=a;omega);have v:Q_ H3 b 28 [Ao r]:=by
  rw[l];exact(g.agr c (show b<q by omega)).agr e (show b≠q by omega)
 exact⟨_,_,rfl,fun k a=>.inl a,f,st.widen f (fun k=>k=b) (fun k a=>by omega),.leaf (.inr rfl) v⟩
theorem F3{ra c:ReM}{va vb:v_}(op:ROp)(st:B_ B H0 H ps)(F:CF B H va ra)(G:CF B H vb c):
  Ak prog 130 #[.agg (Ab ra va).toArray,.agg (Ab c vb).toArray,.func (.func (opF op)) #[] #[]] H (RY B H ps (opR op ra c)):=by
 obtain⟨g1,I,rfl⟩:=F.fn;obtain⟨g2,J,rfl⟩:=G.fn;have X:=F7 ra;have Y:=F7 c;refine Ak.of_vc func130 rfl (call130 _) (Ct (Ab ra (.func (.func g1) #[] I)) rfl ?_);intro d H1 M N y z;refine Ct (Ab c (.func (.func g2) #[] J)) rfl ?_;intro f H2 O P A p;refine Ct [.func (.func (opF op)) #[] #[]] rfl ?_;intro g H3 Q R C n;refine Am (.agg Al.toArray) Al Dq rfl ?_;intro q H4 S T r i;have K:Q_ H4 d 142 (Ab ra (.func (.func g1) #[] I)):=((y.agr p (show d<f by omega)).agr n (show d<g by omega)).agr i (show d<q by omega);have L:Q_ H4 f 142 (Ab c (.func (.func g2) #[] J)):=(A.agr n (show f<g by omega)).agr i (show f<q by omega);have U:Q_ H4 g 238 [.func (.func (opF op)) #[] #[]]:=C.agr i (show g<q by omega);refine f_ MX ?_;refine G_ (v:=A_ ((S_ ra:Nat):Int)) E_ (by rw[K.cell];rfl) trivial ?_;(conv=>whnf);rw[W_ (x:=1+((S_ ra:Nat):Int)) (by omega)];refine f_ MX ?_;refine G_ (v:=A_ ((S_ c:Nat):Int)) E_ (by rw[L.cell];rfl) trivial ?_;(conv=>whnf);rw[W_ (x:=1+((S_ ra:Nat):Int)+((S_ c:Nat):Int)) (by omega)];rw[show 1+((S_ ra:Nat):Int)+((S_ c:Nat):Int)=((1+S_ ra+S_ c:Nat):Int) by omega];refine Ah (Sw (1+S_ ra+S_ c) (by omega) H4) fun H5 j=>?_;have D:min (1+S_ ra+S_ c) 2001=S_ (opR op ra c):=by unfold S_;rw[PX];omega
 rw[D];have V:=Ab (opR op ra c) (.func (.func 170) #[] #[U_ g,U_ d,U_ f]);refine Ax underlying142 rfl _ rfl (Ab (opR op ra c) (.func (.func 170) #[] #[U_ g,U_ d,U_ f])) rfl (VC.stN (cs:=Ab (opR op ra c) (.func (.func 170) #[] #[U_ g,U_ d,U_ f])) rfl (r.agr j r.lt) (by simp[Ab,Al]) rfl ?_);intro H6 s t W;rw[C2 rfl]at s;refine lN (cs:=Ab (opR op ra c) (.func (.func 170) #[] #[U_ g,U_ d,U_ f])) AX (Av s) ?_;have u:C_ (H_ H) H H4:=(((z.mono fun k a=>by have:k<H.size:=a;omega).trans (p.mono fun k a=>by have:k<H.size:=a;omega)).trans (n.mono fun k a=>by have:k<H.size:=a;omega)).trans (i.mono fun k a=>by have:k<H.size:=a;omega);have o:C_ (H_ H) H H6:=(u.trans (j.mono fun k a=>Ar u a)).trans (t.mono fun k a=>by have:k<H.size:=a;omega);have Z:=Bv j;have m:∀{b:Nat} {e:x_} {l:List v_},Q_ H4 b e l→b≠q→Q_ H6 b e l:=fun h E=>(h.agr j h.lt).agr t E;have w:C_ B H H6:=o.mono fun k a=>st.up a;exact⟨_,_,rfl,fun k a=>.inl a,o,st.widen o (fun k=>k=g∨k=d∨k=f) (fun k a=>by rcases a with rfl | rfl | rfl<;>omega),
  .join op (.inr (.inl rfl)) (.inr (.inr (.inl rfl))) (.inr (.inr (.inr rfl))) (m U (by omega)) (m K (by omega)) (m L (by omega)) (F.frame w fun k a=>.inl a) (G.frame w fun k a=>.inl a)⟩
theorem OT{ra:ReM}{va:v_}(st:B_ B H0 H ps)(p:CF B H va ra):
  Ak prog 215 #[.agg (Ab ra va).toArray] H (RY B H ps (.star ra)):=by
 obtain⟨g1,r,rfl⟩:=p.fn;have z:=F7 ra;refine Ak.of_vc func215 rfl (call215 _) (Ct (Ab ra (.func (.func g1) #[] r)) rfl ?_);intro c H1 s t j l;refine Am (.agg Al.toArray) Al Dq rfl ?_;intro q H4 u w e f;have m:Q_ H4 c 142 (Ab ra (.func (.func g1) #[] r)):=j.agr f (show c<q by omega);refine f_ MX ?_;refine G_ (v:=A_ ((S_ ra:Nat):Int)) E_ (by rw[m.cell];rfl) trivial ?_;(conv=>whnf);rw[W_ (x:=1+((S_ ra:Nat):Int)) (by omega)];rw[show 1+((S_ ra:Nat):Int)=((1+S_ ra:Nat):Int) by omega];refine Ah (Sw (1+S_ ra) (by omega) H4) fun H5 b=>?_;have n:min (1+S_ ra) 2001=S_ (.star ra):=by unfold S_;show _=min (1+ra.nodes) 2001;omega
 rw[n];refine Ax underlying142 rfl _ rfl (Ab (.star ra) (.func (.func 230) #[] #[U_ c])) rfl (VC.stN (cs:=Ab (.star ra) (.func (.func 230) #[] #[U_ c])) rfl (e.agr b e.lt) (by simp[Ab,Al]) rfl ?_);intro H6 g h y;rw[C2 rfl]at g;refine lN (cs:=Ab (.star ra) (.func (.func 230) #[] #[U_ c])) AX (Av g) ?_;have i:C_ (H_ H) H H4:=(l.mono fun k a=>by have:k<H.size:=a;omega).trans (f.mono fun k a=>by have:k<H.size:=a;omega);have d:C_ (H_ H) H H6:=(i.trans (b.mono fun k a=>Ar i a)).trans (h.mono fun k a=>by have:k<H.size:=a;omega);have A:=Bv b;have o:C_ B H H6:=d.mono fun k a=>st.up a;exact⟨_,_,rfl,fun k a=>.inl a,d,st.widen d (fun k=>k=c) (fun k a=>by omega),.star (.inr rfl) ((m.agr b m.lt).agr h (show c≠q by omega)) (p.frame o fun k a=>.inl a)⟩
theorem Nk{ra:ReM}{va:v_}(st:B_ B H0 H ps)(A:CF B H va ra):
  Ak prog 216 #[.agg (Ab ra va).toArray] H (RY B H ps (Bm ra)):=by
 obtain⟨g1,l,rfl⟩:=A.fn;refine Ak.of_vc func216 rfl (call216 _) (Ct (Ab ra (.func (.func g1) #[] l)) rfl ?_);intro C H1 m G n g;refine Am (.agg Al.toArray) Al Dq rfl ?_;intro q H4 o p s d;have D:Q_ H4 C 142 (Ab ra (.func (.func g1) #[] l)):=n.agr d (show C<q by omega);have b:C_ (H_ H) H H4:=(g.mono fun k a=>by have:k<H.size:=a;omega).trans (d.mono fun k a=>by have:k<H.size:=a;omega);have t:=(st.skip m g).box o p s d;refine Aq.heldZ (H_ H4) [5] (sq [0,1,2] (.f 3 (.f 4 (.f 5 .e)))) rfl (by kernel_rfl) (L_ (cs:=Ab ra (.func (.func g1) #[] l)) AX (Av D) D.lt (Ax underlying98 rfl _ rfl [] rfl (Ae.mk (Rq (r:=.eps) t rfl) ?_)));rintro _ H5 ⟨B1,L,rfl,E,j,u,ge⟩;refine⟨j,?_⟩;have h:C_ B H H5:=(b.trans (j.mono fun k a=>Ar b a)).mono fun k a=>st.up a;refine Ae.mk (F3 .alt u (A.frame h E) ge) ?_;rintro _ H6 ⟨B2,M,rfl,I,J,v,F⟩;have i:=j.trans (J.mono fun k a=>Ar j a);refine⟨i,?_⟩;obtain⟨g2,w,rfl⟩:=F.fn;refine Bw (cs:=Ab (Bm ra) (.func (.func g2) #[] w)) v _ rfl (Ep _ _) (by simp[Ab,Al]) rfl fun H7 c x K=>?_;rw[Ru,C2 rfl]at c;have y:Q_ H7 q 142 (Ab (Bm ra) (.func (.func g2) #[] w)):=c.blk _ (Ep _ _);refine lN (cs:=Ab (Bm ra) (.func (.func g2) #[] w)) AX (Av y) ?_;have z:C_ (H_ H) H H6:=b.trans (i.mono fun k a=>Ar b a);exact⟨B2,_,rfl,fun k a=>I k (E k a),z.trans (x.mono fun k a=>by have:k<H.size:=a;omega),c.lft.rebase,F.frame c.old fun k a=>a⟩
end
theorem Jq(a:ReM)(m:Nat):BZ a m 1=some (if 0<m then a else Bm a):=rfl
theorem XM(a:ReM)(m k:Nat)(h:1≤k):∃r,BZ a m k=some r:=by
 obtain⟨j,rfl⟩:∃j,k=j+1:=⟨k-1,by omega⟩;exact⟨_,rfl⟩
theorem D1(a:ReM)(m k:Nat)(h:1≤k):(BZ a m (k+1)).getD .eps= .cat ((BZ a m k).getD .eps) (if k<m then a else Bm a):=by
 have⟨r,b⟩:=XM a m k h;show(some (YS (BZ a m k) (if k<m then a else Bm a))).getD .eps=_;rw[b];rfl
def MH(ps:List Pc)(b3 q6 q7:Nat)(a out:ReM)(va fn:v_):List Pc:=ps++[pB 142 b3 (Ab a va),pB 142 q6 Al,pB 142 q7 (Ab out fn)]
structure WU(B:Nat→Prop)(H:Aa)(ps:List Pc)(b3 q6 q7:Nat)(a out:ReM)(va:v_)(G:Aa):Prop where
 ex:∃(B':Nat→Prop) (fn:v_),(∀k,B k→B' k)∧C_ (H_ H) H G∧B_ B' G G (MH ps b3 q6 q7 a out va fn)∧CF B' G va a∧CF B' G fn out
theorem WL{B:Nat→Prop}{H0 H:Aa}{ps:List Pc}{a:ReM}{va:v_}{m:Nat}{n:Int}(st:B_ B H0 H ps)(Y:CF B H va a)(hm:m≤255)(b0: -1≤n)(b4:n≤255)(b5:0≤n→(m:Int)≤n):
  Ak prog 232 #[.agg (Ab a va).toArray,A_ m,A_ n] H (RY B H ps (Cf a m n)):=by
 obtain⟨g1,o,rfl⟩:=Y.fn;refine Ak.of_vc func232 rfl (call232 _) (Ct (Ab a (.func (.func g1) #[] o)) rfl ?_);intro P H1 am ao ap Z;have st1:=st.box am ao ap Z;refine Am (.agg Al.toArray) Al Dq rfl ?_;intro I H2 aq ar au ai;have Q:=st1.box aq ar au ai;have q:C_ (H_ H) H H2:=(Z.mono fun k b=>by have:k<H.size:=b;omega).trans (ai.mono fun k b=>by have:k<H.size:=b;omega);have aj:C_ B H H2:=q.mono fun k b=>st.up b;rw[YaN]at Q;have aw:=Y.frame aj fun k b=>b;have a0:Q_ H2 P 142 (Ab a (.func (.func g1) #[] o)):=Q.blk _ (Ep _ _);by_cases h1:m=0∧n<0
 ·have T:((m:Int)==0)=true:=by rw[h1.1];rfl
  have U:decide (n<0)=true:=n_ h1.2;(conv=>whnf);rw[T];(conv=>whnf);rw[U];refine L_ (cs:=Ab a (.func (.func g1) #[] o)) AX (Av a0) trivial (Ae.mk (OT Q aw) ?_);rintro _ H3 ⟨B1,f1,rfl,p,a1,D,J⟩;obtain⟨g2,h,rfl⟩:=J.fn;refine Bw (cs:=Ab (.star a) (.func (.func g2) #[] h)) D _ rfl (M_ ps _ 1) (by simp[Ab,Al]) rfl fun H4 g K a4=>?_;rw[X',C2 rfl]at g;have s:Q_ H4 I 142 (Ab (.star a) (.func (.func g2) #[] h)):=g.blk _ (M_ ps _ 1);refine lN (cs:=Ab (.star a) (.func (.func g2) #[] h)) AX (Av s) ?_;have e:Cf a m n= .star a:=by unfold Cf;rw[F_ h1.2,F_ h1.1]
  rw[e];exact⟨B1,_,rfl,p,(q.trans (a1.mono fun k b=>Ar q b)).trans (K.mono fun k b=>by have:k<H.size:=b;omega),g.lft.rebase,J.frame g.old fun k b=>b⟩
 by_cases h2:m=0∧n=0
 ·have T:((m:Int)==0)=true:=by rw[h2.1];rfl
  have U:decide (n<0)=false:=V_;have d3:(n==0)=true:=by rw[h2.2];rfl
  (conv=>whnf);rw[T];(conv=>whnf);rw[U];(conv=>whnf);rw[T];(conv=>whnf);rw[d3];refine Ax underlying98 rfl _ rfl [] rfl (Ae.mk (Rq (r:=.eps) Q rfl) ?_);rintro _ H3 ⟨B1,f1,rfl,p,a1,D,J⟩;obtain⟨g2,h,rfl⟩:=J.fn;refine Bw (cs:=Ab .eps (.func (.func g2) #[] h)) D _ rfl (M_ ps _ 1) (by simp[Ab,Al]) rfl fun H4 g K a4=>?_;rw[X',C2 rfl]at g;have s:Q_ H4 I 142 (Ab .eps (.func (.func g2) #[] h)):=g.blk _ (M_ ps _ 1);refine lN (cs:=Ab .eps (.func (.func g2) #[] h)) AX (Av s) ?_;have e:Cf a m n= .eps:=by unfold Cf;rw[D_ (by omega),F_ h2.2]
  rw[e];exact⟨B1,_,rfl,p,(q.trans (a1.mono fun k b=>Ar q b)).trans (K.mono fun k b=>by have:k<H.size:=b;omega),g.lft.rebase,J.frame g.old fun k b=>b⟩
 by_cases ax:m=0
 ·have T:((m:Int)==0)=true:=by rw[ax];rfl
  have U:decide (n<0)=false:=V_;have d3:(n==0)=false:=beq_eq_false_iff_ne.2 (by omega);(conv=>whnf);rw[T];(conv=>whnf);rw[U];(conv=>whnf);rw[T];(conv=>whnf);rw[d3];refine L_ (cs:=Ab a (.func (.func g1) #[] o)) AX (Av a0) trivial (Am (.agg Al.toArray) Al Dq rfl ?_);intro L H3 a5 a6 a7 V;have D:=Q.box a5 a6 a7 V;rw[YaN]at D;refine Bw (cs:=Ab a (.func (.func g1) #[] o)) D _ rfl (M_ ps _ 2) (by simp[Ab,Al]) rfl fun H4 g K a4=>?_;rw[X']at g;replace g:B_ B H0 H4 (MH ps P I L a a (.func (.func g1) #[] o) (.func (.func g1) #[] o)):=by
   have e:Ai Al 0 (Ab a (.func (.func g1) #[] o))=Ab a (.func (.func g1) #[] o):=C2 rfl;have:=g;rw[e]at this;exact this
  have R:C_ (H_ H) H H4:=(q.trans (V.mono fun k b=>by have:=Ar q b;omega)).trans (K.mono fun k b=>by have:k<H.size:=b;omega);have O:C_ B H H4:=R.mono fun k b=>st.up b;have n3:H.size≤L:=by have:=Bv q;omega
  have n6:H.size≤I:=by have:=Bv (show C_ (H_ H) H H1 from Z.mono fun k b=>by have:k<H.size:=b;omega);omega
  (conv=>whnf);refine An.cut [] (fun _:Unit=>[]) (fun _ G=>WU B H ps P I L a ((BZ a m 1).getD .eps) (.func (.func g1) #[] o) G) ?_ ?_
  ·(conv=>whnf);rw[T];refine L_ (cs:=Ab a (.func (.func g1) #[] o)) AX (Av (g.blk _ (Ep _ _))) trivial (Ae.mk (Nk g (Y.frame O fun k b=>b)) ?_);rintro _ H5 ⟨B1,f1,rfl,p,a1,ay,J⟩;obtain⟨g2,h,rfl⟩:=J.fn;refine Bw (cs:=Ab (Bm a) (.func (.func g2) #[] h)) ay _ rfl (M_ ps _ 2) (by simp[Ab]) rfl fun H6 W az b6=>?_;unfold MH at W;rw[X']at W;have e6:Ai (Ab a (.func (.func g1) #[] o)) 0 (Ab (Bm a) (.func (.func g2) #[] h))=Ab (Bm a) (.func (.func g2) #[] h):=C2 rfl;rw[e6]at W;(conv=>whnf);have ak:C_ (H_ H) H H6:=(R.trans (a1.mono fun k b=>Ar R b)).trans (az.mono fun k b=>by have:k<H.size:=b;omega);refine⟨rfl,(),rfl,⟨B1,.func (.func g2) #[] h,p,ak,?_,Y.frame (ak.mono fun k b=>st.up b) p,?_⟩⟩
   ·rw[Jq,D_ (by omega)];exact W.rebase
   ·rw[Jq,D_ (by omega)];exact J.frame W.old fun k b=>b
  ·rintro⟨⟩ G0 a8 X;(conv=>whnf);refine A0.mk [8] (fun k:Nat=>[A_ k]) (fun k G=>1≤k∧k≤max m 1∧WU B H ps P I L a ((BZ a m k).getD .eps) (.func (.func g1) #[] o) G) (fun k _=>max m 1-k) ?_ ?_
   ·(conv=>whnf);exact⟨1,rfl,I_ _,by omega,X⟩
   ·rintro k G a9 ⟨M,ab,⟨B1,f1,p,A,d,S,C⟩⟩;obtain⟨t,u,rfl⟩:=C.fn;refine AG.m2 (fun hz=>?_) (fun hz=>?_)
    ·(conv=>whnf);try (refine An.run ?_)
     refine L_ (cs:=Ab ((BZ a m k).getD .eps) (.func (.func t) #[] u)) AX (Av (d.blk _ (M_ ps _ 2))) trivial (L_ (cs:=Ab a (.func (.func g1) #[] o)) AX (Av (d.blk _ (Ep ps _))) trivial (Ae.mk (F3 .cat d C S) ?_));rintro _ G1 ⟨B2,f2,rfl,E,v,w,F⟩;obtain⟨g2,h,rfl⟩:=F.fn;refine Bw (cs:=Ab (opR .cat ((BZ a m k).getD .eps) a) (.func (.func g2) #[] h)) w _ rfl (M_ ps _ 2) (by simp[Ab]) rfl fun G3 i j N=>?_;unfold MH at i;rw[X']at i;have e:Ai (Ab ((BZ a m k).getD .eps) (.func (.func t) #[] u)) 0 (Ab (opR .cat ((BZ a m k).getD .eps) a) (.func (.func g2) #[] h))=Ab (opR .cat ((BZ a m k).getD .eps) a) (.func (.func g2) #[] h):=C2 rfl;rw[e]at i;(conv=>whnf);rw[P_ k (by omega)];have y:C_ (H_ H) H G3:=(A.trans (v.mono fun k b=>Ar A b)).trans (j.mono fun k b=>by have:k<H.size:=b;omega);refine⟨rfl,k+1,rfl,⟨by omega,by omega,⟨B2,.func (.func g2) #[] h,fun k b=>E k (p k b),y,?_,Y.frame (y.mono fun k b=>st.up b) fun k b=>E k (p k b),?_⟩⟩,by omega⟩
     ·rw[D1 _ _ _ M,F_ (by omega)];exact i.rebase
     ·rw[D1 _ _ _ M,F_ (by omega)];exact F.frame i.old fun k b=>b
    ·obtain rfl:k=max m 1:=by omega
     by_cases hn:n<0
     ·have U:decide (n<0)=true:=n_ hn;have ae:max m 1=m:=by omega
      rw[ae]at C d;(conv=>whnf);try (refine An.run ?_)
      (conv=>whnf);rw[U];refine Aq.heldZ (H_ G) [4] (sq [0,1] (.f 2 (.f 3 (.f 4 .e)))) rfl (by kernel_rfl) (L_ (cs:=Ab ((BZ a m m).getD .eps) (.func (.func t) #[] u)) AX (Av (d.blk _ (M_ ps _ 2))) ((d.in_ _ (M_ ps _ 2) (k:=L) rfl).2) (L_ (cs:=Ab a (.func (.func g1) #[] o)) AX (Av (d.blk _ (Ep ps _))) ((d.in_ _ (Ep ps _) (k:=P) rfl).2) (Ae.mk (OT d S) ?_)));rintro _ G1 ⟨B2,f2,rfl,E,v,w,J⟩;refine⟨v,?_⟩;have l:C_ B1 G G1:=v.mono fun k b=>d.up b;refine Ae.mk (F3 .cat w (C.frame l E) J) ?_;rintro _ G2 ⟨B3,f3,rfl,s3,a3,i,F⟩;have z:=v.trans (a3.mono fun k b=>Ar v b);refine⟨z,?_⟩;obtain⟨g2,h,rfl⟩:=F.fn;refine Bw (cs:=Ab (opR .cat ((BZ a m m).getD .eps) (.star a)) (.func (.func g2) #[] h)) i _ rfl (M_ ps _ 1) (by simp[Ab,Al]) rfl fun G3 c j N=>?_;unfold MH at c;rw[X',C2 rfl]at c;have s:Q_ G3 I 142 (Ab (opR .cat ((BZ a m m).getD .eps) (.star a)) (.func (.func g2) #[] h)):=c.blk _ (M_ ps _ 1);refine lN (cs:=Ab (opR .cat ((BZ a m m).getD .eps) (.star a)) (.func (.func g2) #[] h)) AX (Av s) ?_;have e:Cf a m n=opR .cat ((BZ a m m).getD .eps) (.star a):=by unfold Cf;rw[F_ hn,D_ (by omega)]<;>rfl
      rw[e];exact⟨B3,_,rfl,fun k b=>s3 k (E k (p k b)),(A.trans (z.mono fun k b=>Ar A b)).trans (j.mono fun k b=>by have:k<H.size:=b;omega),c.lft.rebase,F.frame c.old fun k b=>b⟩
     ·have U:decide (n<0)=false:=j_ hn;obtain⟨nn,rfl⟩:=YbS (show 0≤n by omega);(conv=>whnf);try (refine An.run ?_)
      (conv=>whnf);refine A0.mk [8] (fun k:Nat=>[A_ k]) (fun k G=>max m 1≤k∧k≤nn∧WU B H ps P I L a ((BZ a m k).getD .eps) (.func (.func g1) #[] o) G) (fun k _=>nn-k) ?_ ?_
      ·(conv=>whnf);exact⟨max m 1,rfl,I_ _,by omega,⟨B1,.func (.func t) #[] u,p,A,d,S,C⟩⟩
      ·clear p A d S C B1;rintro k G ah ⟨M,ab,⟨B1,f1,p,A,d,S,C⟩⟩;obtain⟨t,u,rfl⟩:=C.fn;refine AG.m2 (fun hz=>?_) (fun hz=>?_)
       ·(conv=>whnf);try (refine An.run ?_)
        refine Aq.heldZ (H_ G) [4] (sq [0,1] (.f 2 (.f 3 (.f 4 .e)))) rfl (by kernel_rfl) (L_ (cs:=Ab ((BZ a m k).getD .eps) (.func (.func t) #[] u)) AX (Av (d.blk _ (M_ ps _ 2))) ((d.in_ _ (M_ ps _ 2) (k:=L) rfl).2) (L_ (cs:=Ab a (.func (.func g1) #[] o)) AX (Av (d.blk _ (Ep ps _))) ((d.in_ _ (Ep ps _) (k:=P) rfl).2) (Ae.mk (Nk d S) ?_)));rintro _ G1 ⟨B2,f2,rfl,E,v,w,J⟩;refine⟨v,?_⟩;have l:C_ B1 G G1:=v.mono fun k b=>d.up b;refine Ae.mk (F3 .cat w (C.frame l E) J) ?_;rintro _ G2 ⟨B3,f3,rfl,s3,a3,i,F⟩;have z:=v.trans (a3.mono fun k b=>Ar v b);refine⟨z,?_⟩;obtain⟨g2,h,rfl⟩:=F.fn;refine Bw (cs:=Ab (opR .cat ((BZ a m k).getD .eps) (Bm a)) (.func (.func g2) #[] h)) i _ rfl (M_ ps _ 2) (by simp[Ab]) rfl fun G3 c j N=>?_;unfold MH at c;rw[X']at c;have e:Ai (Ab ((BZ a m k).getD .eps) (.func (.func t) #[] u)) 0 (Ab (opR .cat ((BZ a m k).getD .eps) (Bm a)) (.func (.func g2) #[] h))=Ab (opR .cat ((BZ a m k).getD .eps) (Bm a)) (.func (.func g2) #[] h):=C2 rfl;rw[e]at c;(conv=>whnf);rw[P_ k (by omega)];have y:C_ (H_ H) H G3:=(A.trans (z.mono fun k b=>Ar A b)).trans (j.mono fun k b=>by have:k<H.size:=b;omega);refine⟨rfl,k+1,rfl,⟨by omega,by omega,⟨B3,.func (.func g2) #[] h,fun k b=>s3 k (E k (p k b)),y,?_,Y.frame (y.mono fun k b=>st.up b) fun k b=>s3 k (E k (p k b)),?_⟩⟩,by omega⟩
        ·rw[D1 _ _ _ (by omega),D_ (by omega)];exact c.rebase
        ·rw[D1 _ _ _ (by omega),D_ (by omega)];exact F.frame c.old fun k b=>b
       ·obtain rfl:k=nn:=by omega
        refine L_ (cs:=Ab ((BZ a m k).getD .eps) (.func (.func t) #[] u)) AX (Av (d.blk _ (M_ ps _ 2))) trivial (Bw (cs:=Ab ((BZ a m k).getD .eps) (.func (.func t) #[] u)) d _ rfl (M_ ps _ 1) (by simp[Ab,Al]) rfl fun G3 c j N=>?_);unfold MH at c;rw[X',C2 rfl]at c;have s:Q_ G3 I 142 (Ab ((BZ a m k).getD .eps) (.func (.func t) #[] u)):=c.blk _ (M_ ps _ 1);refine lN (cs:=Ab ((BZ a m k).getD .eps) (.func (.func t) #[] u)) AX (Av s) ?_;have e:Cf a m (k:Int)=(BZ a m k).getD .eps:=by unfold Cf;rw[D_ (by omega),D_ (by omega),U']
        rw[e];exact⟨B1,_,rfl,p,A.trans (j.mono fun k b=>by have:k<H.size:=b;omega),c.lft.rebase,C.frame c.old fun k b=>b⟩
 ·have T:((m:Int)==0)=false:=beq_eq_false_iff_ne.2 (by omega);(conv=>whnf);rw[T];(conv=>whnf);rw[T];refine L_ (cs:=Ab a (.func (.func g1) #[] o)) AX (Av a0) trivial (Am (.agg Al.toArray) Al Dq rfl ?_);intro L H3 a5 a6 a7 V;have D:=Q.box a5 a6 a7 V;rw[YaN]at D;refine Bw (cs:=Ab a (.func (.func g1) #[] o)) D _ rfl (M_ ps _ 2) (by simp[Ab,Al]) rfl fun H4 g K a4=>?_;rw[X']at g;replace g:B_ B H0 H4 (MH ps P I L a a (.func (.func g1) #[] o) (.func (.func g1) #[] o)):=by
   have e:Ai Al 0 (Ab a (.func (.func g1) #[] o))=Ab a (.func (.func g1) #[] o):=C2 rfl;have:=g;rw[e]at this;exact this
  have R:C_ (H_ H) H H4:=(q.trans (V.mono fun k b=>by have:=Ar q b;omega)).trans (K.mono fun k b=>by have:k<H.size:=b;omega);have O:C_ B H H4:=R.mono fun k b=>st.up b;have n3:H.size≤L:=by have:=Bv q;omega
  have n6:H.size≤I:=by have:=Bv (show C_ (H_ H) H H1 from Z.mono fun k b=>by have:k<H.size:=b;omega);omega
  (conv=>whnf);refine An.cut [] (fun _:Unit=>[]) (fun _ G=>WU B H ps P I L a ((BZ a m 1).getD .eps) (.func (.func g1) #[] o) G) ?_ ?_
  ·(conv=>whnf);rw[T];(conv=>whnf);refine⟨rfl,(),rfl,⟨B,.func (.func g1) #[] o,fun k b=>b,R,?_,Y.frame O fun k b=>b,?_⟩⟩
   ·rw[Jq,F_ (by omega)];exact g.rebase
   ·rw[Jq,F_ (by omega)];exact Y.frame O fun k b=>b
  ·rintro⟨⟩ G0 a8 X;(conv=>whnf);refine A0.mk [8] (fun k:Nat=>[A_ k]) (fun k G=>1≤k∧k≤max m 1∧WU B H ps P I L a ((BZ a m k).getD .eps) (.func (.func g1) #[] o) G) (fun k _=>max m 1-k) ?_ ?_
   ·(conv=>whnf);exact⟨1,rfl,I_ _,by omega,X⟩
   ·rintro k G a9 ⟨M,ab,⟨B1,f1,p,A,d,S,C⟩⟩;obtain⟨t,u,rfl⟩:=C.fn;refine AG.m2 (fun hz=>?_) (fun hz=>?_)
    ·(conv=>whnf);try (refine An.run ?_)
     refine L_ (cs:=Ab ((BZ a m k).getD .eps) (.func (.func t) #[] u)) AX (Av (d.blk _ (M_ ps _ 2))) trivial (L_ (cs:=Ab a (.func (.func g1) #[] o)) AX (Av (d.blk _ (Ep ps _))) trivial (Ae.mk (F3 .cat d C S) ?_));rintro _ G1 ⟨B2,f2,rfl,E,v,w,F⟩;obtain⟨g2,h,rfl⟩:=F.fn;refine Bw (cs:=Ab (opR .cat ((BZ a m k).getD .eps) a) (.func (.func g2) #[] h)) w _ rfl (M_ ps _ 2) (by simp[Ab]) rfl fun G3 i j N=>?_;unfold MH at i;rw[X']at i;have e:Ai (Ab ((BZ a m k).getD .eps) (.func (.func t) #[] u)) 0 (Ab (opR .cat ((BZ a m k).getD .eps) a) (.func (.func g2) #[] h))=Ab (opR .cat ((BZ a m k).getD .eps) a) (.func (.func g2) #[] h):=C2 rfl;rw[e]at i;(conv=>whnf);rw[P_ k (by omega)];have y:C_ (H_ H) H G3:=(A.trans (v.mono fun k b=>Ar A b)).trans (j.mono fun k b=>by have:k<H.size:=b;omega);refine⟨rfl,k+1,rfl,⟨by omega,by omega,⟨B2,.func (.func g2) #[] h,fun k b=>E k (p k b),y,?_,Y.frame (y.mono fun k b=>st.up b) fun k b=>E k (p k b),?_⟩⟩,by omega⟩
     ·rw[D1 _ _ _ M,F_ (by omega)];exact i.rebase
     ·rw[D1 _ _ _ M,F_ (by omega)];exact F.frame i.old fun k b=>b
    ·obtain rfl:k=max m 1:=by omega
     by_cases hn:n<0
     ·have U:decide (n<0)=true:=n_ hn;have ae:max m 1=m:=by omega
      rw[ae]at C d;(conv=>whnf);try (refine An.run ?_)
      (conv=>whnf);rw[U];refine Aq.heldZ (H_ G) [4] (sq [0,1] (.f 2 (.f 3 (.f 4 .e)))) rfl (by kernel_rfl) (L_ (cs:=Ab ((BZ a m m).getD .eps) (.func (.func t) #[] u)) AX (Av (d.blk _ (M_ ps _ 2))) ((d.in_ _ (M_ ps _ 2) (k:=L) rfl).2) (L_ (cs:=Ab a (.func (.func g1) #[] o)) AX (Av (d.blk _ (Ep ps _))) ((d.in_ _ (Ep ps _) (k:=P) rfl).2) (Ae.mk (OT d S) ?_)));rintro _ G1 ⟨B2,f2,rfl,E,v,w,J⟩;refine⟨v,?_⟩;have l:C_ B1 G G1:=v.mono fun k b=>d.up b;refine Ae.mk (F3 .cat w (C.frame l E) J) ?_;rintro _ G2 ⟨B3,f3,rfl,s3,a3,i,F⟩;have z:=v.trans (a3.mono fun k b=>Ar v b);refine⟨z,?_⟩;obtain⟨g2,h,rfl⟩:=F.fn;refine Bw (cs:=Ab (opR .cat ((BZ a m m).getD .eps) (.star a)) (.func (.func g2) #[] h)) i _ rfl (M_ ps _ 1) (by simp[Ab,Al]) rfl fun G3 c j N=>?_;unfold MH at c;rw[X',C2 rfl]at c;have s:Q_ G3 I 142 (Ab (opR .cat ((BZ a m m).getD .eps) (.star a)) (.func (.func g2) #[] h)):=c.blk _ (M_ ps _ 1);refine lN (cs:=Ab (opR .cat ((BZ a m m).getD .eps) (.star a)) (.func (.func g2) #[] h)) AX (Av s) ?_;have e:Cf a m n=opR .cat ((BZ a m m).getD .eps) (.star a):=by unfold Cf;rw[F_ hn,D_ (by omega)]<;>rfl
      rw[e];exact⟨B3,_,rfl,fun k b=>s3 k (E k (p k b)),(A.trans (z.mono fun k b=>Ar A b)).trans (j.mono fun k b=>by have:k<H.size:=b;omega),c.lft.rebase,F.frame c.old fun k b=>b⟩
     ·have U:decide (n<0)=false:=j_ hn;obtain⟨nn,rfl⟩:=YbS (show 0≤n by omega);(conv=>whnf);try (refine An.run ?_)
      (conv=>whnf);refine A0.mk [8] (fun k:Nat=>[A_ k]) (fun k G=>max m 1≤k∧k≤nn∧WU B H ps P I L a ((BZ a m k).getD .eps) (.func (.func g1) #[] o) G) (fun k _=>nn-k) ?_ ?_
      ·(conv=>whnf);exact⟨max m 1,rfl,I_ _,by omega,⟨B1,.func (.func t) #[] u,p,A,d,S,C⟩⟩
      ·clear p A d S C B1;rintro k G ah ⟨M,ab,⟨B1,f1,p,A,d,S,C⟩⟩;obtain⟨t,u,rfl⟩:=C.fn;refine AG.m2 (fun hz=>?_) (fun hz=>?_)
       ·(conv=>whnf);try (refine An.run ?_)
        refine Aq.heldZ (H_ G) [4] (sq [0,1] (.f 2 (.f 3 (.f 4 .e)))) rfl (by kernel_rfl) (L_ (cs:=Ab ((BZ a m k).getD .eps) (.func (.func t) #[] u)) AX (Av (d.blk _ (M_ ps _ 2))) ((d.in_ _ (M_ ps _ 2) (k:=L) rfl).2) (L_ (cs:=Ab a (.func (.func g1) #[] o)) AX (Av (d.blk _ (Ep ps _))) ((d.in_ _ (Ep ps _) (k:=P) rfl).2) (Ae.mk (Nk d S) ?_)));rintro _ G1 ⟨B2,f2,rfl,E,v,w,J⟩;refine⟨v,?_⟩;have l:C_ B1 G G1:=v.mono fun k b=>d.up b;refine Ae.mk (F3 .cat w (C.frame l E) J) ?_;rintro _ G2 ⟨B3,f3,rfl,s3,a3,i,F⟩;have z:=v.trans (a3.mono fun k b=>Ar v b);refine⟨z,?_⟩;obtain⟨g2,h,rfl⟩:=F.fn;refine Bw (cs:=Ab (opR .cat ((BZ a m k).getD .eps) (Bm a)) (.func (.func g2) #[] h)) i _ rfl (M_ ps _ 2) (by simp[Ab]) rfl fun G3 c j N=>?_;unfold MH at c;rw[X']at c;have e:Ai (Ab ((BZ a m k).getD .eps) (.func (.func t) #[] u)) 0 (Ab (opR .cat ((BZ a m k).getD .eps) (Bm a)) (.func (.func g2) #[] h))=Ab (opR .cat ((BZ a m k).getD .eps) (Bm a)) (.func (.func g2) #[] h):=C2 rfl;rw[e]at c;(conv=>whnf);rw[P_ k (by omega)];have y:C_ (H_ H) H G3:=(A.trans (z.mono fun k b=>Ar A b)).trans (j.mono fun k b=>by have:k<H.size:=b;omega);refine⟨rfl,k+1,rfl,⟨by omega,by omega,⟨B3,.func (.func g2) #[] h,fun k b=>s3 k (E k (p k b)),y,?_,Y.frame (y.mono fun k b=>st.up b) fun k b=>s3 k (E k (p k b)),?_⟩⟩,by omega⟩
        ·rw[D1 _ _ _ (by omega),D_ (by omega)];exact c.rebase
        ·rw[D1 _ _ _ (by omega),D_ (by omega)];exact F.frame c.old fun k b=>b
       ·obtain rfl:k=nn:=by omega
        refine L_ (cs:=Ab ((BZ a m k).getD .eps) (.func (.func t) #[] u)) AX (Av (d.blk _ (M_ ps _ 2))) trivial (Bw (cs:=Ab ((BZ a m k).getD .eps) (.func (.func t) #[] u)) d _ rfl (M_ ps _ 1) (by simp[Ab,Al]) rfl fun G3 c j N=>?_);unfold MH at c;rw[X',C2 rfl]at c;have s:Q_ G3 I 142 (Ab ((BZ a m k).getD .eps) (.func (.func t) #[] u)):=c.blk _ (M_ ps _ 1);refine lN (cs:=Ab ((BZ a m k).getD .eps) (.func (.func t) #[] u)) AX (Av s) ?_;have e:Cf a m (k:Int)=(BZ a m k).getD .eps:=by unfold Cf;rw[D_ (by omega),D_ (by omega),U']
        rw[e];exact⟨B1,_,rfl,p,A.trans (j.mono fun k b=>by have:k<H.size:=b;omega),c.lft.rebase,C.frame c.old fun k b=>b⟩
def KZ(c:Nat):Int:=match D6 c with
 | some v=>(v:Int)
 | none=> -1
theorem Ve{H:Aa}{c:Nat}(e:c<256):BM prog 173 #[.int .u8 (c:Int)] H (.int .i64 (KZ c)):=by
 refine Ak.of_vc func173 rfl (call173 _) ?_;(conv=>whnf);by_cases b:48≤c
 ·skip
  have a:decide ((c:Int)≥48)=true:=e_;(conv=>whnf);rw[a];clear a;by_cases d:c≤57
  ·skip
   have a:decide ((c:Int)≤57)=true:=e_;(conv=>whnf);rw[a];clear a;(conv=>whnf);rw[w8 (x:=(c:Int)-48) (by omega) (by omega)];(conv=>whnf);rw[W_ (x:=(c:Int)-48) (by omega)];(conv=>whnf);refine⟨?_,C_.refl _ _⟩;have:D6 c=some (c-48):=by unfold D6;rw[F_ (by omega)]
   unfold KZ;rw[this];show Value.int .i64 ((c:Int)-48)=Value.int .i64 ((c-48:Nat):Int)
   congr 1;omega
  ·skip
   have a:decide ((c:Int)≤57)=false:=V_;(conv=>whnf);rw[a];clear a;by_cases b:97≤c
   ·skip
    have a:decide ((c:Int)≥97)=true:=e_;(conv=>whnf);rw[a];clear a;by_cases d:c≤102
    ·skip
     have a:decide ((c:Int)≤102)=true:=e_;(conv=>whnf);rw[a];clear a;(conv=>whnf);rw[w8 (x:=(c:Int)-97) (by omega) (by omega)];(conv=>whnf);rw[W_ (x:=(c:Int)-97) (by omega)];(conv=>whnf);rw[W_ (x:=(c:Int)-97+10) (by omega)];(conv=>whnf);refine⟨?_,C_.refl _ _⟩;have:D6 c=some (c-87):=by unfold D6;rw[D_ (by omega),F_ (by omega)]
     unfold KZ;rw[this];show Value.int .i64 ((c:Int)-97+10)=Value.int .i64 ((c-87:Nat):Int)
     congr 1;omega
    ·skip
     have a:decide ((c:Int)≤102)=false:=V_;(conv=>whnf);rw[a];clear a;(conv=>whnf);refine⟨?_,C_.refl _ _⟩;have:D6 c=none:=by unfold D6;rw[D_ (by omega),D_ (by omega)]
     unfold KZ;rw[this]
   ·skip
    have a:decide ((c:Int)≥97)=false:=V_;(conv=>whnf);rw[a];clear a;(conv=>whnf);refine⟨?_,C_.refl _ _⟩;have:D6 c=none:=by unfold D6;rw[D_ (by omega),D_ (by omega)]
    unfold KZ;rw[this]
 ·skip
  have a:decide ((c:Int)≥48)=false:=V_;(conv=>whnf);rw[a];clear a;have a:decide ((c:Int)≥97)=false:=V_;(conv=>whnf);rw[a];clear a;(conv=>whnf);refine⟨?_,C_.refl _ _⟩;have:D6 c=none:=by unfold D6;rw[D_ (by omega),D_ (by omega)]
  unfold KZ;rw[this]
def MF(t:ByteArray)(i:Nat)(inner:Bool):v_:=match B0 t (if inner then Cl else DP) i with
 | .inl e=>.tuple #[.int .u8 0,A_ 0,A_ e]
 | .inr (c,j)=>.tuple #[.int .u8 (c:Int),A_ j,A_ (-1)]
theorem EX{t:ByteArray}{i e:Nat}{inner:Bool}(h:B0 t (if inner then Cl else DP) i= .inl e):Value.tuple #[.int .u8 0,A_ 0,A_ e]=MF t i inner:=by unfold MF;rw[h]
theorem Hh{t:ByteArray}{i c j:Nat}{inner:Bool}(h:B0 t (if inner then Cl else DP) i= .inr (c,j)):Value.tuple #[.int .u8 (c:Int),A_ j,A_ (-1)]=MF t i inner:=by unfold MF;rw[h]
theorem EW{H:Aa}{t:ByteArray}{i:Nat}{inner:Bool}(ht:t.size≤1152921504606846976)(ag:i≤t.size):BM prog 134 #[.string t,A_ i,.bool inner] H (MF t i inner):=by
 refine Ak.of_vc func134 rfl (call134 _) ?_;by_cases hi:i<t.size
 case neg=>
  have n:=C6 hi;have d:decide ((i:Int)≥(t.size:Int))=true:=e_;obtain rfl:i=t.size:=by omega
  (conv=>whnf);rw[d];(conv=>whnf);exact⟨EX (by unfold B0;rw[n,D_ (by decide),F_ (.inr (.inl (by decide)))]),C_.refl _ _⟩
 have⟨b,W,X,J⟩:=Dl hi;have d0:decide ((i:Int)≥(t.size:Int))=false:=V_;(conv=>whnf);rw[d0];refine DQ Fw rfl W ?_;rw[←X];by_cases C:bt t i=92
 case neg=>
  obtain⟨c,D⟩:∃c,c=bt t i:=⟨_,rfl⟩;rw[←D]at J C ⊢;have dn:((c:Int) != (92:Int))=true:=by rw[bne_iff_ne];omega
  have l:B0 t (if inner then Cl else DP) i=if c<32∨126<c∨spB (if inner then Cl else DP) c=true then .inl i else .inr (c,i+1):=by unfold B0;rw[←D,D_ C]
  (conv=>whnf);rw[dn];(conv=>whnf);by_cases E:c<32
  ·skip
   have d:decide ((c:Int)<32)=true:=e_;(conv=>whnf);rw[d];clear d;cases inner with
   | true | false=>
     (conv=>whnf);try (refine An.run ?_)
     (conv=>whnf);exact⟨EX (by rw[l,F_ (by omega)]),C_.refl _ _⟩
  ·skip
   have d:decide ((c:Int)<32)=false:=V_;(conv=>whnf);rw[d];clear d;by_cases F:126<c
   ·skip
    have d:decide ((c:Int)>126)=true:=e_;(conv=>whnf);rw[d];clear d;cases inner with
    | true | false=>
      (conv=>whnf);try (refine An.run ?_)
      (conv=>whnf);exact⟨EX (by rw[l,F_ (by omega)]),C_.refl _ _⟩
   ·skip
    have d:decide ((c:Int)>126)=false:=V_;(conv=>whnf);rw[d];clear d;cases inner with
    | true=>
      (conv=>whnf);try (refine An.run ?_)
      refine Ah (Ad7 J) fun G L=>?_;cases p:spB Cl c with
      | true=>
        (conv=>whnf);exact⟨EX (by rw[l,F_ (.inr (.inr p))]),L⟩
      | false=>
        have q:¬(c<32∨126<c∨spB (if true=true then Cl else DP) c=true):=by
         have:spB (if true=true then Cl else DP) c=false:=p;rw[this];simp;omega
        (conv=>whnf);rw[P_ i (by omega)];(conv=>whnf);exact⟨Hh (j:=i+1) (by rw[l,D_ q]),L⟩
    | false=>
      (conv=>whnf);try (refine An.run ?_)
      refine Ah (XZ J) fun G L=>?_;cases p:spB DP c with
      | true=>
        (conv=>whnf);exact⟨EX (by rw[l,F_ (.inr (.inr p))]),L⟩
      | false=>
        have q:¬(c<32∨126<c∨spB (if false=true then Cl else DP) c=true):=by
         have:spB (if false=true then Cl else DP) c=false:=p;rw[this];simp;omega
        (conv=>whnf);rw[P_ i (by omega)];(conv=>whnf);exact⟨Hh (j:=i+1) (by rw[l,D_ q]),L⟩
 have l:B0 t (if inner then Cl else DP) i=Hw t (i+1):=by unfold B0;rw[F_ C]
 rw[C];(conv=>whnf);rw[P_ i (by omega)];by_cases M:i+1<t.size
 case neg=>
  have n:=C6 M;have d:decide ((i:Int)+1≥(t.size:Int))=true:=e_;have Y:i+1=t.size:=by omega
  (conv=>whnf);rw[d];(conv=>whnf);refine⟨?_,C_.refl _ _⟩;have:=EX (inner:=inner) (e:=i+1) (by rw[l];unfold Hw;rw[F_ n]);rw[Y]at this;exact this
 have⟨b1,Z,a0,a1⟩:=Dl M;have d:decide ((i:Int)+1≥(t.size:Int))=false:=V_;(conv=>whnf);rw[d];clear d d0;(conv=>whnf);rw[P_ i (by omega)];refine DQ (i:=i+1) Fw rfl Z ?_;rw[←a0];obtain⟨c,D⟩:∃c,c=bt t (i+1):=⟨_,rfl⟩;rw[←D]at a1 ⊢;by_cases r:c=110
 ·have d:((c:Int)==(110:Int))=true:=by rw[r];rfl
  (conv=>whnf);rw[d];(conv=>whnf);rw[W_ (x:=(i:Int)+2) (by omega)];(conv=>whnf);exact⟨Hh (c:=10) (j:=i+2) (by rw[l];unfold Hw;rw[←D,r];rfl),C_.refl _ _⟩
 have N:((c:Int)==(110:Int))=false:=beq_eq_false_iff_ne.2 (by omega);(conv=>whnf);rw[N];by_cases s:c=114
 ·have d:((c:Int)==(114:Int))=true:=by rw[s];rfl
  (conv=>whnf);rw[d];(conv=>whnf);rw[W_ (x:=(i:Int)+2) (by omega)];(conv=>whnf);exact⟨Hh (c:=13) (j:=i+2) (by rw[l];unfold Hw;rw[←D,s];rfl),C_.refl _ _⟩
 have O:((c:Int)==(114:Int))=false:=beq_eq_false_iff_ne.2 (by omega);(conv=>whnf);rw[O];by_cases u:c=116
 ·have d:((c:Int)==(116:Int))=true:=by rw[u];rfl
  (conv=>whnf);rw[d];(conv=>whnf);rw[W_ (x:=(i:Int)+2) (by omega)];(conv=>whnf);exact⟨Hh (c:=9) (j:=i+2) (by rw[l];unfold Hw;rw[←D,u];rfl),C_.refl _ _⟩
 have P:((c:Int)==(116:Int))=false:=beq_eq_false_iff_ne.2 (by omega);(conv=>whnf);rw[P];have g:Hw t (i+1)=(if c=120 then match D6 (bt t (i+1+1))with
   | none=>.inl (i+1+1)
   | some a=>match D6 (bt t (i+1+2))with
     | none=>.inl (i+1+2)
     | some b=>.inr (16*a+b,i+1+3)
  else if c<32∨126<c∨(48≤c∧c≤57)∨(97≤c∧c≤122)∨(65≤c∧c≤90)then .inl (i+1)else .inr (c,i+1+1)):=by
  unfold Hw;rw[←D,D_ (show c≠256 by omega),D_ r,D_ s,D_ u]<;>rfl
 by_cases w:c=120
 ·have d:((c:Int)==(120:Int))=true:=by rw[w];rfl
  rw[F_ w]at g;(conv=>whnf);rw[d];(conv=>whnf);refine A0.mk [11] (fun k:Nat=>[A_ k]) (fun k G=>2≤k∧k≤4∧(∀m,2≤m→m<k→(D6 (bt t (i+m))).isSome=true)∧C_ (H_ H) H G) (fun k _=>4-k) ?_ ?_
  ·(conv=>whnf);exact⟨2,rfl,by omega,by omega,fun m h1 U=>by omega,C_.refl _ _⟩
  ·rintro k G a7 ⟨ah,ai,o,y⟩;refine AG.m2 (fun hz=>?_) (fun hz=>?_)
   ·(conv=>whnf);try (refine An.run ?_)
    (conv=>whnf);rw[W_ (x:=(i:Int)+(k:Int)) (by omega)];have z:D6 (bt t (i+k))=none→B0 t (if inner then Cl else DP) i= .inl (i+k):=fun K=>by
     rw[l,g];have:k=2∨k=3:=by omega
     rcases this with rfl | rfl
     ·have K:D6 (bt t (i+1+1))=none:=K;rw[K]
     ·have U:=o 2 (by omega) (by omega);have⟨a,A⟩:=YbO.1 U;have A:D6 (bt t (i+1+1))=some a:=A;have K:D6 (bt t (i+1+2))=none:=K;rw[A];show(match D6 (bt t (i+1+2))with | none=>_ | some b=>_)=_;rw[K]
    by_cases Q:i+k<t.size
    case neg=>
     have n:=C6 Q;have d2:decide ((i:Int)+(k:Int)≥(t.size:Int))=true:=e_;(conv=>whnf);rw[d2];(conv=>whnf);rw[W_ (x:=(i:Int)+(k:Int)) (by omega)];(conv=>whnf);refine⟨?_,y⟩;exact EX (e:=i+k) (z (by rw[n];rfl))
    have⟨bk,a2,R,a3⟩:=Dl Q;have d2:decide ((i:Int)+(k:Int)≥(t.size:Int))=false:=V_;(conv=>whnf);rw[d2];(conv=>whnf);rw[W_ (x:=(i:Int)+(k:Int)) (by omega)];refine DQ (i:=i+k) Fw rfl a2 ?_;rw[←R];refine Ah (Ve a3) fun G2 B=>?_;have I:=y.trans (B.mono fun k S=>Ar y S);cases V:D6 (bt t (i+k))with
    | none=>
      have d3:decide (KZ (bt t (i+k))<0)=true:=by unfold KZ;rw[V];rfl
      (conv=>whnf);rw[d3];(conv=>whnf);rw[W_ (x:=(i:Int)+(k:Int)) (by omega)];(conv=>whnf);exact⟨EX (e:=i+k) (z V),I⟩
    | some v=>
      have d3:decide (KZ (bt t (i+k))<0)=false:=by unfold KZ;rw[V];show decide ((v:Int)<0)=false;exact V_
      (conv=>whnf);rw[d3];(conv=>whnf);rw[P_ k (by omega)];refine⟨rfl,k+1,rfl,⟨by omega,by omega,fun m h1 U=>?_,I⟩,by omega⟩;rcases Nat.lt_succ_iff_lt_or_eq.1 U with h | rfl
      ·exact o m h1 h
      ·rw[V];rfl
   ·obtain rfl:k=4:=by omega
    have⟨a,A⟩:=YbO.1 (o 2 (by omega) (by omega));have⟨b,q⟩:=YbO.1 (o 3 (by omega) (by omega));have aj:=Ia A;have ak:=Ia q;have a4:i+2<t.size:=D8 fun e=>by rw[e]at A;cases A
    have a5:i+3<t.size:=D8 fun e=>by rw[e]at q;cases q
    have⟨x2,p1,p2,p3⟩:=Dl a4;have⟨x3,q1,q2,q3⟩:=Dl a5;have ea:KZ (bt t (i+2))=(a:Int):=by unfold KZ;rw[A]
    have eb:KZ (bt t (i+3))=(b:Int):=by unfold KZ;rw[q]
    refine Aq.held (H_ G) 18 (sq [0,1,2,3,6,7,8,9,13,14] (.f 4 (sq [5] (.f 10 (sq [11,12,15,16,17] .e))))) rfl (by kernel_rfl) ?_;(conv=>whnf);rw[W_ (x:=(i:Int)+2) (by omega)];refine DQ (i:=i+2) Fw rfl p1 ?_;rw[←p2];(conv=>whnf);rw[W_ (x:=(i:Int)+3) (by omega)];refine DQ (i:=i+3) Fw rfl q1 ?_;rw[←q2];(conv=>whnf);rw[W_ (x:=(i:Int)+4) (by omega)];refine Ah (Ve p3) fun G2 B=>(⟨B,?_⟩);rw[ea];(conv=>whnf);rw[W_ (x:=16*(a:Int)) (by omega)];refine Ah (Ve q3) fun G3 a6=>?_;have T:=B.trans (a6.mono fun k S=>Ar B S);refine⟨T,?_⟩;rw[eb];(conv=>whnf);rw[W_ (x:=16*(a:Int)+(b:Int)) (by omega)];(conv=>whnf);rw[w8 (x:=16*(a:Int)+(b:Int)) (by omega) (by omega)];(conv=>whnf);refine⟨?_,y.trans (T.mono fun k S=>Ar y S)⟩;have:=Hh (t:=t) (i:=i) (inner:=inner) (c:=16*a+b) (j:=i+4) (by
     rw[l,g];have A:D6 (bt t (i+1+1))=some a:=A;have q:D6 (bt t (i+1+2))=some b:=q;rw[A];show(match D6 (bt t (i+1+2))with | none=>_ | some b=>_)=_;rw[q])
    rw[←this];rfl
 have d:((c:Int)==(120:Int))=false:=beq_eq_false_iff_ne.2 (by omega);rw[D_ w]at g;(conv=>whnf);rw[d];clear d;(conv=>whnf);by_cases E:97≤c
 ·skip
  have d:decide ((c:Int)≥97)=true:=e_;(conv=>whnf);rw[d];clear d;by_cases a8:c≤122
  ·skip
   have d:decide ((c:Int)≤122)=true:=e_;(conv=>whnf);rw[d];clear d;have d:decide ((c:Int)<32)=false:=V_;(conv=>whnf);rw[d];clear d;have d:decide ((c:Int)>126)=false:=V_;(conv=>whnf);rw[d];clear d;(conv=>whnf);rw[P_ i (by omega)];(conv=>whnf);exact⟨EX (e:=i+1) (by rw[l,g,F_ (by omega)]),C_.refl _ _⟩
  ·skip
   have d:decide ((c:Int)≤122)=false:=V_;(conv=>whnf);rw[d];clear d;have d:decide ((c:Int)≥65)=true:=e_;(conv=>whnf);rw[d];clear d;have d:decide ((c:Int)≤90)=false:=V_;(conv=>whnf);rw[d];clear d;have d:decide ((c:Int)≥48)=true:=e_;(conv=>whnf);rw[d];clear d;have d:decide ((c:Int)≤57)=false:=V_;(conv=>whnf);rw[d];clear d;have d:decide ((c:Int)<32)=false:=V_;(conv=>whnf);rw[d];clear d;by_cases F:126<c
   ·skip
    have d:decide ((c:Int)>126)=true:=e_;(conv=>whnf);rw[d];clear d;(conv=>whnf);rw[P_ i (by omega)];(conv=>whnf);exact⟨EX (e:=i+1) (by rw[l,g,F_ (by omega)]),C_.refl _ _⟩
   ·skip
    have d:decide ((c:Int)>126)=false:=V_;(conv=>whnf);rw[d];clear d;(conv=>whnf);rw[W_ (x:=(i:Int)+2) (by omega)];(conv=>whnf);exact⟨Hh (j:=i+2) (by rw[l,g,D_ (by omega)]),C_.refl _ _⟩
 ·skip
  have d:decide ((c:Int)≥97)=false:=V_;(conv=>whnf);rw[d];clear d;by_cases F:65≤c
  ·skip
   have d:decide ((c:Int)≥65)=true:=e_;(conv=>whnf);rw[d];clear d;by_cases a9:c≤90
   ·skip
    have d:decide ((c:Int)≤90)=true:=e_;(conv=>whnf);rw[d];clear d;have d:decide ((c:Int)<32)=false:=V_;(conv=>whnf);rw[d];clear d;have d:decide ((c:Int)>126)=false:=V_;(conv=>whnf);rw[d];clear d;(conv=>whnf);rw[P_ i (by omega)];(conv=>whnf);exact⟨EX (e:=i+1) (by rw[l,g,F_ (by omega)]),C_.refl _ _⟩
   ·skip
    have d:decide ((c:Int)≤90)=false:=V_;(conv=>whnf);rw[d];clear d;have d:decide ((c:Int)≥48)=true:=e_;(conv=>whnf);rw[d];clear d;have d:decide ((c:Int)≤57)=false:=V_;(conv=>whnf);rw[d];clear d;have d:decide ((c:Int)<32)=false:=V_;(conv=>whnf);rw[d];clear d;have d:decide ((c:Int)>126)=false:=V_;(conv=>whnf);rw[d];clear d;(conv=>whnf);rw[W_ (x:=(i:Int)+2) (by omega)];(conv=>whnf);exact⟨Hh (j:=i+2) (by rw[l,g,D_ (by omega)]),C_.refl _ _⟩
  ·skip
   have d:decide ((c:Int)≥65)=false:=V_;(conv=>whnf);rw[d];clear d;by_cases ab:48≤c
   ·skip
    have d:decide ((c:Int)≥48)=true:=e_;(conv=>whnf);rw[d];clear d;by_cases ae:c≤57
    ·skip
     have d:decide ((c:Int)≤57)=true:=e_;(conv=>whnf);rw[d];clear d;have d:decide ((c:Int)<32)=false:=V_;(conv=>whnf);rw[d];clear d;have d:decide ((c:Int)>126)=false:=V_;(conv=>whnf);rw[d];clear d;(conv=>whnf);rw[P_ i (by omega)];(conv=>whnf);exact⟨EX (e:=i+1) (by rw[l,g,F_ (by omega)]),C_.refl _ _⟩
    ·skip
     have d:decide ((c:Int)≤57)=false:=V_;(conv=>whnf);rw[d];clear d;have d:decide ((c:Int)<32)=false:=V_;(conv=>whnf);rw[d];clear d;have d:decide ((c:Int)>126)=false:=V_;(conv=>whnf);rw[d];clear d;(conv=>whnf);rw[W_ (x:=(i:Int)+2) (by omega)];(conv=>whnf);exact⟨Hh (j:=i+2) (by rw[l,g,D_ (by omega)]),C_.refl _ _⟩
   ·skip
    have d:decide ((c:Int)≥48)=false:=V_;(conv=>whnf);rw[d];clear d;by_cases E:c<32
    ·skip
     have d:decide ((c:Int)<32)=true:=e_;(conv=>whnf);rw[d];clear d;(conv=>whnf);rw[P_ i (by omega)];(conv=>whnf);exact⟨EX (e:=i+1) (by rw[l,g,F_ (by omega)]),C_.refl _ _⟩
    ·skip
     have d:decide ((c:Int)<32)=false:=V_;(conv=>whnf);rw[d];clear d;have d:decide ((c:Int)>126)=false:=V_;(conv=>whnf);rw[d];clear d;(conv=>whnf);rw[W_ (x:=(i:Int)+2) (by omega)];(conv=>whnf);exact⟨Hh (j:=i+2) (by rw[l,g,D_ (by omega)]),C_.refl _ _⟩
end Go.Proofs.YtfbghcpdinlmcaaGreatDoor
