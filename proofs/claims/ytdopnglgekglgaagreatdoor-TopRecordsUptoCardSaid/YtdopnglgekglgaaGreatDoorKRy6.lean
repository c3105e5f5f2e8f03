import Derived.Test.YtdopnglgekglgaaGreatDoorKRy5
import Derived.LaidEqlPtr
import Derived.Shelf.Strings.BuilderK
import Derived.Shelf.Strconv.Itoa3
set_option linter.unusedVariables false
set_option linter.unusedSimpArgs false
set_option linter.defProp false
set_option maxHeartbeats 100000000
open Array renaming replicate → AhO
open List renaming cons → AhM, replicate → Al4
open Option renaming some → AgO
set_option maxRecDepth 100000
open Go.Proofs.Tryz
open Go renaming Value → v_, TypeId → x_, World → y_, Program → w_, Operand → z_
namespace Go.Proofs.YtdopnglgekglgaaGreatDoor
open Go.Lib
def noV:Option ReM→v_
 | none=>.nilIface
 | some r=>Av r
def Tm.isC:Tm→Bool
 | .ca .. | .nil=>true
 | _=>false
def Tm.isL:Tm→Bool
 | .le .. | .nil=>true
 | _=>false
abbrev cnL(p:Nat)(op:CO)(n:Option ReM)(to back:ByteArray)(va vb:v_):List v_:=[C_ p,.string op.s,noV n,.string to,.string back,va,vb]
abbrev lnL(p:Nat)(op:LO)(n:Option ReM)(s:ByteArray)(vq va vb:v_):List v_:=[C_ p,.string op.s,noV n,.string s,vq,va,vb]
def X'(B:Nat→Prop)(H:Aa):Tm→v_→Prop
 | .ca p op n to back a b,v=>∃g va vb,v= H_ g∧B g∧K_ H g 209 (cnL p op n to back va vb)∧a.isC=true∧b.isC=true∧X' B H a va∧X' B H b vb
 | .le p op n s q a b,v=>∃g vq va vb,v= H_ g∧B g∧K_ H g 74 (lnL p op n s vq va vb)∧q.isC=true∧a.isL=true∧b.isL=true∧X' B H q vq∧X' B H a va∧X' B H b vb
 | _,v=>v= .pointer none
def tmI:Tm→v_→v_
 | .txt p s,_=>.iface 145 (.agg #[C_ p,.string s])
 | .rx p r,_=>.iface 150 (.agg #[C_ p,Av r])
 | .ca ..,v=>.iface 72 v
 | .le ..,v=>.iface 53 v
 | .nil,_=>.nilIface
def TmI(B:Nat→Prop)(H:Aa)(t:Tm)(x:v_):Prop:=∃v,X' B H t v∧x=tmI t v
section
variable{B B' S:Nat→Prop}{H0 H H':Aa}
theorem X'.up(a:∀k,B k→B' k)(b:A_ B H H'):∀{t:Tm} {v:v_},X' B H t v→X' B' H' t v
 | .txt _ _,_,h=>h
 | .rx _ _,_,h=>h
 | .nil,_,h=>h
 | .ca ..,_,⟨g,va,vb,e,hg,hb,h1,h2,h3,h4⟩=>⟨g,va,vb,e,a g hg,hb.agr b hg,h1,h2,h3.up a b,h4.up a b⟩
 | .le ..,_,⟨g,vq,va,vb,e,hg,hb,h1,h2,h3,h4,h5,h6⟩=>⟨g,vq,va,vb,e,a g hg,hb.agr b hg,h1,h2,h3,h4.up a b,h5.up a b,h6.up a b⟩
theorem TmI.up(a:∀k,B k→B' k)(b:A_ B H H'){t:Tm}{v:v_}:TmI B H t v→TmI B' H' t v
 | ⟨w,h,e⟩=>⟨w,h.up a b,e⟩
theorem YI{s:ByteArray}(hs:s.size≤1000000000):AZ prog 145 #[.string s] H (.int .i64 (Gd s:Int)):=by
 refine Al.of_vc func145 rfl (call145 _) ?_;(conv=>whnf);rw[n_ (x:=(2:Int)*s.size) (by omega),n_ (x:=(2:Int)*s.size-1) (by omega)];refine YU ?_;(conv=>whnf);exact⟨by congr 1;unfold Gd;omega,A_.refl _ _⟩
theorem XE{n:Option ReM}(a:Ey n≤1000000000):AZ prog 146 #[noV n] H (.int .i64 (Ey n:Int)):=by
 cases n with
 | none=>
   show AZ prog 146 #[.nilIface] H (.int .i64 (0:Int));refine Al.of_vc func146 rfl (call146 _) (AcD underlying66 ?_);(conv=>whnf);exact⟨rfl,A_.refl _ _⟩
 | some r=>
   show AZ prog 146 #[Av r] H (.int .i64 (r.nodes:Int));rw[C7];refine Al.of_vc func146 rfl (call146 _) (Aa3 underlying66 (Gg.mk (JR r) #[EJ r] (Jc r) (PI r a H) ?_));rintro _ H1 ⟨rfl,a1⟩;(conv=>whnf);exact⟨rfl,a1⟩
abbrev tzT:v_:=.agg #[C_ 0,.string ⟨#[]⟩]
abbrev tzR:v_:=.agg #[C_ 0,.nilIface]
abbrev tzC:v_:=.pointer none
abbrev tzL:v_:=.pointer none
theorem RB{T t:x_}{v:v_}{K:v_→Prop}(k:K (.tuple #[tzT,.bool false]))(h:T≠145:=by decide):A7 prog (Instr.typeAssert (.iface T v) t 145 true) S H K:=Cn underlying145 (by intro a h;cases h) (by kernel_rfl) h k
theorem taT1{t:x_}{v:v_}{K:v_→Prop}(k:K (.tuple #[v,.bool true])):A7 prog (Instr.typeAssert (.iface 145 v) t 145 true) S H K:=Cs underlying145 (by intro a h;cases h) k
theorem YB{T t:x_}{v:v_}{K:v_→Prop}(k:K (.tuple #[tzR,.bool false]))(h:T≠150:=by decide):A7 prog (Instr.typeAssert (.iface T v) t 150 true) S H K:=Cn underlying150 (by intro a h;cases h) (by kernel_rfl) h k
theorem taR1{t:x_}{v:v_}{K:v_→Prop}(k:K (.tuple #[v,.bool true])):A7 prog (Instr.typeAssert (.iface 150 v) t 150 true) S H K:=Cs underlying150 (by intro a h;cases h) k
theorem Tn{T t:x_}{v:v_}{K:v_→Prop}(k:K (.tuple #[tzC,.bool false]))(h:T≠72:=by decide):A7 prog (Instr.typeAssert (.iface T v) t 72 true) S H K:=Cn underlying72 (by intro a h;cases h) (by kernel_rfl) h k
theorem Wb{t:x_}{v:v_}{K:v_→Prop}(k:K (.tuple #[v,.bool true])):A7 prog (Instr.typeAssert (.iface 72 v) t 72 true) S H K:=Cs underlying72 (by intro a h;cases h) k
theorem AfM{T t:x_}{v:v_}{K:v_→Prop}(k:K (.tuple #[tzL,.bool false]))(h:T≠53:=by decide):A7 prog (Instr.typeAssert (.iface T v) t 53 true) S H K:=Cn underlying53 (by intro a h;cases h) (by kernel_rfl) h k
theorem RA{t:x_}{v:v_}{K:v_→Prop}(k:K (.tuple #[v,.bool true])):A7 prog (Instr.typeAssert (.iface 53 v) t 53 true) S H K:=Cs underlying53 (by intro a h;cases h) k
def CO.isN:CO→Bool
 | .norm=>true
 | _=>false
def LO.isI:LO→Bool
 | .ins=>true
 | _=>false
theorem Z7(op:CO):(op.s.toList==(⟨#[110,111,114,109]⟩:ByteArray).toList)=op.isN:=by
 rw[CN];cases op<;>decide
theorem AeL(op:LO):(op.s.toList==(⟨#[105,110,115]⟩:ByteArray).toList)=op.isI:=by
 rw[CN];cases op<;>decide
theorem W6{p op n to back a b}:(Tm.ca p op n to back a b).sz=1+Ey n+a.sz+b.sz+(if op.isN then Gd to else 0):=by cases op<;>rfl
theorem NY{p op n s q a b}:(Tm.le p op n s q a b).sz=1+Ey n+q.sz+a.sz+b.sz+(if op.isI then Gd s else 0):=by cases op<;>rfl
theorem UL{s:ByteArray}:s.size≤Gd s:=by unfold Gd;omega
theorem Jh:∀(t:Tm),t.sz≤1000000000→∀{B:Nat→Prop} {H:Aa} {v:v_},(∀k,B k→k<H.size)→X' B H t v→
  (t.isC=true→AZ prog 114 #[.iface 72 v] H (.int .i64 (t.sz:Int)))∧(t.isL=true→AZ prog 114 #[.iface 53 v] H (.int .i64 (t.sz:Int)))
 | .txt _ _,_,_,_,_,_,_=>⟨nofun,nofun⟩
 | .rx _ _,_,_,_,_,_,_=>⟨nofun,nofun⟩
 | .nil,_,B,H,v,hB,h=>by
   obtain rfl:=h;constructor
   all_goals
    intro _;refine Al.of_vc func114 rfl (call114 _) ?_
    repeat ((conv=>whnf);first | refine Af.run ?_ | refine RB ?_ | refine YB ?_ | refine Tn ?_ | refine Wb ?_ | refine RA ?_ | refine XU underlying72 ?_ | refine XU underlying53 ?_)
   all_goals exact⟨rfl,A_.refl _ _⟩
 | .ca p op n to back a b,hs,B,H,v,hB,h=>by
   refine⟨fun _=>?_,nofun⟩;obtain⟨g,va,vb,rfl,l,m,u,w,f,j⟩:=h;rw[W6]at hs ⊢;refine Al.of_vc func114 rfl (call114 _) ?_
   repeat ((conv=>whnf);first | refine Af.run ?_ | refine RB ?_ | refine YB ?_ | refine Wb ?_ | refine Px underlying72 ?_)
   refine Au.quiet (D_ H) rfl (by kernel_rfl) ?_;have sa:=fun{H'} (c:A_ (D_ H) H H')=>(Jh a (by omega) (B:=B) (H:=H') (fun k d=>Ae c (hB k d)) (f.up (fun _ h=>h) (c.mono hB))).1 u;have y:=fun{H'} (c:A_ (D_ H) H H')=>(Jh b (by omega) (B:=B) (H:=H') (fun k d=>Ae c (hB k d)) (j.up (fun _ h=>h) (c.mono hB))).1 w
   repeat ((conv=>whnf);first | refine F_ ?_ | refine B_ (m.cellE rfl) (hB g l) ?_ | refine EK (fun H' c=>XE (by omega)) ?_ | refine EK (fun H' c=>sa c) ?_ | refine EK (fun H' c=>y c) ?_ | rw[n_ (x:=1+(Ey n:Int)) (by omega)] | rw[n_ (x:=1+(Ey n:Int)+a.sz) (by omega)] | rw[n_ (x:=1+(Ey n:Int)+a.sz+b.sz) (by omega)])
   intro H1 a1;have e:=m.agr a1 (hB g l)
   repeat ((conv=>whnf);first | refine Af.run ?_ | refine F_ ?_ | refine B_ (e.cellE rfl) trivial ?_ | rw[Z7])
   cases r:op.isN with
   | false=>
     rw[r]at hs;(conv=>whnf);exact⟨by simp,a1⟩
   | true=>
     rw[r,I_ rfl]at hs;have:=UL (s:=to)
     repeat ((conv=>whnf);first | refine F_ ?_ | refine B_ (e.cellE rfl) trivial ?_)
     refine Ak (YI (by omega)) fun H2 a2=>?_;(conv=>whnf);rw[n_ (x:=1+(Ey n:Int)+a.sz+b.sz+Gd to) (by omega)];(conv=>whnf);exact⟨by simp,a1.trans (a2.mono fun k d=>Ae a1 d)⟩
 | .le p op n s q a b,hs,B,H,v,hB,h=>by
   refine⟨nofun,fun _=>?_⟩;obtain⟨g,vq,va,vb,rfl,l,m,A,u,w,z,f,j⟩:=h;rw[NY]at hs ⊢;refine Al.of_vc func114 rfl (call114 _) ?_
   repeat ((conv=>whnf);first | refine Af.run ?_ | refine RB ?_ | refine YB ?_ | refine Tn ?_ | refine RA ?_ | refine Px underlying53 ?_)
   refine Au.quiet (D_ H) rfl (by kernel_rfl) ?_;have sq:=fun{H'} (c:A_ (D_ H) H H')=>(Jh q (by omega) (B:=B) (H:=H') (fun k d=>Ae c (hB k d)) (z.up (fun _ h=>h) (c.mono hB))).1 A;have sa:=fun{H'} (c:A_ (D_ H) H H')=>(Jh a (by omega) (B:=B) (H:=H') (fun k d=>Ae c (hB k d)) (f.up (fun _ h=>h) (c.mono hB))).2 u;have y:=fun{H'} (c:A_ (D_ H) H H')=>(Jh b (by omega) (B:=B) (H:=H') (fun k d=>Ae c (hB k d)) (j.up (fun _ h=>h) (c.mono hB))).2 w
   repeat ((conv=>whnf);first | refine F_ ?_ | refine B_ (m.cellE rfl) (hB g l) ?_ | refine EK (fun H' c=>XE (by omega)) ?_ | refine EK (fun H' c=>sq c) ?_ | refine EK (fun H' c=>sa c) ?_ | refine EK (fun H' c=>y c) ?_ | rw[n_ (x:=1+(Ey n:Int)) (by omega)] | rw[n_ (x:=1+(Ey n:Int)+q.sz) (by omega)] | rw[n_ (x:=1+(Ey n:Int)+q.sz+a.sz) (by omega)] | rw[n_ (x:=1+(Ey n:Int)+q.sz+a.sz+b.sz) (by omega)])
   intro H1 a1;have e:=m.agr a1 (hB g l)
   repeat ((conv=>whnf);first | refine Af.run ?_ | refine F_ ?_ | refine B_ (e.cellE rfl) trivial ?_ | rw[AeL])
   cases r:op.isI with
   | false=>
     rw[r]at hs;(conv=>whnf);exact⟨by simp,a1⟩
   | true=>
     rw[r,I_ rfl]at hs;have:=UL (s:=s)
     repeat ((conv=>whnf);first | refine F_ ?_ | refine B_ (e.cellE rfl) trivial ?_)
     refine Ak (YI (by omega)) fun H2 a2=>?_;(conv=>whnf);rw[n_ (x:=1+(Ey n:Int)+q.sz+a.sz+b.sz+Gd s) (by omega)];(conv=>whnf);exact⟨by simp,a1.trans (a2.mono fun k d=>Ae a1 d)⟩
end
section
variable{B B' S:Nat→Prop}{H0 H H':Aa}
def Tm.short:Tm→Prop
 | .txt _ s=>s.size≤1048576
 | .nil=>False
 | _=>True
theorem Jp{t:Tm}{v:v_}(m:t.short):AZ prog 109 #[tmI t v] H (.tuple #[noV t.node,.bool t.node.isSome]):=by
 refine Al.of_vc func109 rfl (call109 _) ?_;cases t with
 | nil=>exact m.elim
 | ca p op n to u a b=>
   repeat ((conv=>whnf);first | refine Af.run ?_ | refine RB ?_ | refine YB ?_)
   exact⟨rfl,A_.refl _ _⟩
 | le p op n s q a b=>
   repeat ((conv=>whnf);first | refine Af.run ?_ | refine RB ?_ | refine YB ?_)
   exact⟨rfl,A_.refl _ _⟩
 | txt p s=>
   repeat ((conv=>whnf);first | refine Af.run ?_ | refine taT1 ?_)
   refine Aw tzT [C_ 0,.string ⟨#[]⟩] (by kernel_rfl) rfl ?_;intro q H1 y h j k;have l:=(St.nil H).box y h j k;refine AD (cs:=[C_ p,.string s]) l 0 rfl rfl (J_ _) rfl fun H2 c=>(F_ ?_);refine B_ ((c.blk 0 rfl).cellE rfl) trivial (Ak (YF s m H2) fun H3 a3=>?_);(conv=>whnf);exact⟨rfl,(c.call a3).old⟩
 | rx p r=>
   obtain⟨z,A,w⟩:∃t x,Av r= .iface t x:=⟨_,_,C7 r⟩;show MD (#[Value.iface 150 (.agg #[C_ p,Av r])].toList++_) _;rw[w]
   repeat ((conv=>whnf);first | refine Af.run ?_ | refine RB ?_ | refine taR1 ?_)
   refine Aw tzR [C_ 0,.nilIface] (by kernel_rfl) rfl ?_;intro q H1 d e f g;have l:=(St.nil H).box d e f g;refine AD (cs:=[C_ p,.iface z A]) l 0 rfl rfl (J_ _) rfl fun H2 c=>(F_ ?_);refine lT ((c.blk 0 rfl).cellE rfl) ?_;(conv=>whnf);exact⟨by show _=Value.tuple #[Av r,.bool true];rw[w],c.old⟩
def p_(B:Nat→Prop)(H H':Aa)(k:Nat):Prop:=B k∨(H.size≤k∧k<H'.size)
def MkR(B:Nat→Prop)(H:Aa)(x:FT ⊕ Tm)(v:v_)(H':Aa):Prop:=∃t,x= .inr t∧A_ (D_ H) H H'∧TmI (p_ B H H') H' t v
def MkE(H:Aa){α:Type}(x:FT ⊕ α)(y:v_)(H':Aa):Prop:=∃c q,x= .inl (c,q)∧y=Bg c q∧A_ (D_ H) H H'
theorem Gc{c q:Nat}:Ay prog 41 #[C_ c,C_ q] H (fun _ _=>False) (fun y H'=>y=Bg c q∧H'=H):=by
 refine Ay.of_vc func41 rfl (call41 _) (Ah underlying27 rfl _ rfl (Ad c q) rfl ?_);(conv=>whnf);exact⟨rfl,rfl⟩
theorem X'.ptr:∀{t:Tm} {v:v_},X' B H t v→∃a,v= .pointer a
 | .txt _ _,_,h=>⟨_,h⟩
 | .rx _ _,_,h=>⟨_,h⟩
 | .nil,_,h=>⟨_,h⟩
 | .ca ..,_,⟨g,_,_,e,_⟩=>⟨_,e⟩
 | .le ..,_,⟨g,_,_,_,e,_⟩=>⟨_,e⟩
theorem X'.fr{t:Tm}{v:v_}(a:∀k,B k→k<H.size)(h:X' B H t v)(b:A_ (D_ H) H H'):X' (p_ B H H') H' t v:=h.up (fun _ h=>.inl h) (b.mono a)
theorem p_.old(a:∀k,B k→k<H.size)(b:A_ (D_ H) H H'){k:Nat}(h:p_ B H H' k):k<H'.size:=h.elim (fun h=>Ae b (a k h)) And.right
theorem X'.fr2{t:Tm}{v:v_}(b:∀k,B k→k<H.size){H2:Aa}(c:A_ (D_ H) H H')(a:A_ (D_ H') H' H2)(h:X' (p_ B H H') H' t v):X' (p_ B H H2) H2 t v:=
 h.up (fun k h=>h.elim .inl fun h=>.inr ⟨h.1,Ae a h.2⟩) (a.mono fun k h=>p_.old b c h)
theorem AbQ{t:Tm}{v v0:v_}{p:Nat}{s:ByteArray}(L:∀k,B k→k<H.size)(ht:t.short)(h:X' B H t v)(a8:v0.oneCell'=true):
  Ay prog 71 #[.agg #[C_ p,.string s,v0],tmI t v] H (MkR B H (unM p s t)) (MkE H (unM p s t)):=by
 refine Ay.of_vc func71 rfl (call71 _) (BC [C_ p,.string s,v0] rfl ?_);intro q H1 M N O P;have s1:=(St.nil H).box M N O P;refine Ab.of (Ak (Jp ht) fun H2 a2=>?_);have Q:=s1.call a2;have A:=Q.blk 0 rfl;have l:=Q.old;have d:∀{b},decide (s=W_ 42)=b→(s.toList==(⟨#[42]⟩:ByteArray).toList)=b:=fun h=>CN.trans h;have j:∀{b},decide (s=W_ 43)=b→(s.toList==(⟨#[43]⟩:ByteArray).toList)=b:=fun h=>CN.trans h;cases R:t.node with
 | some n=>
   obtain⟨D,E,V⟩:∃t x,Av n= .iface t x:=⟨_,_,C7 n⟩;show _;have a0:noV (some n)= .iface D E:=V;rw[a0];have fin:∀{r:ReM} {v:v_},unM p s t= .inr (.rx p r)→v=Av r→MkR B H (unM p s t) (.iface 150 (.agg #[C_ p,v])) H2:=fun h e=>⟨_,h,l,_,rfl,by rw[e];rfl⟩;by_cases f:s=W_ 42
   ·have d:=d (g_ f)
    repeat ((conv=>whnf);first | refine Ao.run ?_ | refine F_ ?_ | refine B_ (A.cellE rfl) trivial ?_ | rw[d] | rw[j])
    refine Ah underlying182 rfl _ rfl [.iface D E] (by kernel_rfl) (Ah underlying150 rfl _ rfl [C_ p,.iface 182 (.agg #[.iface D E])] (by kernel_rfl) ?_);(conv=>whnf);exact fin (r:=.star n) (by simp only[unM,R,I_ f]) (by rw[←V];rfl)
   have d:=d (a_ f);by_cases m:s=W_ 43
   ·have j:=j (g_ m)
    repeat ((conv=>whnf);first | refine Ao.run ?_ | refine F_ ?_ | refine B_ (A.cellE rfl) trivial ?_ | rw[d] | rw[j])
    refine Ah underlying182 rfl _ rfl [.iface D E] (by kernel_rfl) (Ah underlying179 rfl _ rfl [.iface D E,.iface 182 (.agg #[.iface D E])] (by kernel_rfl) (Ah underlying150 rfl _ rfl [C_ p,.iface 179 (.agg #[.iface D E,.iface 182 (.agg #[.iface D E])])] (by kernel_rfl) ?_));(conv=>whnf);exact fin (r:=.cat n (.star n)) (by simp only[unM,R,G_ f,I_ m]) (by rw[←V];rfl)
   have j:=j (a_ m)
   repeat ((conv=>whnf);first | refine Ao.run ?_ | refine F_ ?_ | refine B_ (A.cellE rfl) trivial ?_ | rw[d] | rw[j])
   refine Ah underlying167 rfl _ rfl [] (by kernel_rfl) (Ah underlying174 rfl _ rfl [.iface D E,.iface 167 (.agg #[])] (by kernel_rfl) (Ah underlying150 rfl _ rfl [C_ p,.iface 174 (.agg #[.iface D E,.iface 167 (.agg #[])])] (by kernel_rfl) ?_));(conv=>whnf);exact fin (r:=.alt n .eps) (by simp only[unM,R,G_ f,G_ m]) (by rw[←V];rfl)
 | none=>
   have C:=h.fr L l;obtain⟨a,rfl⟩:=h.ptr;have z2:=Ap l;cases t with
   | txt=>cases R
   | rx=>cases R
   | nil=>exact ht.elim
   | ca cp a5 cn a6 J a7 cb=>
     by_cases f:s=W_ 42
     ·have d:=d (g_ f)
      repeat ((conv=>whnf);first | refine Ao.run ?_ | refine Wb ?_ | refine F_ ?_ | refine B_ (A.cellE rfl) trivial ?_ | rw[d] | rw[j])
      refine Ah underlying209 rfl _ rfl (cnL p .star none nx nx (.pointer a) (.pointer none)) (by kernel_rfl) (BC (cnL p .star none nx nx (.pointer a) (.pointer none)) rfl ?_);intro g H3 w S u z;(conv=>whnf);exact⟨.ca p .star none nx nx (.ca cp a5 cn a6 J a7 cb) .nil,by simp only[unM,Tm.node,I_ f],(Q.skip w z).old,_,⟨g,_,_,rfl,.inr ⟨by omega,u.lt⟩,u,rfl,rfl,C.fr2 L l (z.new w),rfl⟩,rfl⟩
     ·have d:=d (a_ f)
      repeat ((conv=>whnf);first | refine Ao.run ?_ | refine Wb ?_ | refine F_ ?_ | refine B_ (A.cellE rfl) trivial ?_ | rw[d] | rw[j])
      refine Ab.mk (Gc (c:=72) (q:=p)) (fun _ _ h=>h.elim) ?_;rintro y _ ⟨rfl,rfl⟩;exact⟨72,p,by simp only[unM,Tm.node,G_ f],rfl,l⟩
   | le W lop ln X Y la Z=>
     by_cases f:s=W_ 42
     ·have d:=d (g_ f)
      repeat ((conv=>whnf);first | refine Ao.run ?_ | refine Tn ?_ | refine RA ?_ | refine F_ ?_ | refine B_ (A.cellE rfl) trivial ?_ | rw[d] | rw[j])
      refine Ah underlying74 rfl _ rfl (lnL p .star none nx (.pointer none) (.pointer a) (.pointer none)) (by kernel_rfl) (BC (lnL p .star none nx (.pointer none) (.pointer a) (.pointer none)) rfl ?_);intro G H3 w S u z;(conv=>whnf);exact⟨.le p .star none nx .nil (.le W lop ln X Y la Z) .nil,by simp only[unM,Tm.node,I_ f],(Q.skip w z).old,_,⟨G,_,_,_,rfl,.inr ⟨by omega,u.lt⟩,u,rfl,rfl,rfl,rfl,C.fr2 L l (z.new w),rfl⟩,rfl⟩
     have d:=d (a_ f);by_cases m:s=W_ 43;have I:=j (g_ m)
     rotate_left
     have I:=j (a_ m)
     all_goals
      have j:=I
      repeat ((conv=>whnf);first | refine Ao.run ?_ | refine Tn ?_ | refine RA ?_ | refine F_ ?_ | refine B_ (A.cellE rfl) trivial ?_ | rw[d] | rw[j])
     refine Ah underlying167 rfl _ rfl [] (by kernel_rfl) (Ah underlying74 rfl _ rfl (lnL p .copy (some .eps) nx (.pointer none) (.pointer none) (.pointer none)) (by kernel_rfl) (BC (lnL p .copy (some .eps) nx (.pointer none) (.pointer none) (.pointer none)) rfl ?_))
     rotate_left
     refine Ah underlying74 rfl _ rfl (lnL p .star none nx (.pointer none) (.pointer a) (.pointer none)) (by kernel_rfl) (BC (lnL p .star none nx (.pointer none) (.pointer a) (.pointer none)) rfl ?_)
     all_goals
      intro G H3 w S u z;have s3:=Q.skip w z;have a3:=z.new w
     refine Ah underlying74 rfl _ rfl (lnL p .cat none nx (.pointer none) (.pointer a) (H_ G)) (by kernel_rfl) (BC (lnL p .cat none nx (.pointer none) (.pointer a) (H_ G)) rfl ?_)
     rotate_left
     refine Ah underlying74 rfl _ rfl (lnL p .alt none nx (.pointer none) (.pointer a) (H_ G)) (by kernel_rfl) (BC (lnL p .alt none nx (.pointer none) (.pointer a) (H_ G)) rfl ?_)
     all_goals
      intro g4 H4 T a9 F U;have s4:=s3.skip T U;have a4:=U.new T;(conv=>whnf);have K:=a3.trans (a4.mono fun k hk=>Ae a3 hk);have z3:=u.lt
     ·exact⟨.le p .alt none nx .nil (.le W lop ln X Y la Z) (.le p .copy (some .eps) nx .nil .nil .nil),by simp only[unM,Tm.node,G_ f,G_ m],s4.old,_,⟨g4,_,_,_,rfl,.inr ⟨by omega,F.lt⟩,F,rfl,rfl,rfl,rfl,C.fr2 L l K,⟨G,_,_,_,rfl,.inr ⟨by omega,Ae a4 z3⟩,u.agr a4 z3,rfl,rfl,rfl,rfl,rfl,rfl⟩⟩,rfl⟩
     ·exact⟨.le p .cat none nx .nil (.le W lop ln X Y la Z) (.le p .star none nx .nil (.le W lop ln X Y la Z) .nil),by simp only[unM,Tm.node,G_ f,I_ m],s4.old,_,⟨g4,_,_,_,rfl,.inr ⟨by omega,F.lt⟩,F,rfl,rfl,rfl,rfl,C.fr2 L l K,⟨G,_,_,_,rfl,.inr ⟨by omega,Ae a4 z3⟩,u.agr a4 z3,rfl,rfl,rfl,rfl,C.fr2 L l K,rfl⟩⟩,rfl⟩
end
theorem QT:Qh prog 212 9 3 .string (.int .i64 0):=⟨rfl,rfl,rfl⟩
def opN(s:ByteArray):Int:=if s=W_ 124 then 1 else if s=W_ 46 then 2 else if s=W_ 126 then 3 else if s=DZ then 4 else 0
section
variable{B B' S:Nat→Prop}{H0 H H':Aa}
theorem AeV(s:ByteArray):(put (put (put (put (fun _=>none) (W_ 124) (some (.int .i64 1))) (W_ 46) (some (.int .i64 2))) (W_ 126) (some (.int .i64 3))) DZ (some (.int .i64 4)) s).getD (.int .i64 0)= .int .i64 (opN s):=by
 unfold put opN;have a:W_ 124≠W_ 46:=by decide
 have b:W_ 124≠W_ 126:=by decide
 have c:W_ 124≠DZ:=by decide
 have d:W_ 46≠W_ 126:=by decide
 have e:W_ 46≠DZ:=by decide
 have f:W_ 126≠DZ:=by decide
 by_cases g:s=W_ 124
 ·subst g;simp[a,b,c]
 by_cases e2:s=W_ 46
 ·subst e2;simp[a.symm,d,e]
 by_cases h:s=W_ 126
 ·subst h;simp[b.symm,d.symm,f]
 by_cases j:s=DZ
 ·subst j;simp[c.symm,e.symm,f.symm]
 simp[g,e2,h,j]
def nmL:List v_:=[.string nx,.string Ad8,.string AdM,.string LO.swap.s,.string LO.chain.s]
theorem nm_z:(prog.info? 213).bind (·.zero)=some (.agg (Al4 5 (.string nx)).toArray):=by kernel_rfl
def JX(p:Nat)(s:ByteArray)(a b:Tm):FT ⊕ Tm:=match a,b with
 | .le ..,.le .. =>(match S7 s with
   | some o=>.inr (.le p o none nx .nil a b)
   | none=>.inl (72,p))
 | .ca ..,.ca .. =>(match Sh s with
   | some o=>.inr (.ca p o none nx nx a b)
   | none=>.inl (72,p))
 | _,_=>.inl (72,p)
theorem AeM(s:ByteArray):(∃o,∃k:Nat,S7 s=some o∧opN s=(k:Int)∧0<k∧k<5∧nmL[k]?=some (.string o.s))∨(S7 s=none∧opN s=0):=by
 unfold S7 opN
 repeat' split
 ·exact .inl ⟨.alt,1,rfl,rfl,by decide,by decide,rfl⟩
 ·exact .inl ⟨.cat,2,rfl,rfl,by decide,by decide,rfl⟩
 ·exact .inl ⟨.swap,3,rfl,rfl,by decide,by decide,rfl⟩
 ·exact .inl ⟨.chain,4,rfl,rfl,by decide,by decide,rfl⟩
 ·exact .inr ⟨rfl,rfl⟩
theorem AdS(s:ByteArray):(∃o,∃k:Nat,Sh s=some o∧opN s=(k:Int)∧(k=1∨k=2)∧nmL[k]?=some (.string o.s))∨(Sh s=none∧(opN s==1)=false∧(opN s==2)=false):=by
 unfold Sh opN
 repeat' split
 ·exact .inl ⟨.alt,1,rfl,rfl,.inl rfl,rfl⟩
 ·exact .inl ⟨.cat,2,rfl,rfl,.inr rfl,rfl⟩
 ·exact .inr ⟨rfl,rfl,rfl⟩
 ·exact .inr ⟨rfl,rfl,rfl⟩
 ·exact .inr ⟨rfl,rfl,rfl⟩
theorem Wx{a b:Tm}{va vb v0 v1:v_}{p:Nat}{s:ByteArray}(hB:∀k,B k→k<H.size)(R:a.short)(S:b.short)(ha:X' B H a va)(hb:X' B H b vb):
  Ay prog 72 #[.agg #[C_ p,.string s,v0,v1],tmI a va,tmI b vb] H (MkR B H (biM p s a b)) (MkE H (biM p s a b)):=by
 refine Ay.of_vc func72 rfl (call72 _) (BL (St.nil H) [C_ p,.string s,v0,v1] rfl fun q H1 s1=>(Ab.of (Ak (Jp R) fun H2 a2=>?_)));have s2:=s1.call a2;refine Ab.of (Ak (Jp S) fun H3 a3=>?_);have Q:=s2.call a3;have D:=Q.blk 0 rfl;have T:(s.toList==(⟨#[124]⟩:ByteArray).toList)=decide (s=W_ 124):=CN;have e2:(s.toList==(⟨#[46]⟩:ByteArray).toList)=decide (s=W_ 46):=CN;have U:(s.toList==(⟨#[38]⟩:ByteArray).toList)=decide (s=W_ 38):=CN;have V:(s.toList==(⟨#[45]⟩:ByteArray).toList)=decide (s=W_ 45):=CN;rcases m:a.node with _ | x<;>rcases n:b.node with _ | y
 rotate_left 3
 obtain⟨I,J,W⟩:∃t z,Av x= .iface t z:=⟨_,_,C7 x⟩;obtain⟨K,L,X⟩:∃t z,Av y= .iface t z:=⟨_,_,C7 y⟩;rw[show noV (some x)= .iface I J from W,show noV (some y)= .iface K L from X];cases C:decide (s=W_ 124)
 rotate_left
 ·have hs:=of_decide_eq_true C
  repeat ((conv=>whnf);first | refine Ao.run ?_ | refine F_ ?_ | refine B_ (D.cellE rfl) trivial ?_ | rw[T] | rw[e2] | rw[U] | rw[V] | rw[C])
  refine Ah underlying174 rfl _ rfl [.iface I J,.iface K L] (by kernel_rfl) (Ah underlying150 rfl _ rfl [C_ p,.iface 174 (.agg #[.iface I J,.iface K L])] (by kernel_rfl) ?_);(conv=>whnf);refine⟨.rx p (.alt x y),?_,Q.old,_,rfl,by show _=Value.iface 150 (.agg #[C_ p,Av (.alt x y)]);rw[←W,←X];rfl⟩;unfold biM Rq;rw[m,n];simp[hs]
 rotate_right
 have g1:=of_decide_eq_false C;cases F:decide (s=W_ 46)
 rotate_left
 ·have hs:=of_decide_eq_true F
  repeat ((conv=>whnf);first | refine Ao.run ?_ | refine F_ ?_ | refine B_ (D.cellE rfl) trivial ?_ | rw[T] | rw[e2] | rw[U] | rw[V] | rw[C] | rw[F])
  refine Ah underlying179 rfl _ rfl [.iface I J,.iface K L] (by kernel_rfl) (Ah underlying150 rfl _ rfl [C_ p,.iface 179 (.agg #[.iface I J,.iface K L])] (by kernel_rfl) ?_);(conv=>whnf);refine⟨.rx p (.cat x y),?_,Q.old,_,rfl,by show _=Value.iface 150 (.agg #[C_ p,Av (.cat x y)]);rw[←W,←X];rfl⟩;unfold biM Rq;rw[m,n];simp[g1,hs]
 rotate_right
 have g2:=of_decide_eq_false F;cases Y:decide (s=W_ 38)
 rotate_left
 ·have hs:=of_decide_eq_true Y
  repeat ((conv=>whnf);first | refine Ao.run ?_ | refine F_ ?_ | refine B_ (D.cellE rfl) trivial ?_ | rw[T] | rw[e2] | rw[U] | rw[V] | rw[C] | rw[F] | rw[Y])
  refine Ah underlying210 rfl _ rfl [.iface I J,.iface K L] (by kernel_rfl) (Ah underlying150 rfl _ rfl [C_ p,.iface 210 (.agg #[.iface I J,.iface K L])] (by kernel_rfl) ?_);(conv=>whnf);refine⟨.rx p (.and_ x y),?_,Q.old,_,rfl,by show _=Value.iface 150 (.agg #[C_ p,Av (.and_ x y)]);rw[←W,←X];rfl⟩;unfold biM Rq;rw[m,n];simp[g1,g2,hs]
 rotate_right
 have g3:=of_decide_eq_false Y;cases d4:decide (s=W_ 45)
 rotate_left
 ·have hs:=of_decide_eq_true d4
  repeat ((conv=>whnf);first | refine Ao.run ?_ | refine F_ ?_ | refine B_ (D.cellE rfl) trivial ?_ | rw[T] | rw[e2] | rw[U] | rw[V] | rw[C] | rw[F] | rw[Y] | rw[d4])
  refine Ah underlying211 rfl _ rfl [.iface I J,.iface K L] (by kernel_rfl) (Ah underlying150 rfl _ rfl [C_ p,.iface 211 (.agg #[.iface I J,.iface K L])] (by kernel_rfl) ?_);(conv=>whnf);refine⟨.rx p (.minus x y),?_,Q.old,_,rfl,by show _=Value.iface 150 (.agg #[C_ p,Av (.minus x y)]);rw[←W,←X];rfl⟩;unfold biM Rq;rw[m,n];simp[g1,g2,g3,hs]
 rotate_right
 have g4:=of_decide_eq_false d4
 all_goals
  have hF:biM p s a b=JX p s a b:=by
   unfold biM;rw[m,n]
   first
    | rfl
    | (have:Rq s x y=none:=by unfold Rq;rw[G_ g1,G_ g2,G_ g3,G_ g4]
       simp only[this];cases a<;>first | (cases m;done) | (cases b<;>first | (cases n;done) | rfl))
  rw[hF]
  repeat ((conv=>whnf);first | refine Ao.run ?_ | refine F_ ?_ | refine B_ (D.cellE rfl) trivial ?_ | rw[T] | rw[e2] | rw[U] | rw[V] | rw[C] | rw[F] | rw[Y] | rw[d4])
  refine QW (enc:=Value.string) ?_;intro mb H4 Z a0 a5 a6;have s4:=(Q.mapNew Z a0 a5 a6).rot;refine QY (a:=W_ 124) (m':=put _ (W_ 124) _) s4 0 QT Zae rfl (fun a'=>rfl) fun H5 s5=>(QY (a:=W_ 46) (m':=put _ (W_ 46) _) s5 0 QT Zae rfl (fun a'=>rfl) fun H6 s6=>(QY (a:=W_ 126) (m':=put _ (W_ 126) _) s6 0 QT Zae rfl (fun a'=>rfl) fun H7 s7=>(QY (a:=DZ) (m':=put _ DZ _) s7 0 QT Zae rfl (fun a'=>rfl) fun H8 s8=>?_)));have a7:=s8.blk 1 rfl
  repeat ((conv=>whnf);first | refine F_ ?_ | refine B_ (a7.cellE rfl) trivial ?_)
  refine X8 (a:=s) QT Zae (s8.map 0 rfl) trivial ?_;rw[AeV];refine EU T9 _ nm_z nmL (by kernel_rfl) (Aw _ (Al4 5 (.string nx)) nm_z rfl ?_);intro g H9 a8 a9 ab ad;have s9:=(s8.box a8 a9 ab ad).rot;refine AD (cs:=nmL) s9 0 rfl rfl (J_ _) rfl fun H10 u=>?_;have A:K_ H10 g 213 nmL:=u.blk 0 rfl;have d:=u.blk 2 rfl;clear s4 s5 s6 s7 s8 s9 a7 Z a0 a5 a6 a8 a9 ab ad;have M:∀{y:v_} {G:Aa},JX p s a b= .inl (72,p)→y=Bg 72 p∧G=H10→MkE H (JX p s a b) y G:=fun h h2=>⟨72,p,h,h2.1,by rw[h2.2];exact u.old⟩;cases a<;>first | exact R.elim | skip
  all_goals (cases b<;>first | exact S.elim | skip)
  all_goals first | (cases m;done) | (cases n;done) | skip
  all_goals
   repeat ((conv=>whnf);first | refine Ao.run ?_ | refine AfM ?_ | refine RA ?_ | refine Tn ?_ | refine Wb ?_ | refine F_ ?_ | refine B_ (d.cellE rfl) trivial ?_)
   first
    | (refine Ab.mk (Gc (c:=72) (q:=p)) (fun _ _ h=>h.elim) fun y G h=>M rfl h)
    | skip
 ·obtain⟨pa,rfl⟩:=ha.ptr;obtain⟨pb,rfl⟩:=hb.ptr;rcases AdS s with⟨o,k,N,O,ai,P⟩ | ⟨N,h1,h2⟩
  rotate_left
  ·repeat ((conv=>whnf);first | rw[h1] | rw[h2] | refine Ao.run ?_ | refine F_ ?_ | refine B_ (d.cellE rfl) trivial ?_)
   refine Ab.mk (Gc (c:=72) (q:=p)) (fun _ _ h=>h.elim) fun y G h=>M ?_ h;unfold JX;rw[N]
  ·have ah:k<5:=by omega
   rw[O];cases C:((k:Int)==1)<;>cases F:((k:Int)==2)
   all_goals first | (simp at C F;omega) | skip
   all_goals
    repeat ((conv=>whnf);first | rw[C] | rw[F])
    refine AE.of (Au.heldZ (fun k=>k=q∨k=g) [10] (sq [0,1,2,3,4,5,6,7] (.f 8 (sq [9] (.f 10 .e)))) rfl (by kernel_rfl) ?_)
    repeat ((conv=>whnf);first | refine F_ ?_ | refine B_ (d.cellE rfl) (.inl rfl) ?_ | refine ixa T9 (by omega) (by omega) ?_ | refine B_ (v:=.string o.s) (by rw[A.cell,show 0+(k:Int).toNat*1=k by omega];exact P) (.inr rfl) ?_)
    refine Ah underlying209 rfl _ rfl (cnL p o none nx nx (.pointer pa) (.pointer pb)) (by kernel_rfl) (BC (cnL p o none nx nx (.pointer pa) (.pointer pb)) rfl ?_);intro r H11 E ae j l;have w:=u.skip E l;refine⟨fun k O=>l k (by have:=d.lt;have:=A.lt;rcases O with rfl | rfl<;>omega),?_⟩;(conv=>whnf);refine⟨.ca p o none nx nx _ _,?_,w.old,_,⟨r,_,_,rfl,.inr ⟨by have:=Ap u.old;have:=j.lt;omega,j.lt⟩,j,rfl,rfl,ha.fr hB w.old,hb.fr hB w.old⟩,rfl⟩;unfold JX;rw[N]
 ·obtain⟨pa,rfl⟩:=ha.ptr;obtain⟨pb,rfl⟩:=hb.ptr;rcases AeM s with⟨o,k,N,O,ak,aj,P⟩ | ⟨N,h1⟩
  rotate_left
  ·repeat ((conv=>whnf);first | rw[h1] | rw[show decide ((0:Int)<0)=false from rfl] | refine Ao.run ?_ | refine Tn ?_ | refine F_ ?_ | refine B_ (d.cellE rfl) trivial ?_)
   refine Ab.mk (Gc (c:=72) (q:=p)) (fun _ _ h=>h.elim) fun y G h=>M ?_ h;unfold JX;rw[N]
  ·have ah:k<5:=by omega
   rw[O];have C:decide ((0:Int)<(k:Int))=true:=s_
   repeat ((conv=>whnf);first | rw[C] | rw[F])
   refine AE.of (Au.heldZ (fun k=>k=q∨k=g) [10] (sq [0,1,2,3,4,5,6,7] (.f 8 (sq [9] (.f 10 .e)))) rfl (by kernel_rfl) ?_)
   repeat ((conv=>whnf);first | refine F_ ?_ | refine B_ (d.cellE rfl) (.inl rfl) ?_ | refine ixa T9 (by omega) (by omega) ?_ | refine B_ (v:=.string o.s) (by rw[A.cell,show 0+(k:Int).toNat*1=k by omega];exact P) (.inr rfl) ?_)
   refine Ah underlying74 rfl _ rfl (lnL p o none nx (.pointer none) (.pointer pa) (.pointer pb)) (by kernel_rfl) (BC (lnL p o none nx (.pointer none) (.pointer pa) (.pointer pb)) rfl ?_);intro r H11 E ae j l;have w:=u.skip E l;refine⟨fun k O=>l k (by have:=d.lt;have:=A.lt;rcases O with rfl | rfl<;>omega),?_⟩;(conv=>whnf);refine⟨.le p o none nx .nil _ _,?_,w.old,_,⟨r,_,_,_,rfl,.inr ⟨by have:=Ap u.old;have:=j.lt;omega,j.lt⟩,j,rfl,rfl,rfl,rfl,ha.fr hB w.old,hb.fr hB w.old⟩,rfl⟩;unfold JX;rw[N]
end
theorem AhE(x:v_)(w:y_):(callMethod (.iface 142 x) "Place" #[]).run prog w= .ok (.enter 296 #[x]) w:=by kernel_rfl
theorem AhS{p:Nat}{s:ByteArray}{v w:v_}{H:Aa}:AZ prog 296 #[.agg #[C_ p,.string s]] H (.int .i64 (p:Int)):=by
 refine Al.of_vc func296 rfl (call296 _) (BC [C_ p,.string s] rfl ?_);intro q H1 d b a c;have e:=(St.nil H).box d b a c;refine F_ ?_;refine lT (a.cellE rfl) ?_;(conv=>whnf);exact⟨rfl,e.old⟩
theorem AhG(x:v_)(w:y_):(callMethod (.iface 144 x) "Place" #[]).run prog w= .ok (.enter 297 #[x]) w:=by kernel_rfl
theorem AhU{p:Nat}{s:ByteArray}{v w:v_}{H:Aa}:AZ prog 297 #[.agg #[C_ p,.string s]] H (.int .i64 (p:Int)):=by
 refine Al.of_vc func297 rfl (call297 _) (BC [C_ p,.string s] rfl ?_);intro q H1 d b a c;have e:=(St.nil H).box d b a c;refine F_ ?_;refine lT (a.cellE rfl) ?_;(conv=>whnf);exact⟨rfl,e.old⟩
theorem AhF(x:v_)(w:y_):(callMethod (.iface 146 x) "Place" #[]).run prog w= .ok (.enter 300 #[x]) w:=by kernel_rfl
theorem AhT{p:Nat}{s:ByteArray}{v w:v_}{H:Aa}:AZ prog 300 #[.agg #[C_ p,.string s]] H (.int .i64 (p:Int)):=by
 refine Al.of_vc func300 rfl (call300 _) (BC [C_ p,.string s] rfl ?_);intro q H1 d b a c;have e:=(St.nil H).box d b a c;refine F_ ?_;refine lT (a.cellE rfl) ?_;(conv=>whnf);exact⟨rfl,e.old⟩
theorem AhD(x:v_)(w:y_):(callMethod (.iface 152 x) "Place" #[]).run prog w= .ok (.enter 303 #[x]) w:=by kernel_rfl
theorem AhR{p:Nat}{s:ByteArray}{v w:v_}{H:Aa}:AZ prog 303 #[.agg #[C_ p,v]] H (.int .i64 (p:Int)):=by
 refine Al.of_vc func303 rfl (call303 _) (BC [C_ p,v] rfl ?_);intro q H1 d b a c;have e:=(St.nil H).box d b a c;refine F_ ?_;refine lT (a.cellE rfl) ?_;(conv=>whnf);exact⟨rfl,e.old⟩
theorem AhH(x:v_)(w:y_):(callMethod (.iface 154 x) "Place" #[]).run prog w= .ok (.enter 304 #[x]) w:=by kernel_rfl
theorem AhV{p:Nat}{s:ByteArray}{v w:v_}{H:Aa}:AZ prog 304 #[.agg #[C_ p,.string s,v]] H (.int .i64 (p:Int)):=by
 refine Al.of_vc func304 rfl (call304 _) (BC [C_ p,.string s,v] rfl ?_);intro q H1 d b a c;have e:=(St.nil H).box d b a c;refine F_ ?_;refine lT (a.cellE rfl) ?_;(conv=>whnf);exact⟨rfl,e.old⟩
theorem AhB(x:v_)(w:y_):(callMethod (.iface 157 x) "Place" #[]).run prog w= .ok (.enter 305 #[x]) w:=by kernel_rfl
theorem AhP{p:Nat}{s:ByteArray}{v w:v_}{H:Aa}:AZ prog 305 #[.agg #[C_ p,.string s,v,w]] H (.int .i64 (p:Int)):=by
 refine Al.of_vc func305 rfl (call305 _) (BC [C_ p,.string s,v,w] rfl ?_);intro q H1 d b a c;have e:=(St.nil H).box d b a c;refine F_ ?_;refine lT (a.cellE rfl) ?_;(conv=>whnf);exact⟨rfl,e.old⟩
theorem AhC(x:v_)(w:y_):(callMethod (.iface 161 x) "Place" #[]).run prog w= .ok (.enter 306 #[x]) w:=by kernel_rfl
theorem AhQ{p:Nat}{s:ByteArray}{v w:v_}{H:Aa}:AZ prog 306 #[.agg #[C_ p,.string s,v]] H (.int .i64 (p:Int)):=by
 refine Al.of_vc func306 rfl (call306 _) (BC [C_ p,.string s,v] rfl ?_);intro q H1 d b a c;have e:=(St.nil H).box d b a c;refine F_ ?_;refine lT (a.cellE rfl) ?_;(conv=>whnf);exact⟨rfl,e.old⟩
theorem Py{B:Nat→Prop}{H:Aa}{T:x_}{x:v_}{K:v_→Aa→Prop}:∀{e:Ex},ExC B H e [.iface T x]→(∀H',A_ (D_ H) H H'→K (.int .i64 (e.place:Int)) H')→Gg prog T x "Place" #[] H K:=by
 intro e h k;have c:∀{p:Nat},e.place=p→∀v H',v= .int .i64 (p:Int)∧A_ (D_ H) H H'→K v H':=fun d v H' h=>by rw[h.1,←d];exact k H' h.2
 cases e with
 | nm p s=>cases h;exact Gg.mk _ _ (AhE _) (AhS (v:=undef) (w:=undef)) (c rfl)
 | tx p s=>cases h;exact Gg.mk _ _ (AhG _) (AhU (v:=undef) (w:=undef)) (c rfl)
 | re p s=>cases h;exact Gg.mk _ _ (AhF _) (AhT (v:=undef) (w:=undef)) (c rfl)
 | kd p a=>obtain⟨v,-,h⟩:=h;cases h;exact Gg.mk _ _ (AhD _) (AhR (s:=⟨#[]⟩) (w:=undef)) (c rfl)
 | un p s a=>obtain⟨v,-,h⟩:=h;cases h;exact Gg.mk _ _ (AhH _) (AhV (w:=undef)) (c rfl)
 | bi p s a b=>obtain⟨v,w,-,-,h⟩:=h;cases h;exact Gg.mk _ _ (AhB _) AhP (c rfl)
 | cl p s l=>obtain⟨vs,b,n,r,-,-,-,-,-,-,h⟩:=h;cases h;exact Gg.mk _ _ (AhC _) (AhQ (w:=undef)) (c rfl)
 | nil=>cases h
 | cons a l=>
   have⟨w,vs,f,g,h⟩:=h;cases h;exact Py f k
def TmL(B:Nat→Prop)(H:Aa):List Tm→List v_→Prop
 | [],xs=>xs=[]
 | t::ts,xs=>∃x ys,xs=x::ys∧TmI B H t x∧t.short∧TmL B H ts ys
abbrev agL(p:Nat)(w:ByteArray)(b k n:Nat)(a:Option Addr)(k2 n2 i:Nat):List v_:=[C_ p,.string w,.slice (b_ b) k n,.slice a k2 n2,C_ i]
structure ArS(B C:Nat→Prop)(H0 H:Aa)(g p:Nat)(w:ByteArray)(l:Ex)(ts:List Tm)(qs:List Pc)(i:Nat):Prop where
 ex:∃vs b n r a n2 xs,E_ B H0 H (pB 218 g (agL p w b vs.length n a xs.length n2 i)::pS Lp 37 a xs.length n2 xs::qs)∧ExC B H l vs∧l.isL=true∧B b∧K_ H b 95 (vs++r)∧vs.length≤n∧n≤maxLen∧TmL C H ts xs∧∀k,C k→B k
section
variable{B B' C S:Nat→Prop}{H0 H H':Aa}{g p i:Nat}{w:ByteArray}{l:Ex}{ts:List Tm}{qs:List Pc}
theorem TmL.up(a:∀k,B k→B' k)(b:A_ B H H'):∀{ts:List Tm} {xs:List v_},TmL B H ts xs→TmL B' H' ts xs
 | [],_,h=>h
 | _::_,_,⟨x,ys,e,h,hs,h2⟩=>⟨x,ys,e,h.up a b,hs,h2.up a b⟩
theorem TmL.get:∀{ts:List Tm} {xs:List v_} {i:Nat} {t:Tm},TmL B H ts xs→ts[i]?=some t→∃x,xs[i]?=some x∧TmI B H t x∧t.short
 | _::_,_,0,_,⟨x,ys,e,h,hs,h2⟩,ht=>by cases ht;exact⟨x,by rw[e];rfl,h,hs⟩
 | _::_,_,i+1,_,⟨x,ys,e,h,hs,h2⟩,ht=>by
   have⟨y,a,b⟩:=TmL.get h2 ht;exact⟨y,by rw[e];exact a,b⟩
def JI:Ex→Nat→Option Ex
 | .cons a _,0=>some a
 | .cons _ l,i+1=>JI l i
 | _,_=>none
theorem PO:∀{l:Ex} {vs:List v_},l.isL=true→ExC B H l vs→Lp.reps S H' vs vs
 | .nil,_,_,h=>by cases h;rfl
 | .cons a l,_,hl,⟨v,ws,h,h2,e⟩=>by
   subst e;obtain⟨T,x,rfl⟩:=h.ifc;exact⟨_,_,rfl,⟨rfl,rfl⟩,PO (l:=l) hl h2⟩
theorem ExC.nth:∀{l:Ex} {vs:List v_} {i:Nat} {e:Ex},ExC B H l vs→JI l i=some e→∃v,vs[i]?=some v∧ExC B H e [v]
 | .cons a l,_,0,_,⟨v,ws,h,h2,e⟩,he=>by cases he;exact⟨v,by rw[e];rfl,h⟩
 | .cons a l,_,i+1,_,⟨v,ws,h,h2,e⟩,he=>by
   have⟨u,b,c⟩:=ExC.nth h2 he;exact⟨u,by rw[e];exact b,c⟩
theorem Jn{e:Ex}(h:ArS B C H0 H g p w l ts qs i)(E:JI l i=some e):Ay prog 144 #[H_ g] H (fun _ _=>False) (fun y H'=>y=Bg 72 e.place∧A_ (D_ H) H H'):=by
 have⟨vs,b,n,r,a,P,xs,t,z,F,G,m,I,J,Q,R⟩:=h;have⟨v,d,k⟩:=z.nth E;obtain⟨T,x,rfl⟩:=k.ifc;have A:=t.blk 0 rfl;have K:=(X_.1 d).1;refine Ay.of_vc func144 rfl (call144 _) (AE.held (D_ H) [] (sq [0,1,2,3,4,5,6,7,8,9,10] (.f 11 (.f 12 .e))) (AQ _ _) rfl (by kernel_rfl) ?_);have L:S_ Lp (D_ H) H (b_ b) n vs:=.intro (t.up G) I J (m.cells (o:=0) fun j u D=>by rw[P_,YaK (X_.1 D).1];exact D) (PO F z)
 repeat ((conv=>whnf);first | refine F_ ?_ | refine B_ (A.cellE rfl) A.lt ?_)
 refine u_ UB L d rfl (fun S U V M N O=>?_);obtain⟨rfl,-⟩:=O;refine B_ (v:=.iface T x) N.one M (Py k fun H1 a1=>(⟨a1,?_⟩));refine Ab.mk (Gc (c:=72) (q:=e.place)) (fun _ _ h=>h.elim) ?_;rintro y _ ⟨rfl,rfl⟩;exact⟨rfl,a1⟩
end
section
variable{B B' C S:Nat→Prop}{H0 H H':Aa}{g p i:Nat}{w:ByteArray}{l:Ex}{ts:List Tm}{qs:List Pc}
theorem ArS.call(h:ArS B C H0 H g p w l ts qs i)(e:A_ (D_ H) H H'):ArS B C H0 H' g p w l ts qs i:=by
 have⟨vs,b,n,r,a,q,xs,f,t,u,j,c,x,y,z,m⟩:=h;have d:A_ B H H':=e.mono fun k A=>f.up A;exact⟨vs,b,n,r,a,q,xs,f.call e,t.up (fun _ h=>h) d,u,j,c.agr d j,x,y,z.up (fun _ h=>h) (d.mono m),m⟩
theorem LX{t:Tm}{e:Ex}(h:ArS B C H0 H g p w l ts qs i)(G:ts[i]?=some t)(I:JI l i=some e)(hi:i≤1000:=by omega):
  Ay prog 110 #[H_ g] H (fun v H'=>t.node.isSome=true∧v=noV t.node∧ArS B C H0 H' g p w l ts qs (i+1)) (fun y H'=>t.node.isSome=false∧y=Bg 72 e.place∧A_ (D_ H) H H'):=by
 have J:=h;have⟨vs,b,n,r,a,K,xs,d,L,M,A,j,N,O,c,D⟩:=h;obtain⟨x,P,⟨v,Q,rfl⟩,hs⟩:=c.get G;have E:=d.blk 0 rfl;refine Ay.of_vc func110 rfl (call110 _) (AE.of (Au.heldZ (D_ H) [15] (sq [0,1,2,3,4,5,6,7,8,9] (.f 10 (sq [11,12,13,14] (.f 15 .e)))) rfl (by kernel_rfl) ?_));have R:=d.view 1 rfl
 repeat ((conv=>whnf);first | refine F_ ?_ | refine B_ (E.cellE rfl) E.lt ?_)
 refine u_ Oy R P rfl (fun V W X S T U=>?_);obtain⟨rfl,-⟩:=U;refine B_ (v:=tmI t v) T.one S (Ak (Jp hs) fun H1 a1=>(⟨a1,?_⟩));have m:=J.call a1;have st1:=d.call a1;have q:=st1.blk 0 rfl;cases Y:t.node.isSome
 ·refine Ao.run (Ab.mk (Jn m I) (fun _ _ h=>h.elim) ?_);rintro y H2 ⟨rfl,a2⟩;exact⟨rfl,rfl,a1.trans (a2.mono fun k u=>Ae a1 u)⟩
 ·refine Ao.run ?_
  repeat ((conv=>whnf);first | refine F_ ?_ | refine B_ (q.cellE rfl) trivial ?_ | rw[R_ i (by omega)])
  refine Bh st1 0 rfl (by simp) rfl fun H2 F=>?_;(conv=>whnf);have z:A_ B H H2:=A_.trans (fun k u=>(d.old k u).symm) F.old;exact⟨rfl,rfl,vs,b,n,r,a,K,xs,F,L.up (fun _ h=>h) z,M,A,j.agr z A,N,O,c.up (fun _ h=>h) (z.mono D),D⟩
theorem RT{t:Tm}{e:Ex}(h:ArS B C H0 H g p w l ts qs i)(D:ts[i]?=some t)(E:JI l i=some e)(hi:i≤1000:=by omega):
  Ay prog 113 #[H_ g] H (fun v H'=>AK.lens.ok t=true∧X' C H t v∧ArS B C H0 H' g p w l ts qs (i+1)) (fun y H'=>AK.lens.ok t=false∧y=Bg 72 e.place∧A_ (D_ H) H H'):=by
 have F:=h;have⟨vs,b,n,r,a,G,xs,d,I,J,q,f,K,L,c,u⟩:=h;obtain⟨x,M,⟨v,j,rfl⟩,hs⟩:=c.get D;have z:=d.blk 0 rfl;refine Ay.of_vc func113 rfl (call113 _) (AE.of (Au.lex rfl (by kernel_rfl) ?_));have N:=d.view 1 rfl
 repeat ((conv=>whnf);first | refine F_ ?_ | refine B_ (z.cellE rfl) trivial ?_)
 refine u_ Oy N M rfl (fun R S T U O P=>?_);obtain⟨rfl,-⟩:=P;refine lT (v:=tmI t v) O.one ?_;cases t<;>first | exact hs.elim | skip
 all_goals
  (conv=>whnf);first | refine RA ?_ | refine AfM ?_
  refine Ao.run ?_
  first
   | (refine Ab.mk (Jn F E) (fun _ _ h=>h.elim) ?_
      rintro y H2 ⟨rfl,a2⟩;exact⟨rfl,rfl,a2⟩)
   | (repeat ((conv=>whnf);first | refine F_ ?_ | refine B_ (z.cellE rfl) trivial ?_ | rw[R_ i (by omega)])
      refine Bh d 0 rfl (by simp) rfl fun H2 A=>?_;(conv=>whnf);have m:A_ B H H2:=A_.trans (fun k Q=>(d.old k Q).symm) A.old;exact⟨rfl,j,vs,b,n,r,a,G,xs,A,I.up (fun _ h=>h) m,J,q,f.agr m q,K,L,c.up (fun _ h=>h) (m.mono u),u⟩)
theorem T7{t:Tm}{e:Ex}(h:ArS B C H0 H g p w l ts qs i)(D:ts[i]?=some t)(E:JI l i=some e)(hi:i≤1000:=by omega):
  Ay prog 112 #[H_ g] H (fun v H'=>AK.canon.ok t=true∧X' C H t v∧ArS B C H0 H' g p w l ts qs (i+1)) (fun y H'=>AK.canon.ok t=false∧y=Bg 72 e.place∧A_ (D_ H) H H'):=by
 have F:=h;have⟨vs,b,n,r,a,G,xs,d,I,J,q,f,K,L,c,u⟩:=h;obtain⟨x,M,⟨v,j,rfl⟩,hs⟩:=c.get D;have z:=d.blk 0 rfl;refine Ay.of_vc func112 rfl (call112 _) (AE.of (Au.lex rfl (by kernel_rfl) ?_));have N:=d.view 1 rfl
 repeat ((conv=>whnf);first | refine F_ ?_ | refine B_ (z.cellE rfl) trivial ?_)
 refine u_ Oy N M rfl (fun R S T U O P=>?_);obtain⟨rfl,-⟩:=P;refine lT (v:=tmI t v) O.one ?_;cases t<;>first | exact hs.elim | skip
 all_goals
  (conv=>whnf);first | refine Wb ?_ | refine Tn ?_
  refine Ao.run ?_
  first
   | (refine Ab.mk (Jn F E) (fun _ _ h=>h.elim) ?_
      rintro y H2 ⟨rfl,a2⟩;exact⟨rfl,rfl,a2⟩)
   | (repeat ((conv=>whnf);first | refine F_ ?_ | refine B_ (z.cellE rfl) trivial ?_ | rw[R_ i (by omega)])
      refine Bh d 0 rfl (by simp) rfl fun H2 A=>?_;(conv=>whnf);have m:A_ B H H2:=A_.trans (fun k Q=>(d.old k Q).symm) A.old;exact⟨rfl,j,vs,b,n,r,a,G,xs,A,I.up (fun _ h=>h) m,J,q,f.agr m q,K,L,c.up (fun _ h=>h) (m.mono u),u⟩)
theorem LY{t:Tm}{e:Ex}(h:ArS B C H0 H g p w l ts qs i)(P:ts[i]?=some t)(Q:JI l i=some e)(hi:i≤1000:=by omega):
  Ay prog 111 #[H_ g] H (fun v H'=>AK.text.ok t=true∧v= .string (JZ t)∧ArS B C H0 H' g p w l ts qs (i+1)) (fun y H'=>AK.text.ok t=false∧y=Bg 72 e.place∧A_ (D_ H) H H'):=by
 have R:=h;have⟨vs,b,n,r,a,S,xs,c,T,U,K,u,V,W,d,L⟩:=h;obtain⟨x,X,⟨v,Y,rfl⟩,hs⟩:=d.get P;have M:=c.blk 0 rfl;refine Ay.of_vc func111 rfl (call111 _) (AE.of (Au.heldZ (D_ H) [16] (sq [0,1,2,3,4,5,6,7,8,9,10,11,12,13] (.f 14 (.f 15 (.f 16 .e)))) rfl (by kernel_rfl) ?_));have Z:=c.view 1 rfl
 repeat ((conv=>whnf);first | refine F_ ?_ | refine B_ (M.cellE rfl) M.lt ?_)
 refine u_ Oy Z X rfl (fun b2 o2 c2 hS hc hr=>?_);obtain⟨rfl,-⟩:=hr;refine B_ (v:=tmI t v) hc.one hS ?_;cases t<;>first | exact hs.elim | skip
 all_goals
  (conv=>whnf);first | refine taT1 ?_ | refine RB ?_
  refine Aw tzT [C_ 0,.string ⟨#[]⟩] (by kernel_rfl) rfl ?_;intro q H1 N z A j;have s1:=(c.box N z A j).rot;have a1:=j.new N;refine⟨a1,?_⟩;refine AX (cs:=[_,_]) s1 0 rfl rfl (J_ _) rfl fun H2 O j2 z2=>?_;have a2:A_ (D_ H) H H2:=a1.trans (j2.mono fun k m=>by unfold D_ at m;omega);refine⟨a2,?_⟩;have D:=R.call a2;have E:=c.call a2;have F:=E.blk 0 rfl;have a0:=O.blk 0 rfl;refine Ao.run ?_
  first
   | (refine Ab.mk (Jn D Q) (fun _ _ h=>h.elim) ?_
      rintro y H3 ⟨rfl,a3⟩;exact⟨rfl,rfl,a2.trans (a3.mono fun k m=>Ae a2 m)⟩)
   | (repeat ((conv=>whnf);first | refine F_ ?_ | refine B_ (F.cellE rfl) trivial ?_ | rw[R_ i (by omega)])
      refine Bh O 1 rfl (by simp) rfl fun H3 G=>?_;have I:=G.blk 0 rfl;refine F_ ?_;refine lT (I.cellE rfl) ?_;(conv=>whnf);have J:A_ B H H3:=A_.trans (fun k m=>(c.old k m).symm) G.old;exact⟨rfl,rfl,vs,b,n,r,a,S,xs,G.tl,T.up (fun _ h=>h) J,U,K,u.agr J K,V,W,d.up (fun _ h=>h) (J.mono L),L⟩)
end
def Tm.good(t:Tm):Prop:=t.short∧t.sz≤10000
def MkS(B:Nat→Prop)(H:Aa)(mb:Nat)(env:ByteArray→Option Tm):Prop:=
 ∃bm mv,B mb∧B bm∧K_ H mb 92 [.map (some bm)]∧Dm Value.string H bm mv∧∀s,match env s with
  | none=>mv s=none
  | some t=>∃x,mv s=some x∧TmI B H t x∧t.good
theorem MkS.up{B B':Nat→Prop}{H H':Aa}{mb:Nat}{env:ByteArray→Option Tm}(h:MkS B H mb env)(a:∀k,B k→B' k)(b:A_ B H H'):MkS B' H' mb env:=by
 have⟨f,g,c,d,j,l,m⟩:=h;refine⟨f,g,a _ c,a _ d,j.agr b c,l.agr b d,fun s=>?_⟩;have:=m s;cases e:env s with
 | none=>rw[e]at this;exact this
 | some t=>rw[e]at this;have⟨x,n,e2,p⟩:=this;exact⟨x,n,e2.up a b,p⟩
def MkH(env:ByteArray→Option Tm)(e:Ex):Prop:=∀{B:Nat→Prop} {H:Aa} {mb:Nat} {v:v_},(∀k,B k→k<H.size)→E5 H→MkS B H mb env→ExC B H e [v]→
 Ay prog 42 #[H_ mb,v] H (fun x H'=>∃t,V' env e= .inr [t]∧t.good∧A_ (D_ H) H H'∧TmI (p_ B H H') H' t x) (MkE H (V' env e))
theorem TmI.ifc{B:Nat→Prop}{H:Aa}{t:Tm}{x:v_}(h:TmI B H t x)(a:t.short):∃T y,x= .iface T y:=by
 obtain⟨v,b,rfl⟩:=h;cases t<;>first | exact⟨_,_,rfl⟩ | exact a.elim
def OJ(env:ByteArray→Option Tm)(p:Nat)(w:ByteArray)(l:Ex):FT ⊕ Tm:=match V' env l with
 | .inl e=>.inl e
 | .inr ts=>clM p w l ts
theorem ExC.len{B:Nat→Prop}{H:Aa}:∀{l:Ex} {vs:List v_},l.isL=true→ExC B H l vs→vs.length=l.len
 | .nil,_,_,h=>by cases h;rfl
 | .cons a l,_,hl,⟨v,ws,h,h2,e⟩=>by subst e;exact congrArg (·+1) (ExC.len (l:=l) hl h2)
theorem LZ{w:ByteArray}(h:0<arM w):w=CO.id.s∨w=CO.fold.s∨w=CO.norm.s∨w=LO.del.s∨w=LO.ins.s∨w=LO.copy.s∨w=LO.key.s∨w=LO.left.s∨w=LO.right.s∨w=LO.default_.s:=by
 by_cases a:w=CO.id.s∨w=CO.fold.s∨w=CO.norm.s∨w=LO.del.s∨w=LO.ins.s∨w=LO.copy.s∨w=LO.key.s∨w=LO.left.s∨w=LO.right.s∨w=LO.default_.s
 ·exact a
 ·simp only[not_or,CO.s,LO.s]at a;exfalso;unfold arM at h;simp only[a,or_self,if_false]at h;split at h<;>omega
def wIx(w:ByteArray):Nat:=if w=CO.id.s then 0 else if w=CO.fold.s then 1 else if w=CO.norm.s then 2 else if w=LO.del.s then 3 else if w=LO.ins.s then 4 else if w=LO.copy.s then 5 else if w=LO.key.s then 6 else if w=LO.left.s then 7 else if w=LO.right.s then 8 else 9
abbrev tQ(w:ByteArray)(l:List UInt8)(i:Nat):Prop:=(w.toList==(⟨l.toArray⟩:ByteArray).toList)=decide (wIx w=i)
theorem w_ix{w:ByteArray}(a:0<arM w):tQ w [105,100] 0∧tQ w [102,111,108,100] 1∧tQ w [110,111,114,109] 2∧tQ w [100,101,108] 3∧tQ w [105,110,115] 4∧tQ w [99,111,112,121] 5∧tQ w [107,101,121] 6∧tQ w [108,101,102,116] 7∧tQ w [114,105,103,104,116] 8∧tQ w [100,101,102,97,117,108,116] 9:=by
 unfold tQ;simp only[CN];rcases LZ a with rfl | rfl | rfl | rfl | rfl | rfl | rfl | rfl | rfl | rfl<;>decide
theorem Pq(n:Option ReM):(noV n).oneCell'=true:=by cases n<;>first | rfl | exact Ec _
section
variable{B C:Nat→Prop}{H0 H:Aa}{g p i q:Nat}{w:ByteArray}{l:Ex}{ts:List Tm}{qs:List Pc}
theorem ArS.st1{t o:Nat}{v:v_}{K:Aa→Prop}{c:List v_}{e:x_}(h:ArS B C H0 H g p w l ts (pB e q c::qs) i) [ht:CellT prog t](A:o<c.length)(D:v.oneCell'=true)
  (k:∀H',ArS B C H0 H' g p w l ts (pB e q (c.set o v)::qs) i→K H'):By prog (Instr.storeAt t (.pointer (some ⟨q,o,none⟩)) v) H K:=by
 have⟨vs,b,n,r,a,E,xs,u,d,F,x,f,G,I,j,y⟩:=h;refine Bh u 2 rfl A D fun H' z=>?_;have m:A_ B H H':=A_.trans (fun k J=>(u.old k J).symm) z.old;exact k H' ⟨vs,b,n,r,a,E,xs,z,d.up (fun _ h=>h) m,F,x,f.agr m x,G,I,j.up (fun _ h=>h) (m.mono y),y⟩
theorem ArS.blk{c:List v_}{e:x_}(h:ArS B C H0 H g p w l ts (pB e q c::qs) i):K_ H q e c:=by
 obtain⟨vs,b,n,r,a,f,xs,d,-⟩:=h;exact d.blk 2 rfl
theorem ArS.old(h:ArS B C H0 H g p w l ts qs i):A_ B H0 H:=by
 obtain⟨vs,b,n,r,a,d,xs,c,-⟩:=h;exact c.old
end
def goM(l:Ex)(ts:List Tm)(ks:List AK)(r:Tm):FT ⊕ Tm:=match DV ks ts l with
 | some q=>.inl (72,q)
 | none=>.inr r
def Wr(ts:List Tm):FT ⊕ List Tm→FT ⊕ List Tm
 | .inl e=>.inl e
 | .inr us=>.inr (ts++us)
theorem TmL.len{B:Nat→Prop}{H:Aa}:∀{ts:List Tm} {xs:List v_},TmL B H ts xs→xs.length=ts.length
 | [],_,h=>by cases h;rfl
 | _::_,_,⟨x,ys,e,h,hs,h2⟩=>by subst e;exact congrArg (·+1) h2.len
theorem TmL.snoc{B:Nat→Prop}{H:Aa}{t:Tm}{x:v_}(h:TmI B H t x)(a:t.short):∀{ts:List Tm} {xs:List v_},TmL B H ts xs→TmL B H (ts++[t]) (xs++[x])
 | [],_,e=>by cases e;exact⟨x,[],rfl,h,a,rfl⟩
 | _::_,_,⟨y,ys,e,h1,hs,h2⟩=>by subst e;exact⟨y,_,rfl,h1,hs,h2.snoc h a⟩
theorem E_.low{B B':Nat→Prop}{H0 H:Aa}{ps:List Pc}(a:E_ B H0 H ps)(c:∀k,B' k→B k):E_ B' H0 H ps:=
 ⟨a.old.mono c,fun k b=>a.lt0 k (c k b),a.size,a.oks,fun p d k b=>⟨fun h=>(a.rng p d k b).1 (c k h),(a.rng p d k b).2⟩,a.dis⟩
theorem AcK:∀{l:Ex},l.isL=true→l.len=1→∃a,l= .cons a .nil
 | .cons a .nil,_,_=>⟨a,rfl⟩
 | .cons a (.cons b l),_,h=>by simp only[Ex.len]at h;omega
theorem AcL:∀{l:Ex},l.isL=true→l.len=2→∃a b,l= .cons a (.cons b .nil)
 | .cons a l,hl,h=>by obtain⟨b,rfl⟩:=AcK (l:=l) hl (by simp only[Ex.len]at h;omega);exact⟨a,b,rfl⟩
theorem Ah7:∀{l:Ex},l.isL=true→l.len=3→∃a b c,l= .cons a (.cons b (.cons c .nil))
 | .cons a l,hl,h=>by obtain⟨b,c,rfl⟩:=AcL (l:=l) hl (by simp only[Ex.len]at h;omega);exact⟨a,b,c,rfl⟩
theorem Ac6(p:Nat)(l:Ex)(ts:List Tm):clM p CO.id.s l ts=goM l ts [.node] (.ca p .id (ts.getD 0 .nil).node nx nx .nil .nil):=by
 unfold clM;simp only;rw[I_ trivial]<;>rfl
theorem TG(p:Nat)(l:Ex)(ts:List Tm):clM p CO.fold.s l ts=goM l ts [.node] (.ca p .fold (ts.getD 0 .nil).node nx nx .nil .nil):=by
 unfold clM;simp only;rw[G_ (by decide),I_ trivial]<;>rfl
theorem TI(p:Nat)(l:Ex)(ts:List Tm):clM p CO.norm.s l ts=goM l ts [.node,.text,.text] (.ca p .norm (ts.getD 0 .nil).node (JZ (ts.getD 1 .nil)) (JZ (ts.getD 2 .nil)) .nil .nil):=by
 unfold clM;simp only;rw[G_ (by decide),G_ (by decide),I_ trivial]<;>rfl
theorem WJ(p:Nat)(l:Ex)(ts:List Tm):clM p LO.del.s l ts=goM l ts [.node,.text] (.le p .del (ts.getD 0 .nil).node (JZ (ts.getD 1 .nil)) .nil .nil .nil):=by
 unfold clM;simp only;rw[G_ (by decide),G_ (by decide),G_ (by decide),I_ trivial]<;>rfl
theorem WK(p:Nat)(l:Ex)(ts:List Tm):clM p LO.ins.s l ts=goM l ts [.text] (.le p .ins none (JZ (ts.getD 0 .nil)) .nil .nil .nil):=by
 unfold clM;simp only;rw[G_ (by decide),G_ (by decide),G_ (by decide),G_ (by decide),I_ trivial]<;>rfl
theorem TF(p:Nat)(l:Ex)(ts:List Tm):clM p LO.copy.s l ts=goM l ts [.node] (.le p .copy (ts.getD 0 .nil).node nx .nil .nil .nil):=by
 unfold clM;simp only;rw[G_ (by decide),G_ (by decide),G_ (by decide),G_ (by decide),G_ (by decide),I_ trivial]<;>rfl
theorem WL(p:Nat)(l:Ex)(ts:List Tm):clM p LO.key.s l ts=goM l ts [.node] (.le p .key (ts.getD 0 .nil).node nx .nil .nil .nil):=by
 unfold clM;simp only;rw[G_ (by decide),G_ (by decide),G_ (by decide),G_ (by decide),G_ (by decide),G_ (by decide),I_ trivial]<;>rfl
theorem TH(p:Nat)(l:Ex)(ts:List Tm):clM p LO.left.s l ts=goM l ts [.canon,.lens] (.le p .left none nx (ts.getD 0 .nil) (ts.getD 1 .nil) .nil):=by
 unfold clM;simp only;rw[G_ (by decide),G_ (by decide),G_ (by decide),G_ (by decide),G_ (by decide),G_ (by decide),G_ (by decide),I_ trivial]<;>rfl
theorem Qy(p:Nat)(l:Ex)(ts:List Tm):clM p LO.right.s l ts=goM l ts [.lens,.canon] (.le p .right none nx (ts.getD 1 .nil) (ts.getD 0 .nil) .nil):=by
 unfold clM;simp only;rw[G_ (by decide),G_ (by decide),G_ (by decide),G_ (by decide),G_ (by decide),G_ (by decide),G_ (by decide),G_ (by decide),I_ trivial]<;>rfl
theorem KP(p:Nat)(l:Ex)(ts:List Tm):clM p LO.default_.s l ts=goM l ts [.lens,.text] (.le p .default_ none (JZ (ts.getD 1 .nil)) .nil (ts.getD 0 .nil) .nil):=by
 unfold clM;simp only;rw[G_ (by decide),G_ (by decide),G_ (by decide),G_ (by decide),G_ (by decide),G_ (by decide),G_ (by decide),G_ (by decide),G_ (by decide)]<;>rfl
theorem ok_C{t:Tm}(h:AK.canon.ok t=true):t.isC=true:=by cases t<;>first | rfl | cases h
theorem AeS{t:Tm}(h:AK.lens.ok t=true):t.isL=true:=by cases t<;>first | rfl | cases h
theorem XF{n:Option ReM}(h:n.isSome=true):∃T v,noV n= .iface T v:=by
 cases n with
 | none=>cases h
 | some r=>exact BP r
theorem ArS.box{B C:Nat→Prop}{H0 H H':Aa}{g p i q:Nat}{w:ByteArray}{l:Ex}{ts:List Tm}{x:Pc}{e:x_}{u:List v_}(h:ArS B C H0 H g p w l ts [x] i)(D:q=H.size)(hs:H'.size=q+1)(d:K_ H' q e u)(E:A_ (fun k=>k<q) H H'):ArS B C H0 H' g p w l ts [pB e q u] i:=by
 have⟨vs,b,n,r,a,F,xs,y,f,G,c,j,I,J,m,z⟩:=h;have A:=(y.sub (.cons_cons _ (.cons_cons _ (.cons _ .slnil)))).box D hs d E;have t:A_ B H H':=A_.trans (fun k d=>(y.old k d).symm) A.old;exact⟨vs,b,n,r,a,F,xs,A,f.up (fun _ h=>h) t,G,c,j.agr t c,I,J,m.up (fun _ h=>h) (t.mono z),z⟩
theorem ArS.size{B C:Nat→Prop}{H0 H:Aa}{g p i:Nat}{w:ByteArray}{l:Ex}{ts:List Tm}{qs:List Pc}(h:ArS B C H0 H g p w l ts qs i):H0.size≤H.size:=by
 obtain⟨vs,b,n,r,a,d,xs,c,-⟩:=h;exact c.size
section
variable{B B':Nat→Prop}{H0 H:Aa}{env:ByteArray→Option Tm}{p mb b n:Nat}{w:ByteArray}{l:Ex}{vs r:List v_}
abbrev clL(p:Nat)(w:ByteArray)(b k n:Nat):List v_:=[C_ p,.string w,.slice (b_ b) k n]
theorem Ab.ag{P:w_}{f:FuncId}{a:Array v_}{H G:Aa}{b:Bool}{q:Nat}{X:FT ⊕ Tm}{R K:v_→Aa→Prop}(h:Ay P f a G R fun y H'=>b=false∧y=Bg 72 q∧A_ (D_ G) G H')(c:b=false→X= .inl (72,q))(ag:A_ (D_ H) H G)(k:∀v H',R v H'→K v H'):Ab P f a G K (MkE H X):=
 Ab.mk h k fun y G9 h=>⟨72,q,c h.1,h.2.1,ag.trans (h.2.2.mono fun k d=>Ae ag d)⟩
def wdS:Nat→ByteArray
 | 0=>CO.id.s
 | 1=>CO.fold.s
 | 2=>CO.norm.s
 | 3=>LO.del.s
 | 4=>LO.ins.s
 | 5=>LO.copy.s
 | 6=>LO.key.s
 | 7=>LO.left.s
 | 8=>LO.right.s
 | _=>LO.default_.s
theorem N9{w:ByteArray}(a:0<arM w){k:Nat}(h:wIx w=k):w=wdS k:=by
 subst h;rcases LZ a with rfl | rfl | rfl | rfl | rfl | rfl | rfl | rfl | rfl | rfl<;>decide
theorem AfZ(w:ByteArray):wIx w≤9:=by
 unfold wIx
 repeat' split
 all_goals decide
theorem AaZ{ts:List Tm}{l:Ex}(c:l.isL=true)(d:ts.length=l.len)(h:l.len=1):∃a b,ts=[a]∧l= .cons b .nil:=by
 obtain⟨b,rfl⟩:=AcK c h
 match ts,d with
 | [a],_=>exact⟨a,b,rfl,rfl⟩
theorem AbO{ts:List Tm}{l:Ex}(e:l.isL=true)(f:ts.length=l.len)(h:l.len=2):∃a b c d,ts=[a,b]∧l= .cons c (.cons d .nil):=by
 obtain⟨c,d,rfl⟩:=AcL e h
 match ts,f with
 | [a,b],_=>exact⟨a,b,c,d,rfl,rfl⟩
theorem AfQ{ts:List Tm}{l:Ex}(g:l.isL=true)(j:ts.length=l.len)(h:l.len=3):∃a b c d e f,ts=[a,b,c]∧l= .cons d (.cons e (.cons f .nil)):=by
 obtain⟨d,e,f,rfl⟩:=Ah7 g h
 match ts,j with
 | [a,b,c],_=>exact⟨a,b,c,d,e,f,rfl,rfl⟩
theorem AdI(hB:∀k,B k→k<H.size)(hE:E5 H)(hm:MkS B H mb env)(Q:l.isL=true)(hv:ExC B H l vs)(hb:B b)(ai:K_ H b 95 (vs++r))(h1:vs.length≤n)(h2:n≤maxLen)(R:0<arM w)(hn:l.len=(arM w).toNat)
  (ih:∀i e,JI l i=some e→MkH env e):
  Ay prog 73 #[H_ mb,.agg (clL p w b vs.length n).toArray] H (MkR B H (OJ env p w l)) (MkE H (OJ env p w l)):=by
 have c4:=ExC.len Q hv;obtain⟨X,E⟩:∃X,OJ env p w l=X:=⟨_,rfl⟩;rw[E];have b7:l.len≤3:=by have:=Ws w;omega
 refine Ay.of_vc func73 rfl (call73 _) (BC (clL p w b vs.length n) rfl ?_);intro q H1 hq b8 ae bd;have s1:=(St.nil H).box hq b8 ae bd;refine L_ (cs:=clL p w b vs.length n) (ae.cells fun j v hv=>by rw[P_];exact hv) trivial ?_;refine Ah underlying218 rfl _ rfl (agL p w b vs.length n none 0 0 0) (by kernel_rfl) (BL s1.keep (agL p w b vs.length n none 0 0 0) rfl fun g H2 s2=>?_);have aj:A_ (fun k=>D_ H k∨k=q) H1 H2:=s2.old;have ab:=ae.agr aj (.inr rfl);have be:A_ (D_ H) H H2:=s1.old.trans (aj.mono fun k d=>.inl d);have bf:E_ (fun k=>D_ H k∨B k∨k=q) H2 H2 [pB 218 g (agL p w b vs.length n none ([]:List v_).length 0 0),pS Lp 37 none ([]:List v_).length 0 []]:=
  (s2.nils Lp 37).rebase.low fun k d=>d.elim .inl fun h=>h.imp_left (hB k)
 repeat ((conv=>whnf);first | refine F_ ?_ | refine B_ (ab.cellE rfl) trivial ?_ | refine Ao.run ?_)
 refine CA.mk [16] (fun x:Nat×Ex×List Tm=>match x with | (k,_,_)=>[C_ k]) (fun x G=>match x with | (k,m,ts)=>∃B1 a n2 xs,(∀j,JI m j=JI l (k+j))∧k+m.len=vs.length∧ts.length=k∧m.isL=true∧V' env l=Wr ts (V' env m)∧(∀k,(B k∨k=q)→B1 k)∧(∀k,B1 k→B k∨H.size≤k)∧A_ (D_ H) H G∧A_ (fun k=>k=q) H2 G∧E_ (fun k=>D_ H k∨B1 k) G G [pB 218 g (agL p w b vs.length n a xs.length n2 0),pS Lp 37 a xs.length n2 xs]∧TmL B1 G ts xs) (fun x _=>match x with | (k,_,_)=>vs.length-k) ⟨(0,l,[]),rfl,fun k=>B k∨k=q,none,0,[],fun j=>by rw[P_],by omega,rfl,Q,by cases V' env l<;>rfl,fun k h=>h,fun k h=>h.imp_right fun h=>by rw[h,hq];exact J_ _,be,A_.refl _ _,bf,rfl⟩ ?_;rintro⟨k,m,ts⟩ G c3 ⟨B1,a,n2,xs,hj,d,bh,ak,hF,N,ad,M,am,st,hT⟩;have O:=ab.agr am rfl;have a6:=st.blk 0 rfl;have ah:∀k,B1 k→k<G.size:=fun k d=>st.up (.inr d);have T:A_ B H G:=M.mono hB;by_cases c5:k<vs.length
 ·have d1:decide ((k:Int)<(vs.length:Int))=true:=s_;obtain⟨e0,m',rfl⟩:∃e0 m',m= .cons e0 m':=by
   cases m<;>first | exact⟨_,_,rfl⟩ | (simp only[Ex.len]at d;omega)
  have ao:JI l k=some e0:=(hj 0).symm;have⟨v0,bj,ap⟩:=hv.nth ao;obtain⟨T0,x0,rfl⟩:=ap.ifc;have sl:S_ Lp (fun _=>True) G (b_ b) n vs:=.intro trivial h1 h2 ((ai.agr T hb).cells (o:=0) fun j u hu=>by rw[P_,YaK (X_.1 hu).1];exact hu) (PO Q hv);(conv=>whnf);rw[d1];refine u_ UB sl bj rfl (fun b2 o2 c2 hS hc hr=>?_);obtain⟨rfl,-⟩:=hr;refine B_ (v:=.iface T0 x0) hc.one trivial (AE.held (fun k=>k=g) [12] (sq [0,1,2,3,4,5,6] (.f 7 (.f 8 (.f 9 (sq [10,11] (.f 12 .e)))))) (AQ _ _) rfl (by kernel_rfl) ?_)
  repeat ((conv=>whnf);first | refine F_ ?_ | refine B_ (a6.cellE rfl) rfl ?_)
  refine Ab.mk (ih k e0 ao ah (hE.agr M) (hm.up (fun k d=>N k (.inl d)) T) (ap.up (fun k d=>N k (.inl d)) T)) ?_ ?_
  rotate_left
  ·rintro y G2 ⟨c,z,D,rfl,a2⟩;refine⟨c,z,?_,rfl,M.trans (a2.mono fun k d=>Ae M d)⟩;rw[←E];unfold OJ;rw[hF];simp only[V',D,Wr]
  rintro x G2 ⟨t,D,ht,a2,aq⟩;have au:E_ (fun k=>D_ H k∨p_ B1 G G2 k) G2 G2 [pB 218 g (agL p w b vs.length n a xs.length n2 0),pS Lp 37 a xs.length n2 xs]:=(st.widen a2 _ fun k d=>d).low fun k d=>d.elim (fun h=>.inl (.inl h)) fun h=>h.elim (fun h=>.inl (.inr h)) .inr;have aw:=M.trans (a2.mono fun k d=>Ae M d);refine⟨GI a6 (au.blk 0 rfl),?_⟩;obtain⟨U,x1,rfl⟩:=aq.ifc ht.1;refine Az Oy [.iface U x1] rfl rfl (by decide) (by decide) ?_;intro y G3 hy c6 bn bo;have ay:=au.skip hy bo;refine⟨GI a6 (ay.blk 0 rfl),?_⟩;have c7:=hT.len;refine GH ay 1 Oy rfl bn ⟨rfl,rfl⟩ rfl (by omega) (by decide) fun a5 n5 G5 s5 j5=>(⟨GI a6 (s5.blk 0 rfl),?_⟩);refine F_ ?_;refine Bh s5 0 rfl (by simp) rfl fun G6 s6=>?_;(conv=>whnf);rw[R_ k (by omega)];have bp:(xs++[Value.iface U x1]).length=xs.length+1:=by simp
  have a7:∀k,(B k∨k=q)→p_ B1 G G2 k:=fun k d=>.inl (N k d);have bq:=O.lt;have az:=s6.old;have b4:A_ (p_ B1 G G2) G2 G6:=az.mono fun k d=>.inr d;refine⟨rfl,(k+1,m',ts++[t]),by simp,⟨p_ B1 G G2,a5,n5,xs++[.iface U x1],fun j=>by rw[show k+1+j=k+(j+1) by omega,←hj (j+1)];rfl,by simp only[Ex.len]at d;omega,by simp[bh],ak,?_,a7,?_,?_,?_,?_,?_⟩,by show vs.length-(k+1)<vs.length-k;omega⟩
  ·rw[hF];simp only[V',D];cases V' env m'<;>simp[hdT,Wr]
  ·rintro k (d | d)
   ·exact ad k d
   ·exact .inr (YbC (Ap M) d.1)
  ·exact aw.trans (az.mono fun k d=>.inl d)
  ·exact(am.trans (a2.mono fun k d=>by rw[d];exact bq)).trans (b4.mono fun k d=>a7 k (.inr d))
  ·rw[bp];exact s6.rebase
  ·exact(TmL.snoc aq ht.1 (hT.up (fun k d=>.inl d) (a2.mono ah))).up (fun k d=>d) b4
 ·have d1:decide ((k:Int)<(vs.length:Int))=false:=m_;obtain rfl:m= .nil:=by
   cases m<;>first | rfl | cases ak | (simp only[Ex.len]at d;omega)
  rw[show V' env .nil= .inr []from rfl]at hF;have hF:V' env l= .inr ts:=by rw[hF];simp[Wr]
  have E:X=clM p w l ts:=by
   rw[←E];unfold OJ;rw[hF]
  have J:ts.length=(arM w).toNat:=by omega
  have⟨e0,e1,e2,e3,e4,e5,e6,e7,e8,e9⟩:=w_ix R;have C1:∀k,B1 k→(D_ H k∨B1 k):=fun k d=>.inr d;have fin:∀{G2:Aa} {S:Nat→Prop},(∀k,D_ H k→S k)→A_ S G G2→A_ (D_ H) H G2:=fun hS h=>M.trans (h.mono hS);have a7:∀{G2:Aa} {t:Tm} {v:v_},X' B1 G t v→A_ B1 G G2→G.size≤G2.size→X' (p_ B H G2) G2 t v:=fun h a hs=>h.up (fun k d=>(ad k d).imp_right fun h=>⟨h,Ybq (ah k d) hs⟩) a;have c8:H.size≤G.size:=Ap M;(conv=>whnf);rw[d1]
  repeat ((conv=>whnf);first | refine F_ ?_ | refine B_ (O.cellE rfl) trivial ?_)
  refine Ah underlying74 rfl _ rfl [C_ p,.string w,.nilIface,.string nx,.pointer none,.pointer none,.pointer none] (by kernel_rfl) (BC [C_ p,.string w,.nilIface,.string nx,.pointer none,.pointer none,.pointer none] rfl ?_);intro lb G2 br bu bv bw;have A0:ArS (fun k=>D_ H k∨B1 k) B1 G G2 g p w l ts [pB 74 lb [C_ p,.string w,.nilIface,.string nx,.pointer none,.pointer none,.pointer none]] 0:=by
   have s4:=st.box br bu bv bw;have h4:A_ (fun k=>D_ H k∨B1 k) G G2:=s4.old;have bx:B1 b:=N b (.inl hb);exact⟨vs,b,n,r,a,n2,xs,s4,(hv.up (fun k d=>.inr (N k (.inl d))) (T.trans (h4.mono fun k d=>.inl (hB k d)))),Q,.inr bx,ai.agr (T.trans (h4.mono fun k d=>.inl (hB k d))) hb,h1,h2,hT.up (fun k d=>d) (h4.mono C1),C1⟩
  have K:=O.agr (A0.old.mono fun k (d:k=q)=>.inr (N k (.inr d))) rfl;have c9:G.size≤lb:=by omega
  have old_:∀{G3:Aa} {qs:List Pc} {i:Nat},ArS (fun k=>D_ H k∨B1 k) B1 G G3 g p w l ts qs i→A_ (D_ H) H G3∧A_ B1 G G3∧A_ (fun k=>k=q) G2 G3:=fun A=>⟨fin (fun k d=>.inl d) A.old,A.old.mono C1,A_.trans (fun k d=>(A0.old k (.inr (N k (.inr d)))).symm) (A.old.mono fun k d=>.inr (N k (.inr d)))⟩;refine Ao.run (F_ ?_);refine lT (K.cellE rfl) ?_;clear hF b7;have V:∀{G3 G4:Aa} {qs qs':List Pc} {i i':Nat} {t:Tm} {v:v_},ArS (fun k=>D_ H k∨B1 k) B1 G G3 g p w l ts qs i→ArS (fun k=>D_ H k∨B1 k) B1 G G4 g p w l ts qs' i'→X' B1 G3 t v→X' (p_ B H G4) G4 t v:=fun A A' h=>a7 (h.up (fun _ h=>h) fun k d=>((old_ A).2.1 k d).symm) (old_ A').2.1 A'.size;have L:∀(op:LO) (n:Option ReM) (q a b:Tm) {G6:Aa} {qs:List Pc} {i:Nat} {s:ByteArray} {vq va vb:v_},w=op.s→ArS (fun k=>D_ H k∨B1 k) B1 G G6 g p w l ts (pB 74 lb [C_ p,.string w,noV n,.string s,vq,va,vb]::qs) i→X= .inr (.le p op n s q a b)→q.isC=true→a.isL=true→b.isL=true→X' (p_ B H G6) G6 q vq→X' (p_ B H G6) G6 a va→X' (p_ B H G6) G6 b vb→MkR B H X (.iface 53 (H_ lb)) G6:=fun op n q a b G6 qs i s vq va vb D A E kq ka kb tq ta tb=>by
   have b9:=A.blk;have z9:G.size≤G6.size:=A.size;refine⟨_,E,(old_ A).1,_,⟨lb,_,_,_,rfl,.inr ⟨by omega,b9.lt⟩,?_,kq,ka,kb,tq,ta,tb⟩,rfl⟩;rw[D]at b9;exact b9
  have J:=J.trans hn.symm
  repeat (refine Ao.run ?_)
  (conv=>whnf);by_cases h:wIx w=0;have D:w=CO.id.s:=N9 R h;have hc:=Ac6 p l ts;rw[←D,←E]at hc;have b5:∃op:CO,w=op.s∧X=goM l ts [.node] (.ca p op (ts.getD 0 .nil).node nx nx .nil .nil):=⟨_,D,hc⟩;refine Ag.tt (e0.trans (g_ h)) ?_
  rotate_left
  refine Ag.ff (e0.trans (a_ h)) ?_
  repeat (refine Ao.run ?_)
  (conv=>whnf);by_cases h:wIx w=1;have D:w=CO.fold.s:=N9 R h;have hc:=TG p l ts;rw[←D,←E]at hc;have b5:∃op:CO,w=op.s∧X=goM l ts [.node] (.ca p op (ts.getD 0 .nil).node nx nx .nil .nil):=⟨_,D,hc⟩;refine Ag.tt (e1.trans (g_ h)) ?_
  rotate_left
  refine Ag.ff (e1.trans (a_ h)) ?_
  repeat (refine Ao.run ?_)
  (conv=>whnf);by_cases h:wIx w=2
  ·have D:w=CO.norm.s:=N9 R h;obtain⟨F,U,t2,u0,u1,u2,rfl,rfl⟩:=AfQ Q J (by rw[hn,D];decide);rw[D,TI]at E;refine Ag.tt (e2.trans (g_ h)) (AE.held (fun k=>k=q) [] (sq [0,1,2,3,4] (.f 5 (sq [6] (.f 7 (sq [8] .e))))) (AQ _ _) rfl (by kernel_rfl) ?_)
   repeat ((conv=>whnf);first | refine F_ ?_ | refine B_ (K.cellE rfl) rfl ?_)
   refine Ab.ag (LX A0 rfl rfl) (fun h=>by rw[E];simp[goM,DV,AK.ok,h]) (old_ A0).1 ?_;rintro v3 G3 ⟨C,W,A1⟩;have⟨T1,x1,Y⟩:=XF C;rw[Y]at W;subst W;have o9:=old_ A1;refine⟨o9.2.2,?_⟩;refine Ah underlying209 rfl _ rfl [C_ p,.string w,.iface T1 x1,.string nx,.string nx,.pointer none,.pointer none] (by kernel_rfl) (BC [C_ p,.string w,.iface T1 x1,.string nx,.string nx,.pointer none,.pointer none] rfl ?_);intro cb G4 a8 b6 Z a9;have a5:=a9.new a8;have z3:=A1.size;have A2:=A1.box a8 b6 Z a9;refine⟨o9.2.2.trans (a5.mono fun k d=>by rw[d];have:=K.lt;have:=A0.size;have:=O.lt;unfold D_;omega),?_⟩;refine Ab.ag (LY A2 rfl rfl) (fun h=>by rw[E];simp[goM,DV,show AK.node.ok F=true from C,h]) (old_ A2).1 ?_;rintro _ G5 ⟨I,rfl,A3⟩;refine F_ ?_;refine A3.st1 (by simp) rfl fun G6 A4=>?_;refine Ab.ag (LY A4 rfl rfl) (fun h=>by rw[E];simp[goM,DV,show AK.node.ok F=true from C,I,h]) (old_ A4).1 ?_;rintro _ G7 ⟨bz,rfl,A5⟩;refine F_ ?_;refine A5.st1 (by simp) rfl fun G8 A6=>?_;(conv=>whnf);have b9:=A6.blk;have z9:G.size≤G8.size:=A6.size;have z4:=A0.size;refine⟨.ca p .norm F.node (JZ U) (JZ t2) .nil .nil,by rw[E];simp[goM,DV,show AK.node.ok F=true from C,I,bz],(old_ A6).1,_,⟨cb,_,_,rfl,.inr ⟨by omega,b9.lt⟩,?_,rfl,rfl,rfl,rfl⟩,rfl⟩;rw[D]at b9;show K_ _ _ _ [_,_,noV F.node,_,_,_,_];rw[Y];exact b9
  refine Ag.ff (e2.trans (a_ h)) ?_
  repeat (refine Ao.run ?_)
  (conv=>whnf);by_cases h:wIx w=3
  ·have D:w=LO.del.s:=N9 R h;obtain⟨F,U,u0,u1,rfl,rfl⟩:=AbO Q J (by rw[hn,D];decide);rw[D,WJ]at E;refine Ag.tt (e3.trans (g_ h)) ?_;refine Ab.ag (LX A0 rfl rfl) (fun h=>by rw[E];simp[goM,DV,AK.ok,h]) (old_ A0).1 ?_;rintro _ G3 ⟨C,rfl,A1⟩;refine F_ ?_;refine A1.st1 (by simp) (Pq _) fun G4 A2=>?_;refine Ab.ag (LY A2 rfl rfl) (fun h=>by rw[E];simp[goM,DV,show AK.node.ok F=true from C,h]) (old_ A2).1 ?_;rintro _ G5 ⟨I,rfl,A3⟩;refine F_ ?_;refine A3.st1 (by simp) rfl fun G6 A4=>?_;(conv=>whnf);exact L .del F.node .nil .nil .nil D A4 (by rw[E];simp[goM,DV,show AK.node.ok F=true from C,I]) rfl rfl rfl rfl rfl rfl
  refine Ag.ff (e3.trans (a_ h)) ?_
  repeat (refine Ao.run ?_)
  (conv=>whnf);by_cases h:wIx w=4
  ·have D:w=LO.ins.s:=N9 R h;obtain⟨F,u0,rfl,rfl⟩:=AaZ Q J (by rw[hn,D];decide);rw[D,WK]at E;refine Ag.tt (e4.trans (g_ h)) ?_;refine Ab.ag (LY A0 rfl rfl) (fun h=>by rw[E];simp[goM,DV,h]) (old_ A0).1 ?_;rintro _ G3 ⟨C,rfl,A1⟩;refine F_ ?_;refine A1.st1 (by simp) rfl fun G4 A2=>?_;(conv=>whnf);exact L .ins none .nil .nil .nil D A2 (by rw[E];simp[goM,DV,C]) rfl rfl rfl rfl rfl rfl
  refine Ag.ff (e4.trans (a_ h)) ?_
  repeat (refine Ao.run ?_)
  (conv=>whnf);by_cases h:wIx w=5
  ·have D:w=LO.copy.s:=N9 R h;obtain⟨F,u0,rfl,rfl⟩:=AaZ Q J (by rw[hn,D];decide);rw[D,TF]at E;refine Ag.tt (e5.trans (g_ h)) ?_;refine Ab.ag (LX A0 rfl rfl) (fun h=>by rw[E];simp[goM,DV,AK.ok,h]) (old_ A0).1 ?_;rintro _ G3 ⟨C,rfl,A1⟩;refine F_ ?_;refine A1.st1 (by simp) (Pq _) fun G4 A2=>?_;(conv=>whnf);exact L .copy F.node .nil .nil .nil D A2 (by rw[E];simp[goM,DV,show AK.node.ok F=true from C]) rfl rfl rfl rfl rfl rfl
  refine Ag.ff (e5.trans (a_ h)) ?_
  repeat (refine Ao.run ?_)
  (conv=>whnf);by_cases h:wIx w=6
  ·have D:w=LO.key.s:=N9 R h;obtain⟨F,u0,rfl,rfl⟩:=AaZ Q J (by rw[hn,D];decide);rw[D,WL]at E;refine Ag.tt (e6.trans (g_ h)) ?_;refine Ab.ag (LX A0 rfl rfl) (fun h=>by rw[E];simp[goM,DV,AK.ok,h]) (old_ A0).1 ?_;rintro _ G3 ⟨C,rfl,A1⟩;refine F_ ?_;refine A1.st1 (by simp) (Pq _) fun G4 A2=>?_;(conv=>whnf);exact L .key F.node .nil .nil .nil D A2 (by rw[E];simp[goM,DV,show AK.node.ok F=true from C]) rfl rfl rfl rfl rfl rfl
  refine Ag.ff (e6.trans (a_ h)) ?_
  repeat (refine Ao.run ?_)
  (conv=>whnf);by_cases h:wIx w=7
  ·have D:w=LO.left.s:=N9 R h;obtain⟨F,U,u0,u1,rfl,rfl⟩:=AbO Q J (by rw[hn,D];decide);rw[D,TH]at E;refine Ag.tt (e7.trans (g_ h)) ?_;refine Ab.ag (T7 A0 rfl rfl) (fun h=>by rw[E];simp[goM,DV,h]) (old_ A0).1 ?_;rintro v0 G3 ⟨C,P,A1⟩;obtain⟨z0,rfl⟩:=P.ptr;refine F_ ?_;refine A1.st1 (by simp) rfl fun G4 A2=>?_;refine Ab.ag (RT A2 rfl rfl) (fun h=>by rw[E];simp[goM,DV,C,h]) (old_ A2).1 ?_;rintro v1 G5 ⟨I,a0,A3⟩;obtain⟨z1,rfl⟩:=a0.ptr;refine F_ ?_;refine A3.st1 (by simp) rfl fun G6 A4=>?_;(conv=>whnf);exact L .left none F U .nil D A4 (by rw[E];simp[goM,DV,C,I]) (ok_C C) (AeS I) rfl (V A0 A4 P) (V A2 A4 a0) rfl
  refine Ag.ff (e7.trans (a_ h)) ?_
  repeat (refine Ao.run ?_)
  (conv=>whnf);by_cases h:wIx w=8
  ·have D:w=LO.right.s:=N9 R h;obtain⟨F,U,u0,u1,rfl,rfl⟩:=AbO Q J (by rw[hn,D];decide);rw[D,Qy]at E;refine Ag.tt (e8.trans (g_ h)) ?_;refine Ab.ag (RT A0 rfl rfl) (fun h=>by rw[E];simp[goM,DV,h]) (old_ A0).1 ?_;rintro v0 G3 ⟨C,P,A1⟩;obtain⟨z0,rfl⟩:=P.ptr;refine F_ ?_;refine A1.st1 (by simp) rfl fun G4 A2=>?_;refine Ab.ag (T7 A2 rfl rfl) (fun h=>by rw[E];simp[goM,DV,C,h]) (old_ A2).1 ?_;rintro v1 G5 ⟨I,a0,A3⟩;obtain⟨z1,rfl⟩:=a0.ptr;refine F_ ?_;refine A3.st1 (by simp) rfl fun G6 A4=>?_;(conv=>whnf);exact L .right none U F .nil D A4 (by rw[E];simp[goM,DV,C,I]) (ok_C I) (AeS C) rfl (V A2 A4 a0) (V A0 A4 P) rfl
  refine Ag.ff (e8.trans (a_ h)) ?_
  repeat (refine Ao.run ?_)
  (conv=>whnf);by_cases h:wIx w=9
  ·have D:w=LO.default_.s:=N9 R h;obtain⟨F,U,u0,u1,rfl,rfl⟩:=AbO Q J (by rw[hn,D];decide);rw[D,KP]at E;refine Ag.tt (e9.trans (g_ h)) ?_;refine Ab.ag (RT A0 rfl rfl) (fun h=>by rw[E];simp[goM,DV,h]) (old_ A0).1 ?_;rintro v0 G3 ⟨C,P,A1⟩;obtain⟨z0,rfl⟩:=P.ptr;refine F_ ?_;refine A1.st1 (by simp) rfl fun G4 A2=>?_;refine Ab.ag (LY A2 rfl rfl) (fun h=>by rw[E];simp[goM,DV,C,h]) (old_ A2).1 ?_;rintro _ G5 ⟨I,rfl,A3⟩;refine F_ ?_;refine A3.st1 (by simp) rfl fun G6 A4=>?_;(conv=>whnf);exact L .default_ none .nil F .nil D A4 (by rw[E];simp[goM,DV,C,I]) rfl (AeS C) rfl rfl (V A0 A4 P) rfl
  exact absurd (AfZ w) (by omega)
  all_goals
   obtain⟨F,u0,rfl,rfl⟩:=AaZ Q J (by rw[hn,D];decide);have⟨op,D,E⟩:=b5;refine AE.held (fun k=>k=q) [] (sq [0,1,2,3,4] (.f 5 (sq [6] (.f 7 (sq [8,9] .e))))) (AQ _ _) rfl (by kernel_rfl) ?_
   repeat ((conv=>whnf);first | refine F_ ?_ | refine B_ (K.cellE rfl) rfl ?_)
   refine Ab.ag (LX A0 rfl rfl) (fun h=>by rw[E];simp[goM,DV,AK.ok,h]) (old_ A0).1 ?_;rintro v3 G3 ⟨C,W,A1⟩;have⟨T1,x1,Y⟩:=XF C;rw[Y]at W;subst W;have o9:=old_ A1;refine⟨o9.2.2,?_⟩;refine Ah underlying209 rfl _ rfl [C_ p,.string w,.iface T1 x1,.string nx,.string nx,.pointer none,.pointer none] (by kernel_rfl) (BC [C_ p,.string w,.iface T1 x1,.string nx,.string nx,.pointer none,.pointer none] rfl ?_);intro cb G4 a8 b6 Z a9;have a5:=a9.new a8;have z3:=A1.size;refine⟨o9.2.2.trans (a5.mono fun k d=>by rw[d];have:=K.lt;have:=A0.size;have:=O.lt;unfold D_;omega),?_⟩;(conv=>whnf);rw[D,←Y]at Z;exact⟨.ca p op F.node nx nx .nil .nil,by rw[E];simp[goM,DV,show AK.node.ok F=true from C],o9.1.trans (a5.mono fun k d=>Ae o9.1 d),_,⟨cb,_,_,rfl,.inr ⟨by omega,Z.lt⟩,Z,rfl,rfl,rfl,rfl⟩,rfl⟩
end
def Ll(t:ByteArray)(f:AF):Prop:= -1≤f.place∧f.place≤(t.size:Int)
structure Zg(t:ByteArray)(s:RdS):Prop where
 f:Ll t s.f
 fs:∀g∈s.fs,Ll t g
def ErOk(t:ByteArray)(c:Nat)(p:Int):Prop:=c≠0∧c≤30∧ -1≤p∧p≤(t.size:Int)+10
def OB(t:ByteArray):Sum (Nat×Int) ReM→Prop
 | .inl (c,p)=>ErOk t c p
 | .inr r=>r.nodes≤2000
theorem AfU{t:ByteArray}{m i:Nat}{e:Nat×Nat}(h:upM t m i= .inl e):e.1=20∧e.2≤i+1:=by
 unfold upM at h;split at h
 ·split at h
  ·cases h
  ·split at h
   ·cases h
   ·cases h;exact⟨rfl,J_ _⟩
 ·cases h
theorem ZI{t:ByteArray}{p m i:Nat}{n:Int}{e:Nat×Nat}(h:Mq t p m n i= .inl e):(e.1=20∧e.2=i)∨(e.1=22∧e.2=p):=by
 unfold Mq at h;split at h
 ·split at h
  ·cases h;exact .inr ⟨rfl,rfl⟩
  ·cases h
 ·cases h;exact .inl ⟨rfl,rfl⟩
theorem Sd{t:ByteArray}{i:Nat}{e:Nat×Nat}(h:Du t i= .inl e):e.1≠0∧e.1≤30∧e.2≤i+10:=by
 unfold Du at h;split at h
 ·obtain⟨a1,a2,-⟩:=FG (t:=t) 3 (i+1) 0;generalize DA t 3 (i+1) 0=q at*;split at h
  ·rename_i e2 a;cases h;have:=AfU a;refine⟨?_,?_,?_⟩<;>omega
  ·rename_i g b a;have c:b≤i+9:=by
    unfold upM at a;split at a
    ·split at a
     ·cases a;omega
     ·split at a
      ·obtain⟨j,k,-⟩:=FG (t:=t) 3 (q.2+1) 0;cases a;omega
      ·cases a
    ·cases a;omega
   rcases ZI h with⟨d,f⟩ | ⟨d,f⟩
   ·refine⟨?_,?_,?_⟩<;>omega
   ·refine⟨?_,?_,?_⟩<;>omega
 ·cases h;exact⟨show(20:Nat)≠0 by decide,show(20:Nat)≤30 by decide,show i+1≤i+10 by omega⟩
theorem XZ{t:ByteArray}{s:RdS}{e:Nat×Nat}(hi:s.i<t.size)(h:BF t s= .inl e):e.1≠0∧e.1≤30∧e.2≤t.size+10:=by
 have k:∀c:Nat,c≠0→c≤30→c≠0∧c≤30∧s.i≤t.size+10:=fun c b d=>⟨b,d,by omega⟩;unfold BF at h;split at h
 ·split at h
  ·cases h;exact k 20 (by decide) (by decide)
  ·split at h
   ·rename_i e2 a;cases h;unfold Gt at a;split at a
    ·cases a
    ·split at a
     ·cases a
     ·split at a
      ·cases a
      ·have:=Sd a;exact⟨this.1,this.2.1,by omega⟩
   ·cases h
 ·split at h
  ·cases h
  ·split at h
   ·cases h
   ·split at h
    ·split at h
     ·cases h;exact k 20 (by decide) (by decide)
     ·cases h
    ·split at h
     ·split at h
      ·cases h;exact k 23 (by decide) (by decide)
      ·cases h
     ·split at h
      ·rename_i e2 f;cases h;have:=MM f hi;exact⟨show(10:Nat)≠0 by decide,show(10:Nat)≤30 by decide,by show e2≤_;omega⟩
      ·cases h
theorem Oj{t:ByteArray}{f:AF}(h:Ll t f):Ll t (AC f):=by unfold Ll;rw[(FM f).2.2.2];exact h
theorem Ab2{t:ByteArray}{f:AF}(h:Ll t f):Ll t (CJ f):=by unfold Ll;rw[(Da f).2.1];exact h
theorem XW{t:ByteArray}{f:AF}(h:Ll t f):Ll t (CC f):=by unfold Ll;rw[(Fe f).2.1];exact h
theorem Ya{t:ByteArray}{s c:RdS}(hi:s.i<t.size)(hs:Zg t s)(h:BF t s= .inr c):Zg t c:=by
 unfold BF at h;split at h
 ·split at h
  ·cases h
  ·split at h
   ·cases h
   ·cases h;exact⟨hs.f,hs.fs⟩
 ·split at h
  ·cases h;exact⟨XW hs.f,hs.fs⟩
  ·split at h
   ·cases h;exact⟨Ab2 hs.f,hs.fs⟩
   ·split at h
    ·split at h
     ·cases h
     ·rename_i g r a;cases h;have:=hs.fs;rw[a]at this;exact⟨this g YbZ,fun x d=>this x (YbX _ d)⟩
    ·split at h
     ·split at h
      ·cases h
      ·cases h;refine⟨⟨by show(-1:Int)≤(s.i:Int);omega,by show(s.i:Int)≤_;omega⟩,fun g b=>?_⟩;rcases Ybe.1 b with rfl | b
       ·exact Oj hs.f
       ·exact hs.fs g b
     ·split at h
      ·cases h
      ·cases h;exact⟨Oj hs.f,hs.fs⟩
theorem U6{t:ByteArray}{s:RdS}(hs:Zg t s):OB t (XV s):=by
 unfold XV;split
 ·show OB t (if _ then _ else _);split
  ·exact⟨by decide,by decide,by decide,by omega⟩
  ·rename_i h;show ReM.nodes _≤2000;omega
 ·have:=hs.f;unfold Ll at this;exact⟨by decide,by decide,this.1,by omega⟩
theorem Rk{t:ByteArray}:∀(n:Nat) (s:RdS),Zg t s→OB t (Gu t n s)
 | 0,s,h=>U6 h
 | n+1,s,h=>by
   unfold Gu;by_cases a:s.i<t.size
   ·rw[I_ a];cases b:BF t s with
    | inl e=>
      have:=XZ a b;exact⟨this.1,this.2.1,by show(-1:Int)≤(e.2:Int);omega,by show(e.2:Int)≤_;omega⟩
    | inr c=>exact Rk n c (Ya a h b)
   ·rw[G_ a];exact U6 h
theorem Oh(t:ByteArray):OB t (GW t):=by
 unfold GW;split
 ·exact⟨by decide,by decide,by decide,by omega⟩
 ·exact Rk _ _ ⟨⟨by decide,by show(-1:Int)≤_;omega⟩,fun g a=>by cases a⟩
def fiL(c:Nat)(p:Int):List v_:=[C_ c,C_ p,.string ⟨#[]⟩]
def IP(c:Nat)(p:Int):List Lit:=[.int .i64 (c:Int),.int .i64 p,.string []]
theorem TV{c:Nat}{p:Int}(b:c<9223372036854775808)(d:inK .i64 p):prog.keyLits 3 27 (fiL c p)=some (IP c p):=by
 have e:prog.cellsOf 27=3:=by kernel_rfl
 have f:prog.cellsOf 25=1:=by kernel_rfl
 have g:prog.cellsOf 3=1:=by kernel_rfl
 have h:prog.cellsOf 9=1:=by kernel_rfl
 have a:(⟨#[]⟩:ByteArray).size≤maxLen:=l_ _;simp[Program.keyLits,underlying27,underlying25,underlying3,underlying9,e,f,g,h,fiL,IP,a,L7 (Co b),L7 d]
theorem Su{c c':Nat}{p p':Int}:decide (c=c'∧p=p')=true↔IP c p=IP c' p':=by
 unfold IP;rw[Zzj];constructor
 ·rintro⟨rfl,rfl⟩;rfl
 ·intro h;simp only[AhM.injEq,Lit.int.injEq,true_and,and_true]at h;exact⟨by omega,by omega⟩
theorem Xd{c c':Nat}{p p':Int}(d:c<9223372036854775808)(e:inK .i64 p)(a:c'<9223372036854775808)(b:inK .i64 p'){x y:z_}{S:Nat→Prop}{H:Aa}{K:v_→Prop}(k:K (.bool (!decide (c=c'∧p=p')))):
  A7 prog (do eqGuard .neq 27 x y (.agg (fiL c p).toArray) (.agg (fiL c' p').toArray);binOp .neq 27 (.agg (fiL c p).toArray) (.agg (fiL c' p').toArray)) S H K:=
 AfX (m:=3) (la:=IP c p) (lb:=IP c' p') (by kernel_rfl) (by decide) (eqGuardType27) rfl rfl (TV d e) (TV a b) Su k
theorem Nl(s:ByteArray):(Cz (byN s)).nodes=Gd s:=by
 have:=RE (byN s);rw[Lv]at this;unfold Gd;omega
theorem Ux:∀t:Tm,Ey t.node≤t.sz
 | .txt p s=>by show(Cz (byN s)).nodes≤Gd s;rw[Nl];exact J_ _
 | .rx _ _=>J_ _
 | .ca .. | .le .. | .nil=>l_ _
def Tm.sol:Tm→Bool
 | .rx .. | .ca .. | .le .. =>true
 | _=>false
theorem Kz{t:Tm}{n:ReM}(h:t.node=some n):n.nodes≤t.sz:=by
 have:=Ux t;rw[h]at this;exact this
theorem AfT{p:Nat}{s:ByteArray}{t u:Tm}(h:unM p s t= .inr u):u.sol=true∧u.sz≤2*t.sz+3:=by
 unfold unM at h;cases a:t.node with
 | some n=>
   have:=Kz a;rw[a]at h;simp only at h;cases h;refine⟨rfl,?_⟩;show(if _ then _ else _:ReM).nodes≤_
   repeat' split
   all_goals (simp only[ReM.nodes];omega)
 | none=>
   rw[a]at h;simp only at h;cases t with
   | txt=>cases a
   | rx=>cases a
   | nil=>cases h
   | ca=>
     simp only at h;split at h
     ·cases h;exact⟨rfl,by simp only[Tm.sz,Ey];omega⟩
     ·cases h
   | le=>
     simp only at h;cases h
     repeat' split
     all_goals exact⟨rfl,by simp only[Tm.sz,Ey,ReM.nodes];omega⟩
theorem AaG{s:ByteArray}{o:LO}(a:S7 s=some o):o.isI=false:=by
 unfold S7 at a
 repeat' split at a
 all_goals first | (cases a;rfl) | cases a
theorem Z8{s:ByteArray}{o:CO}(a:Sh s=some o):o.isN=false:=by
 unfold Sh at a
 repeat' split at a
 all_goals first | (cases a;rfl) | cases a
theorem AdG{p:Nat}{s:ByteArray}{a b u:Tm}(h:biM p s a b= .inr u):u.sol=true∧u.sz≤a.sz+b.sz+3:=by
 unfold biM at h;have tl:∀{a b:Tm},JX p s a b= .inr u→u.sol=true∧u.sz≤a.sz+b.sz+3:=fun{a b} h=>by
  unfold JX at h;split at h
  ·split at h
   ·rename_i o c;cases h;refine⟨rfl,?_⟩;rw[NY,AaG c,G_ nofun];simp only[Ey];have:Tm.nil.sz=0:=rfl;omega
   ·cases h
  ·split at h
   ·rename_i o c;cases h;refine⟨rfl,?_⟩;rw[W6,Z8 c,G_ nofun];simp only[Ey];omega
   ·cases h
  ·cases h
 split at h
 ·rename_i x y e f;have g:=Kz e;have j:=Kz f;unfold Rq at h
  repeat' split at h
  all_goals first
   | (rename_i r d
      cases h
      repeat' split at d
      all_goals first
       | (cases d;exact⟨rfl,by simp only[Tm.sz,ReM.nodes];omega⟩)
       | cases d)
   | cases h
 ·exact tl h
theorem AdR{p:Nat}{w:ByteArray}{l:Ex}{ts:List Tm}{u:Tm}(d:0<arM w)(hs:∀t∈ts,t.sz≤10000)(h:clM p w l ts= .inr u):u.sol=true∧u.sz≤50000:=by
 have a:∀i,(ts.getD i .nil).sz≤10000:=fun i=>by
  rw[List.getD_eq_getElem?_getD];cases b:ts[i]? with
  | none=>exact l_ _
  | some t=>exact hs t (d_ b)
 have e:∀i,Ey (ts.getD i .nil).node≤10000:=fun i=>YbC (Ux _) (a i);have c:∀i,Gd (JZ (ts.getD i .nil))≤10000:=fun i=>by
  have:=a i;cases b:ts.getD i .nil<;>first | (rw[b]at this;exact this) | exact YbC (show Gd nx≤1 from by decide) (by decide)
 have g:=a 0;have g1:=a 1;have j:=e 0;have k:=c 0;have m:=c 1;have n:=c 2;rcases LZ d with rfl | rfl | rfl | rfl | rfl | rfl | rfl | rfl | rfl | rfl
 all_goals
  first
   | rw[Ac6]at h | rw[TG]at h | rw[TI]at h | rw[WJ]at h | rw[WK]at h | rw[TF]at h | rw[WL]at h | rw[TH]at h | rw[Qy]at h | rw[KP]at h
  unfold goM at h;split at h
  ·cases h
  ·cases h;refine⟨rfl,?_⟩;have q:Tm.nil.sz=0:=rfl;have r:Gd nx=1:=rfl
   first | rw[W6] | rw[NY]
   simp only[CO.isN,LO.isI,Yao,if_true,if_false];have f:Ey none=0:=rfl;omega
section
variable{B:Nat→Prop}{H G G':Aa}
theorem p_.comp(a:H.size≤G.size)(b:G.size≤G'.size){k:Nat}(h:p_ (p_ B H G) G G' k):p_ B H G' k:=by
 rcases h with(h | h) | h
 ·exact .inl h
 ·exact .inr ⟨h.1,by omega⟩
 ·exact .inr ⟨by omega,h.2⟩
theorem TmI.fr2{t:Tm}{v:v_}(a:∀k,B k→k<H.size)(b:A_ (D_ H) H G)(c:A_ (D_ G) G G')(h:TmI (p_ B H G) G t v):TmI (p_ B H G') G' t v:=by
 have⟨w,h,e⟩:=h;exact⟨w,h.fr2 a b c,e⟩
theorem AfR{t:Tm}{x:v_}(d:∀k,B k→k<H.size)(h:TmI B H t x)(hs:t.sol=true)(a:t.sz≤1000000000):AZ prog 74 #[x] H (.int .i64 (t.sz:Int)):=by
 have b:AZ prog 114 #[x] H (.int .i64 (t.sz:Int)):=by
  obtain⟨v,h,rfl⟩:=h;cases t with
  | txt=>cases hs
  | nil=>cases hs
  | ca=>exact(Jh _ a d h).1 rfl
  | le=>exact(Jh _ a d h).2 rfl
  | rx p r=>
    show AZ prog 114 #[.iface 150 (.agg #[C_ p,Av r])] H (.int .i64 (r.nodes:Int));rw[C7];refine Al.of_vc func114 rfl (call114 _) ?_
    repeat ((conv=>whnf);first | refine Af.run ?_ | refine RB ?_ | refine taR1 ?_)
    refine BV (St.nil H) tzR [C_ 0,.nilIface] (by kernel_rfl) rfl fun q H1 e=>(AD (cs:=[C_ p,.iface (MC r) (EJ r)]) e 0 rfl rfl (J_ _) rfl fun H2 c=>(F_ ?_));refine B_ ((c.blk 0 rfl).cellE rfl) trivial (Gg.mk (JR r) #[EJ r] (Jc r) (PI r a H2) ?_);rintro _ H3 ⟨rfl,a3⟩;(conv=>whnf);exact⟨rfl,c.old.trans (a3.mono fun k f=>c.up f)⟩
 refine Al.of_vc func74 rfl (call74 _) (Ak b fun H1 a1=>?_);(conv=>whnf);exact⟨rfl,a1⟩
end
theorem X4:Qh prog 90 9 37 .string .nilIface:=⟨rfl,rfl,rfl⟩
def MkO(B:Nat→Prop)(H:Aa)(env:ByteArray→Option Tm)(e:Ex)(v:v_)(G:Aa):Prop:=∃t,V' env e=Kk e.place (.inr t)∧A_ (D_ H) H G∧TmI (p_ B H G) G t v∧t.sz≤100000∧t.sol=true
section
variable{B:Nat→Prop}{H G G':Aa}{env:ByteArray→Option Tm}{e:Ex}
theorem MkO.of{X:FT ⊕ Tm}{v:v_}{p:Nat}(d:V' env e=Kk p X)(f:e.place=p)(m:∀k,B k→k<H.size)(a:A_ (D_ H) H G)(h:MkR (p_ B H G) G X v G')(hs:∀t,X= .inr t→t.sz≤100000∧t.sol=true):MkO B H env e v G':=by
 have⟨t,c,a2,g⟩:=h;have j:=Ap a;have l:=Ap a2;exact⟨t,by rw[d,c,f],a.trans (a2.mono fun k b=>Ae a b),g.up (fun k b=>p_.comp j l b) (A_.refl _ _),hs t c⟩
theorem MkE.of{X:FT ⊕ Tm}{y:v_}{p:Nat}(b:V' env e=Kk p X)(a:A_ (D_ H) H G)(h:MkE G X y G'):MkE H (V' env e) y G':=by
 have⟨c,q,d,f,a2⟩:=h;exact⟨c,q,by rw[b,d];rfl,f,a.trans (a2.mono fun k g=>Ae a g)⟩
theorem in0:inK .i64 0:=Co (x:=0) (by decide)
def Wh(env:ByteArray→Option Tm):Prop:=∀s t,env s=some t→t.good
theorem MkS.env_ok{mb:Nat}(h:MkS B H mb env):Wh env:=fun s t hs=>by
 obtain⟨b,c,-,-,-,-,a⟩:=h;have:=a s;rw[hs]at this;exact this.choose_spec.2.2
theorem L0{p:Nat}{x:FT ⊕ Tm}{ts:List Tm}(h:Kk p x= .inr ts):∃t,ts=[t]∧x= .inr t∧t.sz≤2000:=by
 cases x with
 | inl e=>cases h
 | inr t=>
   unfold Kk at h;simp only at h;split at h
   ·cases h
   ·cases h;exact⟨t,rfl,rfl,by omega⟩
theorem SG(g:Wh env):∀{e:Ex} {ts:List Tm},exB 4096 e→V' env e= .inr ts→∀t∈ts,t.sz≤10000
 | .nm p s,ts,_,h=>by
   unfold V' at h;cases hs:env s with
   | none=>rw[hs]at h;cases h
   | some u=>rw[hs]at h;cases h;intro t c;cases V_.1 c;exact(g s u hs).2
 | .tx p s,ts,hb,h=>by
   cases h;intro t c;cases V_.1 c;have:=hb.2;show Gd s≤10000;unfold Gd;omega
 | .re p s,ts,_,h=>by
   unfold V' at h;have f:=Oh s;cases hs:GW s with
   | inl e=>rw[hs]at h;cases h
   | inr r=>
     rw[hs]at h f;cases h;intro t c;cases V_.1 c;have:r.nodes≤2000:=f;show r.nodes≤10000;omega
 | .kd p a,ts,_,h=>by
   unfold V' at h
   repeat' split at h
   all_goals first
    | cases h
    | (obtain⟨t,rfl,-,j⟩:=L0 h;intro u d;cases V_.1 d;omega)
 | .un p s a,ts,_,h=>by
   unfold V' at h
   repeat' split at h
   all_goals first
    | cases h
    | (obtain⟨t,rfl,-,j⟩:=L0 h;intro u d;cases V_.1 d;omega)
 | .bi p s a b,ts,_,h=>by
   unfold V' at h
   repeat' split at h
   all_goals first
    | cases h
    | (obtain⟨t,rfl,-,j⟩:=L0 h;intro u d;cases V_.1 d;omega)
 | .cl p s l,ts,_,h=>by
   unfold V' at h
   repeat' split at h
   all_goals first
    | cases h
    | (obtain⟨t,rfl,-,j⟩:=L0 h;intro u d;cases V_.1 d;omega)
 | .nil,ts,_,h=>by cases h;exact nofun
 | .cons a l,ts,hb,h=>by
   unfold V' at h;cases k:V' env a with
   | inl e=>rw[k]at h;cases h
   | inr n=>
     rw[k]at h;simp only at h;cases m:V' env l with
     | inl e=>rw[m]at h;cases h
     | inr vs=>
       rw[m]at h;cases h;intro t c;rcases Ybe.1 c with rfl | c
       ·have:=SG g hb.1 k;cases n with
        | nil=>exact l_ _
        | cons u n=>exact this u (YbZ ..)
       ·exact SG g hb.2 m t c
theorem Zv{p:Nat}{w:ByteArray}{l:Ex}{t:Tm}(b:Wh env)(c:exB 4096 l)(d:0<arM w)(h:OJ env p w l= .inr t):t.sol=true∧t.sz≤50000:=by
 unfold OJ at h;cases a:V' env l with
 | inl e=>rw[a]at h;cases h
 | inr ts=>rw[a]at h;exact AdR d (SG b c a) h
theorem VU{t:Tm}(h:t.sol=true):t.short:=by cases t<;>first | trivial | cases h
def Ex.isE:Ex→Bool
 | .nil | .cons .. =>false
 | _=>true
def exZ(A:x_):v_:=if A=152 then .agg #[C_ 0,.nilIface]else if A=154 then .agg #[C_ 0,.string ⟨#[]⟩,.nilIface]else if A=157 then .agg #[C_ 0,.string ⟨#[]⟩,.nilIface,.nilIface]else if A=161 then .agg #[C_ 0,.string ⟨#[]⟩,.slice none 0 0]else .agg #[C_ 0,.string ⟨#[]⟩]
theorem Ss{T A t:x_}{v:v_}{S:Nat→Prop}{H:Aa}{K:v_→Prop}(b:A=142∨A=144∨A=146∨A=152∨A=154∨A=157∨A=161)(k:K (.tuple #[if T=A then v else exZ A,.bool (T==A)])):A7 prog (Instr.typeAssert (.iface T v) t A true) S H K:=by
 by_cases e:T=A
 ·subst e;rw[I_ rfl,beq_self_eq_true]at k;rcases b with rfl | rfl | rfl | rfl | rfl | rfl | rfl
  ·exact Cs underlying142 (by intro a h;cases h) k
  ·exact Cs underlying144 (by intro a h;cases h) k
  ·exact Cs underlying146 (by intro a h;cases h) k
  ·exact Cs underlying152 (by intro a h;cases h) k
  ·exact Cs underlying154 (by intro a h;cases h) k
  ·exact Cs underlying157 (by intro a h;cases h) k
  ·exact Cs underlying161 (by intro a h;cases h) k
 ·rw[G_ e,beq_false_of_ne e]at k;rcases b with rfl | rfl | rfl | rfl | rfl | rfl | rfl
  ·exact Cn underlying142 (by intro a h;cases h) (by kernel_rfl) e k
  ·exact Cn underlying144 (by intro a h;cases h) (by kernel_rfl) e k
  ·exact Cn underlying146 (by intro a h;cases h) (by kernel_rfl) e k
  ·exact Cn underlying152 (by intro a h;cases h) (by kernel_rfl) e k
  ·exact Cn underlying154 (by intro a h;cases h) (by kernel_rfl) e k
  ·exact Cn underlying157 (by intro a h;cases h) (by kernel_rfl) e k
  ·exact Cn underlying161 (by intro a h;cases h) (by kernel_rfl) e k
theorem Fo(he:exB 4096 e)(a8:∀a,(match e with | .kd _ x | .un _ _ x=>a=x | .bi _ _ x y=>a=x∨a=y | _=>False)→MkH env a)(b7:∀i a,(match e with | .cl _ _ l=>JI l i=some a | _=>False)→MkH env a)(hl:e.isE=true):MkH env e:=by
 intro B H mb v C hE hm L;obtain⟨T0,x0,rfl⟩:=L.ifc;refine Ay.of_vc func42 rfl (call42 _) ?_;cases e
 case nil=>cases hl
 case cons a l=>cases hl
 case nm p s=>
  cases L
  repeat ((conv=>whnf);first | refine Ao.run ?_ | refine Ss (by decide) ?_)
  refine Aw (.agg #[C_ 0,.string ⟨#[]⟩]) [C_ 0,.string ⟨#[]⟩] (by kernel_rfl) rfl ?_;intro q H1 hq F G I;have S:=(St.nil H).box hq F G I;refine AD (cs:=[C_ p,.string s]) S 0 rfl rfl (J_ _) rfl fun H2 A=>?_;have m:K_ H2 q 142 [C_ p,.string s]:=A.blk 0 rfl;have a2:=A.old;have D:=hm.up (fun k d=>d) (a2.mono C);have J:=hE.agr a2;have K:∀k,B k→k<H2.size:=fun k d=>A.up (C k d);have bq:=D;have⟨bm,mv,g1,g2,g3,g4,g5⟩:=D;refine AE.of (Au.lex rfl (by kernel_rfl) ?_)
  repeat ((conv=>whnf);first | refine F_ ?_ | refine B_ (g3.cellE rfl) trivial ?_ | refine B_ (m.cellE rfl) trivial ?_ | refine Up (a:=s) X4 Zae g4 trivial ?_)
  have Y:=g5 s;cases a9:env s with
  | none=>
    rw[a9]at Y;simp only at Y;(conv=>whnf);rw[Y]
    repeat ((conv=>whnf);first | refine Ao.run ?_ | refine F_ ?_ | refine B_ (m.cellE rfl) trivial ?_)
    refine Ab.mk (Gc (c:=70) (q:=p)) (fun _ _ h=>h.elim) ?_;rintro y _ ⟨rfl,rfl⟩;exact⟨70,p,by simp only[V',a9],rfl,a2⟩
  | some t=>
    rw[a9]at Y;have⟨x,Y,h6,h7⟩:=Y;(conv=>whnf);rw[Y]
    repeat (refine Ao.run ?_)
    (conv=>whnf);exact⟨t,by simp only[V',a9],h7,a2,h6.up (fun k d=>.inl d) (A_.refl _ _)⟩
 case tx p s=>
  cases L
  repeat ((conv=>whnf);first | refine Ao.run ?_ | refine Ss (by decide) ?_)
  refine Aw (.agg #[C_ 0,.string ⟨#[]⟩]) [C_ 0,.string ⟨#[]⟩] (by kernel_rfl) rfl ?_;intro q H1 hq F G I;have S:=(St.nil H).box hq F G I;refine AD (cs:=[C_ p,.string s]) S 0 rfl rfl (J_ _) rfl fun H2 A=>?_;have m:K_ H2 q 144 [C_ p,.string s]:=A.blk 0 rfl;have a2:=A.old;have D:=hm.up (fun k d=>d) (a2.mono C);have J:=hE.agr a2;have K:∀k,B k→k<H2.size:=fun k d=>A.up (C k d)
  repeat ((conv=>whnf);first | refine F_ ?_ | refine B_ (m.cellE rfl) trivial ?_)
  refine Ah underlying145 rfl _ rfl [C_ p,.string s] (by kernel_rfl) ?_;(conv=>whnf);have hs:s.size≤4096:=he.2;exact⟨.txt p s,rfl,⟨by show s.size≤1048576;omega,by show Gd s≤10000;unfold Gd;omega⟩,a2,_,rfl,rfl⟩
 case re p s=>
  cases L
  repeat ((conv=>whnf);first | refine Ao.run ?_ | refine Ss (by decide) ?_)
  refine Aw (.agg #[C_ 0,.string ⟨#[]⟩]) [C_ 0,.string ⟨#[]⟩] (by kernel_rfl) rfl ?_;intro q H1 hq F G I;have S:=(St.nil H).box hq F G I;refine AD (cs:=[C_ p,.string s]) S 0 rfl rfl (J_ _) rfl fun H2 A=>?_;have m:K_ H2 q 146 [C_ p,.string s]:=A.blk 0 rfl;have a2:=A.old;have D:=hm.up (fun k d=>d) (a2.mono C);have J:=hE.agr a2;have K:∀k,B k→k<H2.size:=fun k d=>A.up (C k d);have b8:p≤4096:=he.1;have a0:s.size≤4096:=he.2
  repeat ((conv=>whnf);first | refine F_ ?_ | refine B_ (m.cellE rfl) trivial ?_)
  refine Ab.of (Aj.mk (Ab1 J) ?_);rintro v H3 ⟨a3,M⟩;have ab:=Oh s;unfold LT at M;cases ad:GW s with
  | inl er=>
    have⟨c,z⟩:=er;rw[ad]at M ab;obtain rfl:v= .tuple #[.nilIface,.agg (fiL c z).toArray]:=M;obtain⟨c1,c2,c3,c4⟩:ErOk s c z:=ab;refine Aw (AI 0 0) (Ad 0 0) Bn rfl ?_;intro f H4 T a0 U V;have s4:=(A.call a3).box T a0 U V;refine AD (cs:=fiL c z) s4 1 rfl rfl (J_ _) rfl fun H5 s5=>?_;have ae:K_ H5 f 27 (fiL c z):=s5.blk 1 rfl;have aj:=s5.blk 0 rfl
    repeat ((conv=>whnf);first | refine Ao.run ?_ | refine L_ (cs:=fiL c z) (ae.cells fun j v L=>by rw[P_];exact L) trivial ?_ | refine Ah underlying27 rfl _ rfl (fiL 0 0) rfl ?_)
    refine Xd (c:=c) (p:=z) (c':=0) (p':=0) (by omega) ⟨by show(-9223372036854775808:Int)≤z;omega,by show z≤(9223372036854775807:Int);omega⟩ (by decide) in0 ?_;rw[m_]
    repeat ((conv=>whnf);first | refine F_ ?_ | refine B_ (ae.cellE rfl) trivial ?_ | refine B_ (aj.cellE rfl) trivial ?_ | rw[R_ p (by omega)] | rw[n_ (x:=(p:Int)+1+z) (by omega)])
    obtain⟨Z,hZ⟩:∃Z:Nat,(p:Int)+1+z=(Z:Int):=⟨((p:Int)+1+z).toNat,by omega⟩;rw[hZ];refine Ab.mk (Gc (c:=c) (q:=Z)) (fun _ _ h=>h.elim) ?_;rintro y _ ⟨rfl,rfl⟩;exact⟨c,Z,by simp only[V',ad];rw[hZ];rfl,rfl,s5.old⟩
  | inr r=>
    rw[ad]at M ab;have⟨T1,x1,e1⟩:=BP r;have M:v= .tuple #[Av r,.agg (fiL 0 0).toArray]:=M;rw[e1]at M;subst M;refine Aw (AI 0 0) (Ad 0 0) Bn rfl ?_;intro f H4 T a0 U V;have s4:=(A.call a3).box T a0 U V;refine AD (cs:=fiL 0 0) s4 1 rfl rfl (J_ _) rfl fun H5 s5=>?_;have ae:K_ H5 f 27 (fiL 0 0):=s5.blk 1 rfl;have aj:=s5.blk 0 rfl
    repeat ((conv=>whnf);first | refine Ao.run ?_ | refine L_ (cs:=fiL 0 0) (ae.cells fun j v L=>by rw[P_];exact L) trivial ?_ | refine Ah underlying27 rfl _ rfl (fiL 0 0) rfl ?_)
    refine Xd (c:=0) (p:=0) (c':=0) (p':=0) (by decide) in0 (by decide) in0 ?_
    repeat ((conv=>whnf);first | refine F_ ?_ | refine B_ (aj.cellE rfl) trivial ?_)
    refine Ah underlying150 rfl _ rfl [C_ p,.iface T1 x1] (by kernel_rfl) ?_;(conv=>whnf);have hr:r.nodes≤2000:=ab;exact⟨.rx p r,by simp only[V',ad],⟨trivial,by show r.nodes≤10000;omega⟩,s5.old,_,rfl,by show _=Value.iface 150 (.agg #[C_ p,Av r]);rw[e1]⟩
 case' kd p a=>
  have⟨va,N,e⟩:=id L;cases e;obtain⟨T1,x1,rfl⟩:=N.ifc
  repeat ((conv=>whnf);first | refine Ao.run ?_ | refine Ss (by decide) ?_)
  refine Aw (.agg #[C_ 0,.nilIface]) [C_ 0,.nilIface] (by kernel_rfl) rfl ?_;intro q H1 hq F G I;have S:=(St.nil H).box hq F G I;refine AD (cs:=[C_ p,.iface T1 x1]) S 0 rfl rfl (J_ _) rfl fun H2 A=>?_;have m:K_ H2 q 152 [C_ p,.iface T1 x1]:=A.blk 0 rfl;have a2:=A.old;have D:=hm.up (fun k d=>d) (a2.mono C);have J:=hE.agr a2;have K:∀k,B k→k<H2.size:=fun k d=>A.up (C k d);have O:=N.up (B':=B) (fun _ h=>h) (a2.mono C)
  repeat ((conv=>whnf);first | refine F_ ?_ | refine B_ (m.cellE rfl) trivial ?_)
  refine Ab.mk (a8 a rfl K J D O) ?_ ?_
  rotate_left
  ·rintro y H3 ⟨c,z,W,rfl,a3⟩;exact⟨c,z,by simp only[V',W],rfl,a2.trans (a3.mono fun k d=>A.up d)⟩
  rintro v H3 ⟨t,W,ht,a3,w,X,rfl⟩;have s3:=A.call a3;have P:=s3.blk 0 rfl;have E:=s3.old;have zz:=Ap a2;have z3:=Ap a3;have Q:X' (p_ B H H3) H3 t w:=X.up (fun k d=>d.imp_right fun h=>⟨by omega,h.2⟩) (A_.refl _ _);cases a6:t.isLe
  ·have b9:V' env (.kd p a)= .inl (72,p):=by
    simp only[V',W,hdT,Ydv];cases t<;>first | rfl | cases a6
   cases t<;>first | exact ht.1.elim | (cases a6;done) | skip
   all_goals
    repeat ((conv=>whnf);first | refine Ao.run ?_ | refine AfM ?_ | refine F_ ?_ | refine B_ (P.cellE rfl) trivial ?_)
    refine Ab.mk (Gc (c:=72) (q:=p)) (fun _ _ h=>h.elim) ?_;rintro y _ ⟨rfl,rfl⟩;exact⟨72,p,b9,rfl,E⟩
  have good:V' env (.kd p a)=Kk p (.inr (.le p .keyed none nx .nil t .nil)):=by
   simp only[V',W,hdT,Ydv];cases t<;>first | rfl | cases a6
  have am:t.isL=true:=by cases t<;>first | rfl | cases a6
  obtain⟨pw,rfl⟩:=X.ptr;have ev:tmI t (.pointer pw)= .iface 53 (.pointer pw):=by cases t<;>first | rfl | cases a6
  rw[ev]
  repeat ((conv=>whnf);first | refine Ao.run ?_ | refine RA ?_ | refine F_ ?_ | refine B_ (P.cellE rfl) trivial ?_)
  refine Ah underlying74 rfl _ rfl (lnL p .keyed none nx (.pointer none) (.pointer pw) (.pointer none)) (by kernel_rfl) (BC (lnL p .keyed none nx (.pointer none) (.pointer pw) (.pointer none)) rfl ?_);intro g H4 T a0 U V;have s4:=s3.skip T V;have a4:=V.new T;have hz:=ht.2;have br:Tm.nil.sz=0:=rfl;have hO:MkO B H env (.kd p a) (.iface 53 (H_ g)) H4:=⟨.le p .keyed none nx .nil t .nil,good,s4.old,⟨_,⟨g,_,_,_,rfl,.inr ⟨by omega,U.lt⟩,U,rfl,am,rfl,rfl,Q.fr2 C E a4,rfl⟩,rfl⟩,by rw[NY];simp only[Ey,LO.isI,Yao,if_false];omega,rfl⟩
 case' un p s a=>
  have⟨va,N,e⟩:=id L;cases e;obtain⟨T1,x1,rfl⟩:=N.ifc
  repeat ((conv=>whnf);first | refine Ao.run ?_ | refine Ss (by decide) ?_)
  refine Aw (.agg #[C_ 0,.string ⟨#[]⟩,.nilIface]) [C_ 0,.string ⟨#[]⟩,.nilIface] (by kernel_rfl) rfl ?_;intro q H1 hq F G I;have S:=(St.nil H).box hq F G I;refine AD (cs:=[C_ p,.string s,.iface T1 x1]) S 0 rfl rfl (J_ _) rfl fun H2 A=>?_;have m:K_ H2 q 154 [C_ p,.string s,.iface T1 x1]:=A.blk 0 rfl;have a2:=A.old;have D:=hm.up (fun k d=>d) (a2.mono C);have J:=hE.agr a2;have K:∀k,B k→k<H2.size:=fun k d=>A.up (C k d);have O:=N.up (B':=B) (fun _ h=>h) (a2.mono C);refine AE.held (fun k=>k=q) [] (sq [0,1,2,3] (.f 4 (.f 5 (sq [6] .e)))) (AQ _ _) rfl (by kernel_rfl) ?_
  repeat ((conv=>whnf);first | refine F_ ?_ | refine B_ (m.cellE rfl) rfl ?_ | refine L_ (cs:=[C_ p,.string s,.iface T1 x1]) (m.cells fun j v L=>by rw[P_];exact L) rfl ?_)
  refine Ab.mk (a8 a rfl K J D O) ?_ ?_
  rotate_left
  ·rintro y H3 ⟨c,z,W,rfl,a3⟩;exact⟨c,z,by simp only[V',W],rfl,a2.trans (a3.mono fun k d=>A.up d)⟩
  rintro v H3 ⟨t,W,ht,a3,w,X,rfl⟩;have E:=a2.trans (a3.mono fun k d=>A.up d);have zz:=Ap a2;have z3:=Ap a3;have Q:X' (p_ B H H3) H3 t w:=X.up (fun k d=>d.imp_right fun h=>⟨by omega,h.2⟩) (A_.refl _ _);refine⟨a3.mono fun k d=>by rw[d];exact m.lt,?_⟩;have good:V' env (.un p s a)=Kk p (unM p s t):=by simp only[V',W,hdT,Ydv]
  refine Ab.mk (AbQ (B:=p_ B H H3) (fun k d=>p_.old C E d) ht.1 Q rfl) ?_ ?_
  rotate_left
  ·rintro y H4 h4;exact MkE.of good E h4
  rintro v4 H4 h4;have bd:=h4;have⟨t4,R,a4,a7⟩:=bd;refine⟨(a3.mono fun k d=>by rw[d];exact m.lt).trans (a4.mono fun k d=>by rw[d];exact Ae a3 m.lt),?_⟩;have hO:=MkO.of good rfl C E h4 fun u hu=>by
   have h1:=AfT hu;have:=ht.2;exact⟨by omega,h1.1⟩
 case' bi p s a b=>
  have⟨va,vb,N,ao,e⟩:=id L;cases e;obtain⟨T1,x1,rfl⟩:=N.ifc;obtain⟨T2,x2,rfl⟩:=ao.ifc
  repeat ((conv=>whnf);first | refine Ao.run ?_ | refine Ss (by decide) ?_)
  refine Aw (.agg #[C_ 0,.string ⟨#[]⟩,.nilIface,.nilIface]) [C_ 0,.string ⟨#[]⟩,.nilIface,.nilIface] (by kernel_rfl) rfl ?_;intro q H1 hq F G I;have S:=(St.nil H).box hq F G I;refine AD (cs:=[C_ p,.string s,.iface T1 x1,.iface T2 x2]) S 0 rfl rfl (J_ _) rfl fun H2 A=>?_;have m:K_ H2 q 157 [C_ p,.string s,.iface T1 x1,.iface T2 x2]:=A.blk 0 rfl;have a2:=A.old;have D:=hm.up (fun k d=>d) (a2.mono C);have J:=hE.agr a2;have K:∀k,B k→k<H2.size:=fun k d=>A.up (C k d);have O:=N.up (B':=B) (fun _ h=>h) (a2.mono C)
  repeat ((conv=>whnf);first | refine F_ ?_ | refine B_ (m.cellE rfl) trivial ?_)
  refine Ab.mk (a8 a (.inl rfl) K J D O) ?_ ?_
  rotate_left
  ·rintro y H3 ⟨c,z,W,rfl,a3⟩;exact⟨c,z,by simp only[V',W],rfl,a2.trans (a3.mono fun k d=>A.up d)⟩
  rintro v H3 ⟨t,W,ht,a3,w,X,rfl⟩;have s3:=A.call a3;have P:=s3.blk 0 rfl;have E:=s3.old;have zz:=Ap a2;have z3:=Ap a3;have Q:X' (p_ B H H3) H3 t w:=X.up (fun k d=>d.imp_right fun h=>⟨by omega,h.2⟩) (A_.refl _ _);have ap:=ao.up (B':=B) (fun _ h=>h) (E.mono C);refine AE.held (fun k=>k=q) [] (sq [0,1,2,3,4] (.f 5 (.f 6 (sq [7] .e)))) (AQ _ _) rfl (by kernel_rfl) ?_
  repeat ((conv=>whnf);first | refine F_ ?_ | refine B_ (P.cellE rfl) rfl ?_ | refine L_ (cs:=[C_ p,.string s,.iface T1 x1,.iface T2 x2]) (P.cells fun j v L=>by rw[P_];exact L) rfl ?_)
  refine Ab.mk (a8 b (.inr rfl) (fun k d=>s3.up (C k d)) (hE.agr E) (hm.up (fun k d=>d) (E.mono C)) ap) ?_ ?_
  rotate_left
  ·rintro y H4 ⟨c,z,R,rfl,a4⟩;exact⟨c,z,by simp only[V',W,R],rfl,E.trans (a4.mono fun k d=>s3.up d)⟩
  rintro v4 H4 ⟨t4,R,a7,a4,w4,aq,rfl⟩;have ak:=E.trans (a4.mono fun k d=>s3.up d);have z4:=Ap a4;have k1:X' (p_ B H H4) H4 t w:=Q.fr2 C E a4;have k2:X' (p_ B H H4) H4 t4 w4:=aq.up (fun k d=>d.imp_right fun h=>⟨by omega,h.2⟩) (A_.refl _ _);refine⟨a4.mono fun k d=>by rw[d];exact P.lt,?_⟩;have good:V' env (.bi p s a b)=Kk p (biM p s t t4):=by simp only[V',W,R,hdT,Ydv]
  refine Ab.mk (Wx (B:=p_ B H H4) (fun k d=>p_.old C ak d) ht.1 a7.1 k1 k2) ?_ ?_
  rotate_left
  ·rintro y H5 Y;exact MkE.of good ak Y
  rintro v5 H5 Y;have be:=Y;have⟨t5,bu,a5,bv⟩:=be;refine⟨(a4.mono fun k d=>by rw[d];exact P.lt).trans (a5.mono fun k d=>by rw[d];exact Ae a4 P.lt),?_⟩;have hO:=MkO.of good rfl C ak Y fun u hu=>by
   have h1:=AdG hu;have:=ht.2;have:=a7.2;exact⟨by omega,h1.1⟩
 case' cl p s l=>
  have⟨vs,b,n,r,bf,bh,hb,bj,h1,h2,e⟩:=id L;cases e
  repeat ((conv=>whnf);first | refine Ao.run ?_ | refine Ss (by decide) ?_)
  refine Aw (.agg #[C_ 0,.string ⟨#[]⟩,.slice none 0 0]) [C_ 0,.string ⟨#[]⟩,.slice none 0 0] (by kernel_rfl) rfl ?_;intro q H1 au aw ay az;have S:=(St.nil H).box au aw ay az;refine AD (cs:=(clL p s b vs.length n)) S 0 rfl rfl (J_ _) rfl fun H2 A=>?_;have m:K_ H2 q 161 (clL p s b vs.length n):=A.blk 0 rfl;have a2:=A.old;have D:=hm.up (fun k d=>d) (a2.mono C);have J:=hE.agr a2;have K:∀k,B k→k<H2.size:=fun k d=>A.up (C k d)
  repeat ((conv=>whnf);first | refine L_ (cs:=clL p s b vs.length n) (m.cells fun j v L=>by rw[P_];exact L) trivial ?_)
  have good:V' env (.cl p s l)=Kk p (OJ env p s l):=by
   simp only[V',OJ];cases V' env l<;>rfl
  have⟨b8,bn,b4,bo⟩:=he;refine Ab.mk (AdI K J D bf (bh.up (B':=B) (fun _ h=>h) (a2.mono C)) hb (bj.agr (a2.mono C) hb) h1 h2 b4 bo fun i a ha=>b7 i a ha) ?_ ?_
  rotate_left
  ·rintro y H4 h4;exact MkE.of good a2 h4
  rintro v4 H4 ⟨t4,R,a4,a7⟩;have b5:=Zv D.env_ok bn b4 R;have zz:=Ap a2;have z4:=Ap a4;have hO:MkO B H env (.cl p s l) v4 H4:=⟨t4,by rw[good,R];rfl,a2.trans (a4.mono fun k d=>A.up d),a7.up (fun k d=>d.imp_right fun h=>⟨by omega,h.2⟩) (A_.refl _ _),by have:=b5.2;omega,b5.1⟩
 all_goals
  have⟨t,hX,ag,b6,hz,ai⟩:=hO;have bp:∀k,p_ B H _ k→_:=fun k d=>p_.old C ag d
  repeat (refine Ao.run ?_)
  refine Ab.of (Ak (AfR bp b6 ai (by omega)) fun G1 a1=>?_);have ah:=ag.trans (a1.mono fun k d=>Ae ag d);by_cases h2:2000<t.sz
  ·have d1:decide ((2000:Int)<(t.sz:Int))=true:=s_;(conv=>whnf);rw[d1];refine Py (L.up (B':=B) (fun _ h=>h) (ah.mono C)) fun G2 a2=>(Ab.mk (Gc (c:=24) (q:=_)) (fun _ _ h=>h.elim) ?_);rintro y _ ⟨rfl,rfl⟩;exact⟨24,_,by rw[hX];exact I_ h2,rfl,ah.trans (a2.mono fun k d=>Ae ah d)⟩
  ·have d1:decide ((2000:Int)<(t.sz:Int))=false:=m_;(conv=>whnf);rw[d1];(conv=>whnf);exact⟨t,by rw[hX];exact G_ h2,⟨VU ai,by omega⟩,ah,b6.fr2 C ag a1⟩
theorem ZO:∀{l:Ex},ExC B H l []→l= .nil
 | .nil,_=>rfl
 | .cons a l,⟨_,_,_,_,h⟩=>by cases h
 | .nm ..,h | .tx ..,h | .re ..,h=>by cases h
 | .kd ..,⟨_,_,h⟩ | .un ..,⟨_,_,h⟩=>by cases h
 | .bi ..,⟨_,_,_,_,h⟩=>by cases h
 | .cl ..,⟨_,_,_,_,_,_,_,_,_,_,h⟩=>by cases h
theorem GU:∀(e:Ex),exB 4096 e→MkH env e∧∀i a,JI e i=some a→MkH env a
 | .nil,_=>⟨fun{_ _ _ _} _ _ _ f=>(by cases f),nofun⟩
 | .cons a l,hb=>by
   have g:MkH env a:=(GU a hb.1).1;have j:=(GU l hb.2).2;refine⟨?_,fun i x d=>?_⟩
   ·intro B H mb v k m n f;have⟨w,vs,u,z,A⟩:=f;cases A;obtain rfl:=ZO z;refine(g k m n u).mono ?_ ?_
    ·rintro x G ⟨t,d,r⟩;exact⟨t,by simp only[V',d];rfl,r⟩
    ·rintro y G ⟨c,q,d,r⟩;exact⟨c,q,by simp only[V',d],r⟩
   ·cases i with
    | zero=>cases d;exact g
    | succ i=>exact j i x d
 | .nm p s,hb=>⟨Fo hb nofun nofun rfl,nofun⟩
 | .tx p s,hb=>⟨Fo hb nofun nofun rfl,nofun⟩
 | .re p s,hb=>⟨Fo hb nofun nofun rfl,nofun⟩
 | .kd p a,hb=>⟨Fo hb (fun x (d:x=a)=>d ▸ (GU a hb.2).1) nofun rfl,nofun⟩
 | .un p s a,hb=>⟨Fo hb (fun x (d:x=a)=>d ▸ (GU a hb.2).1) nofun rfl,nofun⟩
 | .bi p s a b,hb=>⟨Fo hb (fun x (d:x=a∨x=b)=>d.elim (fun d=>d ▸ (GU a hb.2.1).1) fun d=>d ▸ (GU b hb.2.2).1) nofun rfl,nofun⟩
 | .cl p s l,hb=>⟨Fo hb nofun (fun i a (h:JI l i=some a)=>(GU l hb.2.1).2 i a h) rfl,nofun⟩
end
abbrev Jy(q2 q3:Nat)(v:v_)(l:List v_):List Pc:=[pB 37 q2 [v],pB 27 q3 l]
theorem ZH{H:Aa}{a b:Nat}{K:Aa→Prop}(k:K H):BX prog 40 #[H_ a,H_ b] .returning .returning H K:=by
 refine BX.mk (R:=fun H'=>H'=H) (Cj (R:=fun H'=>H'=H) func40 rfl ⟨⟨_,rfl⟩,rfl,rfl,rfl,rfl,rfl⟩ .ret rfl ?_) (fun H' h=>by rw[h];exact k);(conv=>whnf);refine⟨rfl,?_⟩;refine Kt underlying20 ?_;(conv=>whnf)
theorem ZG{B:Nat→Prop}{H0 H:Aa}{a b c e:Nat}{v:v_}{l:List v_}{ps:List Pc}{K:Aa→Prop}(g:l.length=3)(j:E_ B H0 H (Jy a b v l++ps))(k:∀H',E_ B H0 H' (Jy a b .nilIface (Ad c e)++ps)→K H'):
  BX prog 40 #[H_ a,H_ b] (.panicking (pe (Bg c e))) (.panicking [{v:=Bg c e,recovered:=true}]) H K:=by
 refine BX.mk (R:=fun H'=>E_ B H0 H' (Jy a b .nilIface (Ad c e)++ps)) (Cj (R:=fun H'=>E_ B H0 H' (Jy a b .nilIface (Ad c e)++ps)) func40 rfl ⟨⟨_,rfl⟩,rfl,rfl,rfl,rfl,rfl⟩ (.pan _) rfl ?_) k;(conv=>whnf);refine⟨rfl,?_⟩;refine NV underlying20 (Au.held (fun _=>False) 3 (sq [0,1] (.f 2 (.f 3 .e))) rfl (by kernel_rfl) (Kc underlying27 (fun p h=>by cases h) (Bh j 0 rfl (by simp) rfl fun H1 st1=>(⟨fun k m=>m.elim,?_⟩))));refine AD (cs:=Ad c e) st1 1 rfl rfl (by rw[g];exact J_ _) rfl fun H3 d=>?_;(conv=>whnf);have n:As l 0 (Ad c e)=Ad c e:=Bq g.symm;rw[n]at d;exact d
theorem X'.upT{B B':Nat→Prop}{H H':Aa}(a:∀k c l,c=209∨c=74→B k→K_ H k c l→B' k)(b:A_ B' H H'):∀{t:Tm} {v:v_},X' B H t v→X' B' H' t v
 | .txt _ _,_,h=>h
 | .rx _ _,_,h=>h
 | .nil,_,h=>h
 | .ca ..,_,⟨g,va,vb,e,hg,hb,h1,h2,h3,h4⟩=>⟨g,va,vb,e,a _ _ _ (.inl rfl) hg hb,hb.agr b (a _ _ _ (.inl rfl) hg hb),h1,h2,h3.upT a b,h4.upT a b⟩
 | .le ..,_,⟨g,vq,va,vb,e,hg,hb,h1,h2,h3,h4,h5,h6⟩=>⟨g,vq,va,vb,e,a _ _ _ (.inr rfl) hg hb,hb.agr b (a _ _ _ (.inr rfl) hg hb),h1,h2,h3,h4.upT a b,h5.upT a b,h6.upT a b⟩
theorem TmI.upT{B B':Nat→Prop}{H H':Aa}(b:∀k a l,a=209∨a=74→B k→K_ H k a l→B' k)(c:A_ B' H H'){t:Tm}{x:v_}(h:TmI B H t x):TmI B' H' t x:=by
 have⟨v,h,e⟩:=h;exact⟨v,h.upT b c,e⟩
def T4(v:v_)(H:Aa):FT ⊕ Tm→Prop
 | .inl e=>v= .tuple #[.nilIface,AI e.1 e.2]
 | .inr t=>t.good∧∃x,v= .tuple #[x,AI 0 0]∧TmI (fun k=>k<H.size) H t x
def Sr(env:ByteArray→Option Tm)(s:ByteArray)(t:Tm):ByteArray→Option Tm:=fun s'=>if s'=s then some t else env s'
theorem Ho.get{B:Nat→Prop}{H:Aa}:∀{ds:List Df} {vs:List DfV} {k:Nat} {d:Df},Ho B H ds vs→ds[k]?=some d→∃v,vs[k]?=some (d.p,d.s,v)∧ExC B H d.a [v]
 | _::_,_,0,_,⟨v,ws,e,h,h2⟩,hd=>by cases hd;exact⟨v,by rw[e];rfl,h⟩
 | _::_,_,k+1,_,⟨v,ws,e,h,h2⟩,hd=>by
   have⟨u,b,c⟩:=Ho.get h2 hd;exact⟨u,by rw[e];exact b,c⟩
theorem Ho.len{B:Nat→Prop}{H:Aa}:∀{ds:List Df} {vs:List DfV},Ho B H ds vs→vs.length=ds.length
 | [],_,h=>by cases h;rfl
 | _::_,_,⟨v,ws,e,h,h2⟩=>by subst e;exact congrArg (·+1) h2.len
theorem WX{α:Type}{l:List α}{k:Nat}{x:α}{r:List α}(h:l.drop k=x::r):l[k]?=some x∧l.drop (k+1)=r:=by
 have a:(l.drop k)[0]?=some x:=by rw[h];rfl
 have b:(l.drop k).tail=r:=by rw[h];rfl
 rw[List.getElem?_drop,Nat.add_zero]at a;rw[List.tail_drop]at b;exact⟨a,b⟩
def Ze(T:Nat→Prop)(G:Aa)(env:ByteArray→Option Tm)(mv:ByteArray→Option v_):Prop:=∀s,match env s with
 | none=>mv s=none
 | some t=>∃x,mv s=some x∧TmI T G t x∧t.good
theorem Ze.up{B B':Nat→Prop}{H H':Aa}{env:ByteArray→Option Tm}{a:ByteArray→Option v_}(h:Ze B H env a)(c:∀k,B k→B' k)(d:A_ B H H'):Ze B' H' env a:=fun s=>by
 have:=h s;cases b:env s with
 | none=>rw[b]at this;exact this
 | some t=>rw[b]at this;have⟨x,e,e2,f⟩:=this;exact⟨x,e,e2.up c d,f⟩
theorem p_.lt{B:Nat→Prop}{H H':Aa}(a:∀k,B k→k<H.size)(b:A_ (D_ H) H H'){k:Nat}(h:p_ B H H' k):k<H'.size:=p_.old a b h
theorem E_.base{B:Nat→Prop}{H G G':Aa}{ps:List Pc}(b:E_ B G G' ps)(c:∀k,D_ H k→B k)(a:A_ (D_ H) H G):E_ (D_ H) H G' ps:=
 ⟨a.trans (b.old.mono c),fun _ h=>h,YbC (Ap a) b.size,b.oks,fun p d k e=>⟨fun h=>(b.rng p d k e).1 (c k h),(b.rng p d k e).2⟩,b.dis⟩
theorem Ae5{H:Aa}{pv:v_}{ds:List Df}{e:Ex}(hE:E5 H)(hp:PgV (fun k=>k<H.size) H pv ds e)(hd:dfB 4096 ds)(he:exB 4096 e):
  Al prog 20 #[pv] H fun v H'=>A_ (D_ H) H H'∧T4 v H' (elM (fun _=>none) ds e):=by
 obtain⟨g,a,n,vs,w,rfl,hg,a7,a8,az,hds,a9⟩:=hp;obtain⟨X,A⟩:∃X,elM (fun _=>none) ds e=X:=⟨_,rfl⟩;rw[A];obtain⟨a',bw,ea,b4,-⟩:=a8.view (S':=D_ H) (fun b M=>az b M) (fun b M=>M.elim);injection ea with ea1 ea2 ea3
 subst ea1;subst ea3;have bz:=hds.len;have b5:=a8.len;unfold maxLen at b5;refine Al.of_rest func20 rfl (call20 _) (Bu.seq (BV (St.nil H) .nilIface [.nilIface] rfl rfl fun V H1 st1=>(Aw (AI 0 0) (Ad 0 0) Bn rfl ?_)));intro W H2 b6 b7 b8 b9;have bd:E_ (D_ H) H H2 (Jy V W .nilIface (Ad 0 0)):=st1.box b6 b7 b8 b9;refine Bu.seq (Px underlying49 (Bu.defer_ ⟨rfl,rfl,rfl,⟨_,rfl⟩,rfl,rfl⟩ (fun vs w=>call40 _ w) (⟨rfl,?_⟩)));refine QW (enc:=Value.string) ?_;intro D H3 be bf bh bj;have bn:=bd.mapNew be bf bh bj;refine Ah underlying92 rfl _ rfl [.map (some D)] (by kernel_rfl) (BL bn [.map (some D)] rfl fun mb H4 Y=>?_);have ab:=a7.agr Y.old hg
 repeat ((conv=>whnf);first | refine Ao.run ?_ | refine F_ ?_ | refine B_ (ab.cellE rfl) trivial ?_)
 have ad:E_ (fun j=>D_ H j∨False) H4 H4 (Jy V W .nilIface (Ad 0 0)++[pM Value.string D fun _=>none,pB 92 mb [.map (some D)]]):=Y.rebase.low fun k I=>I.elim id False.elim;refine CA.mk [21] (fun x:Nat×(ByteArray→Option Tm)=>match x with | (k,_)=>[C_ k]) (fun x G=>match x with | (k,env)=>∃T Z,k≤ds.length∧X=elM env (ds.drop k) e∧E_ (fun j=>D_ H j∨T j) G G (Jy V W .nilIface (Ad 0 0)++[pM Value.string D Z,pB 92 mb [.map (some D)]])∧A_ (D_ H) H G∧Ze T G env Z) (fun x _=>match x with | (k,_)=>ds.length-k) ⟨(0,fun _=>none),rfl,fun _=>False,fun _=>none,l_ _,A.symm,ad,Y.old,fun s=>rfl⟩ ?_;rintro⟨k,env⟩ G bx ⟨T,Z,I,A,st,ag,hV⟩;have ae:=st.blk 3 rfl;have ah:=st.map 2 rfl;have bo:∀{G':Aa},A_ (fun j=>(D_ H j∨T j∨j=mb∨j=D)) G G'→MkS (fun j=>(D_ H j∨T j∨j=mb∨j=D)) G' mb env:=fun h=>⟨D,Z,.inr (.inr (.inl rfl)),.inr (.inr (.inr rfl)),ae.agr h (.inr (.inr (.inl rfl))),ah.agr h (.inr (.inr (.inr rfl))),hV.up (fun k I=>.inr (.inl I)) (h.mono fun k I=>.inr (.inl I))⟩;have ai:∀j,(D_ H j∨T j∨j=mb∨j=D)→j<G.size:=fun j m=>by
  rcases m with h | h | rfl | rfl
  ·exact st.up (.inl h)
  ·exact st.up (.inr h)
  ·exact ae.lt
  ·exact ah.lt
 have a0:∀{y:v_} {G':Aa} {ps:List Pc} {c z:Nat} {K:Aa→Prop},X= .inl (c,z)→y=Bg c z→E_ (fun j=>D_ H j∨T j) G G' (Jy V W .nilIface (Ad 0 0)++ps)→
   (∀H',E_ (D_ H) H H' (Jy V W .nilIface (Ad c z)++ps)→K H')→BX prog 40 #[H_ V,H_ W] (.panicking (pe y)) (.panicking [{v:=y,recovered:=true}]) G' K:=by
  rintro y G' ps c z K S rfl bp kk;exact ZG rfl (bp.base (fun k I=>.inl I) ag) kk
 by_cases c3:k<ds.length
 ·have d1:decide ((k:Int)<(vs.length:Int))=true:=s_;obtain⟨d,r,N⟩:∃d r,ds.drop k=d::r:=by
   cases h:ds.drop k with
   | nil=>have:=List.length_drop (i:=k) (l:=ds);rw[h]at this;simp at this;omega
   | cons d r=>exact⟨d,r,rfl⟩
  have⟨aj,ak⟩:=WX N;have⟨c4,bq⟩:=hd d (d_ aj);have⟨v,br,am⟩:=hds.get aj;obtain⟨T0,x0,rfl⟩:=am.ifc;(conv=>whnf);rw[d1];refine u_ AfG (b4.frame ag) br rfl (fun b2 o2 c2 hS hc hr=>?_);obtain⟨rfl,-⟩:=hr;refine L_ (cs:=dfL (d.p,d.s,.iface T0 x0)) hc trivial (BV st (.agg #[C_ 0,.string ⟨#[]⟩,.nilIface]) [C_ 0,.string ⟨#[]⟩,.nilIface] (by kernel_rfl) rfl fun q G1 s5=>(AD (cs:=dfL (d.p,d.s,.iface T0 x0)) s5 4 rfl rfl (J_ _) rfl fun G2 F=>?_));have J:K_ G2 q 99 (dfL (d.p,d.s,.iface T0 x0)):=F.blk 4 rfl;have B:=F.blk 3 rfl;have E:=F.map 2 rfl;have a5:MkS (fun j=>D_ H j∨T j∨j=mb∨j=D) G2 mb env:=⟨D,Z,.inr (.inr (.inl rfl)),.inr (.inr (.inr rfl)),B,E,hV.up (fun k I=>.inr (.inl I)) (F.old.mono fun k I=>.inr I)⟩;have bu:∀j,(D_ H j∨T j∨j=mb∨j=D)→j<G2.size:=fun j m=>by
   rcases m with h | h | rfl | rfl
   ·exact F.up (.inl h)
   ·exact F.up (.inr h)
   ·exact B.lt
   ·exact E.lt
  have a6:A_ (D_ H) H G2:=ag.trans (F.old.mono fun j m=>.inl m);have ao:ExC (fun j=>D_ H j∨T j∨j=mb∨j=D) G2 d.a [.iface T0 x0]:=am.up (fun j m=>.inl m) a6;rw[N]at A;unfold elM at A
  repeat (refine Ao.run ?_)
  refine AE.held (D_ G2) [] (sq [0,1,2,3,4,5,6,7,8,9,10,11] .e) (IG (R:=fun v H'=>A_ (D_ H) H H'∧T4 v H' X) (by kernel_rfl)) rfl (by kernel_rfl) ?_
  repeat ((conv=>whnf);first | refine F_ ?_ | refine B_ (B.cellE rfl) B.lt ?_ | refine B_ (J.cellE rfl) J.lt ?_ | refine Up (a:=d.s) X4 Zae E E.lt ?_)
  have L:=hV d.s;cases ap:env d.s with
  | some t=>
    rw[ap]at L A;have⟨x,h5,h6,h7⟩:=L;(conv=>whnf);rw[h5]
    repeat ((conv=>whnf);first | refine Ao.run ?_ | refine F_ ?_ | refine B_ (J.cellE rfl) trivial ?_)
    refine Ab.mk (Gc (c:=71) (q:=d.p)) (fun _ _ h=>h.elim) ?_;rintro y _ ⟨rfl,rfl⟩;(conv=>whnf);refine a0 A rfl F fun H7 C=>(B_ ((C.blk 0 rfl).cellE rfl) trivial (L_ (cs:=Ad 71 d.p) (AW (C.blk 1 rfl)) trivial ?_));exact⟨C.old,by rw[A];rfl⟩
  | none=>
    rw[ap]at L A;simp only at L;(conv=>whnf);rw[L]
    repeat (refine Ao.run ?_)
    refine AE.held (D_ G2) [10] (sq [0,1,2,3,4,5,6,7,8] (.f 9 (.f 10 .e))) (IG (R:=fun v H'=>A_ (D_ H) H H'∧T4 v H' X) (by kernel_rfl)) rfl (by kernel_rfl) ?_
    repeat ((conv=>whnf);first | refine F_ ?_ | refine B_ (B.cellE rfl) B.lt ?_ | refine B_ (J.cellE rfl) J.lt ?_)
    refine Ab.mk ((GU d.a bq).1 bu (hE.agr a6) a5 ao) ?_ ?_
    rotate_left
    ·rintro y G3 ⟨c,z,S,rfl,a3⟩;rw[S]at A;(conv=>whnf);refine a0 A rfl (F.call a3) fun H7 C=>(B_ ((C.blk 0 rfl).cellE rfl) trivial (L_ (cs:=Ad c z) (AW (C.blk 1 rfl)) trivial ?_));exact⟨C.old,by rw[A];rfl⟩
    rintro x G3 ⟨t,S,ht,a3,O⟩;rw[S]at A;refine⟨a3,?_⟩;have C:E_ (fun j=>D_ H j∨(D_ H j∨T j∨(G2.size≤j∧j<G3.size))) G3 G3 _:=(F.rebase.widen a3 (fun j=>G2.size≤j∧j<G3.size) fun j m=>m).low fun j m=>m.elim (fun h=>.inl (.inl h)) fun h=>h.elim (fun h=>.inl (.inl h)) fun h=>h.elim (fun h=>.inl (.inr h)) .inr;have aq:=C.blk 3 rfl;have au:=C.map 2 rfl;have aw:TmI (fun j=>D_ H j∨T j∨(G2.size≤j∧j<G3.size)) G3 t x:=O.upT (fun j ty l P m M=>by
     rcases m with(h | h | rfl | rfl) | h
     ·exact .inl h
     ·exact .inr (.inl h)
     ·have:=AgO.inj (aq.symm.trans M);injection this with _ this
      rcases P with rfl | rfl<;>cases this
     ·obtain⟨es,cl,h1,-⟩:=au;have:=h1.symm.trans M;cases this
     ·exact .inr (.inr h)) (A_.refl _ _)
    refine QY (a:=d.s) (m':=put Z d.s (some x)) C 2 X4 Zae rfl (fun a'=>rfl) fun G4 U=>?_;(conv=>whnf);rw[R_ k (by omega)];refine⟨rfl,(k+1,Sr env d.s t),rfl,⟨fun j=>D_ H j∨T j∨(G2.size≤j∧j<G3.size),put Z d.s (some x),by omega,?_,?_,?_,?_⟩,by show ds.length-(k+1)<ds.length-k;omega⟩
    ·rw[ak,A];rfl
    ·exact(U.rebase.sub (.cons_cons _ (.cons_cons _ (.cons_cons _ (.cons_cons _ (.cons _ .slnil)))))).low fun k h=>h
    ·exact a6.trans ((a3.mono fun j m=>F.up (.inl m)).trans (U.old.mono fun j m=>.inl m))
    ·intro s';have h0:=hV s';unfold Sr put;by_cases Q:s'=d.s
     ·rw[I_ Q,I_ Q];exact⟨x,rfl,aw.up (fun j m=>m) (U.old.mono fun j m=>.inr m),ht⟩
     ·rw[G_ Q,G_ Q];cases he:env s' with
      | none=>rw[he]at h0;exact h0
      | some u=>
        rw[he]at h0;have⟨y,e1,e2,e3⟩:=h0;exact⟨y,e1,(e2.up (B':=fun j=>D_ H j∨T j∨(G2.size≤j∧j<G3.size)) (fun j m=>.inr (.inl m)) ((F.old.mono fun j m=>.inr m).trans (a3.mono fun j m=>F.up (.inr m)))).up (fun j m=>m) (U.old.mono fun j m=>.inr m),e3⟩
 ·have d1:decide ((k:Int)<(vs.length:Int))=false:=m_;have N:ds.drop k=[]:=List.drop_eq_nil_of_le (by omega);rw[N]at A;unfold elM at A;have ay:=a7.agr ag hg;have a5:MkS (fun j=>D_ H j∨T j∨j=mb∨j=D) G mb env:=bo (A_.refl _ _);obtain⟨T0,x0,rfl⟩:=a9.ifc;(conv=>whnf);rw[d1]
  repeat ((conv=>whnf);first | refine Ao.run ?_ | refine F_ ?_ | refine B_ (ay.cellE rfl) trivial ?_)
  refine Ab.mk ((GU e he).1 ai (hE.agr ag) a5 (a9.up (fun j m=>.inl m) ag)) ?_ ?_
  rotate_left
  ·rintro y G3 ⟨c,z,S,rfl,a3⟩;rw[S]at A;(conv=>whnf);refine a0 A rfl (st.call a3) fun H7 C=>(B_ ((C.blk 0 rfl).cellE rfl) trivial (L_ (cs:=Ad c z) (AW (C.blk 1 rfl)) trivial ?_));exact⟨C.old,by rw[A];rfl⟩
  rintro x G3 ⟨t,S,ht,a3,O⟩;rw[S]at A;have s3:=st.call a3;have b2:=s3.blk 0 rfl;have b3:=s3.blk 1 rfl;have bv:=O.ifc ht.1;obtain⟨T1,x1,rfl⟩:=bv;refine Ah underlying27 rfl _ rfl (Ad 0 0) rfl (Nf s3 0 rfl (by simp) rfl fun H7 C j7 n7=>(AX (cs:=Ad 0 0) C 1 rfl rfl (J_ _) rfl fun H8 U j8 n8=>(ZH (B_ ((U.blk 0 rfl).cellE rfl) trivial (L_ (cs:=Ad 0 0) (AW (U.blk 1 rfl)) trivial (⟨ag.trans (U.old.mono fun j m=>.inl m),?_⟩))))));rw[A];refine⟨ht,_,rfl,(O.upT (B':=fun j=>j<G3.size∧j≠V∧j≠W) (fun j ty l P m M=>⟨?_,?_,?_⟩) (A_.trans (j7.mono fun j m=>m.2.1) (j8.mono fun j m=>m.2.2))).up (fun j m=>by omega) (A_.refl _ _)⟩
  ·exact p_.lt ai a3 m
  ·rintro rfl;have:=AgO.inj (b2.symm.trans M);injection this with _ this
   rcases P with rfl | rfl<;>cases this
  ·rintro rfl;have:=AgO.inj (b3.symm.trans M);injection this with _ this
   rcases P with rfl | rfl<;>cases this
theorem Af7{H:Aa}{t:ByteArray}(M:KM H)(N:E5 H):Al prog 9 #[.string t] H fun v H'=>A_ (D_ H) H H'∧T4 v H' (Yf t):=by
 refine Al.of_vc func9 rfl (call9 _) (BV (St.nil H) (AI 0 0) (Ad 0 0) Bn rfl fun O H1 G=>(Aj.mk (VX (M.agr G.old)) ?_));rintro v H2 ⟨a2,d⟩;have B:=G.call a2;have b:=VD t;unfold Yf;cases I:IY t with
 | inl er=>
   have⟨c,z⟩:=er;rw[I]at d b;have⟨P,Q,R⟩:=b;simp only at P Q R;obtain rfl:v= .tuple #[.pointer none,AI c z]:=d;refine Aw (AI 0 0) (Ad 0 0) Bn rfl ?_;intro J H3 m n p h;have C:=B.box m n p h;refine AD (cs:=Ad c z) C 1 rfl rfl (J_ _) rfl fun H4 q=>?_
   repeat ((conv=>whnf);first | refine Af.run ?_ | refine L_ (cs:=Ad c z) (AW (q.blk 1 rfl)) trivial ?_ | refine Ah underlying27 rfl _ rfl (Ad 0 0) rfl ?_)
   refine GP (c:=c) (e:=z) (c':=0) (e':=0) (by omega) (by omega) (by decide) (by decide) ?_;rw[m_];refine Au.heldZ (fun k=>k=J) [2] (sq [0,1] (.f 2 .e)) rfl (by kernel_rfl) (L_ (cs:=Ad c z) (AW (q.blk 1 rfl)) rfl (AD (cs:=Ad c z) q 0 rfl rfl (J_ _) rfl fun H5 u=>(L_ (cs:=Ad c z) (AW (u.blk 0 rfl)) trivial ?_)));exact⟨u.old,rfl⟩
 | inr x=>
   have⟨ds,e⟩:=x;rw[I]at d b;obtain⟨pv,rfl,r⟩:=d;obtain⟨g,S,T,D,U,rfl,w⟩:=r.ex;have r:PgV (fun k=>k<H2.size) H2 (H_ g) ds e:=⟨g,S,T,D,U,rfl,w⟩;refine Aw (AI 0 0) (Ad 0 0) Bn rfl ?_;intro J H3 m n p h;have C:=B.box m n p h;have b1:=B.blk 0 rfl;refine AX (cs:=Ad 0 0) C 1 rfl rfl (J_ _) rfl fun H4 q V n4=>?_
   repeat ((conv=>whnf);first | refine Af.run ?_ | refine L_ (cs:=Ad 0 0) (AW (q.blk 1 rfl)) trivial ?_ | refine Ah underlying27 rfl _ rfl (Ad 0 0) rfl ?_)
   refine GP (c:=0) (e:=0) (c':=0) (e':=0) (by decide) (by decide) (by decide) (by decide) ?_;have y:A_ (D_ H2) H2 H4:=(h.mono fun k a=>by unfold D_ at a;omega).trans (V.mono fun k a=>by unfold D_ at a;omega)
   repeat (refine Af.run ?_)
   refine Aj.mk (Ae5 (N.agr q.old) ((r.upT (B':=fun k=>k<H2.size) (fun k K l _ a _=>a) y).upT (B':=fun k=>k<H4.size) (fun k K l _ a _=>Ybq a (Ap y)) (A_.refl _ _)) b.1 b.2) ?_;rintro v H5 ⟨W,j⟩;have u:=q.call W;have X:=u.blk 0 rfl;simp only;cases L:elM (fun _=>none) ds e with
   | inl er=>
     have⟨c,z⟩:=er;rw[L]at j;obtain rfl:v= .tuple #[.nilIface,AI c z]:=j;refine AD (cs:=Ad c z) u 0 rfl rfl (J_ _) rfl fun H6 A=>(L_ (cs:=Ad c z) (AW (A.blk 0 rfl)) trivial ?_);exact⟨A.old,rfl⟩
   | inr tm=>
     rw[L]at j;obtain⟨Y,x,rfl,E⟩:=j;refine AX (cs:=Ad 0 0) u 0 rfl rfl (J_ _) rfl fun H6 A Z n6=>(L_ (cs:=Ad 0 0) (AW (A.blk 0 rfl)) trivial (⟨A.old,Y,x,rfl,(E.upT (B':=fun k=>k<H5.size∧k≠O) (fun k K l F a hb=>⟨a,?_⟩) (Z.mono fun k a=>a.2)).up (fun k a=>by omega) (A_.refl _ _)⟩));rintro rfl;have:=AgO.inj (X.symm.trans hb);injection this with _ this
     rcases F with rfl | rfl<;>cases this
section
variable{B B':Nat→Prop}{H H':Aa}{c p m:Nat}{b:Nat}{r:ReM}{w:ByteArray}{v:v_}
def AuV(B:Nat→Prop)(H:Aa)(v:v_)(r:ReM):Prop:=∃A,Bc B H v (some A)∧Hn r A
theorem AuV.up(h:AuV B H v r)(a:∀k,B k→B' k)(b:A_ B H H'):AuV B' H' v r:=by
 have⟨A,c,d⟩:=h;exact⟨A,(c.frame b).mono a,d⟩
theorem AuV.ptr{v:v_}(h:AuV B H v r):∃a,v= H_ a:=by
 obtain⟨A,⟨pb,b,-⟩,-⟩:=h;exact⟨pb,b⟩
def BqR(H:Aa)(b:Nat)(r:ReM)(p:Nat)(v:v_)(H':Aa):Prop:=bld b r p= .inr ()∧A_ (D_ H) H H'∧AuV (fun k=>H.size≤k∧k<H'.size) H' v r
structure FtW(c p:Nat)(w:List Nat):Prop where
 c0:0<c
 c1:c≤100
 p1:p≤1048576
 w1:w.length≤1099511627776
def QuE(H:Aa){α:Type}(x:F3 ⊕ α)(y:v_)(H':Aa):Prop:=∃c p w,x= .inl (c,p,w)∧y=ftV c p (bA w)∧A_ (D_ H) H H'∧FtW c p w
end
def QuV(B:Nat→Prop)(H:Aa):QuM→v_→Prop
 | .nil,v=>v= .pointer none
 | .mk t o i x y,v=>∃g vt vo vi vx vy,v= H_ g∧B g∧K_ H g 184 [vt,Av o,Av i,vo,vi,vx,vy]∧X' B H t vt∧t.isCa=true∧AuV B H vo o∧AuV B H vi i∧QuV B H x vx∧QuV B H y vy
theorem QuV.up{B B':Nat→Prop}{H H':Aa}(a:∀k,B k→B' k)(b:A_ B H H'):∀{Q:QuM} {v:v_},QuV B H Q v→QuV B' H' Q v
 | .nil,_,h=>h
 | .mk ..,_,⟨g,vt,vo,vi,vx,vy,e,h1,h2,h3,h4,h5,h6,h7,h8⟩=>⟨g,vt,vo,vi,vx,vy,e,a g h1,h2.agr b h1,h3.up a b,h4,h5.up a b,h6.up a b,h7.up a b,h8.up a b⟩
section
variable{B T:Nat→Prop}{H G G':Aa}{q:Nat}{l:List v_}{A C:QuM}{vA vC:v_}
end
def Tm.maxT:Tm→Prop
 | .ca p _ _ to back a b=>p≤1048576∧(to.size≤1048576∧back.size≤1048576)∧a.maxT∧b.maxT
 | .le p _ _ s q a b=>p≤1048576∧s.size≤1048576∧q.maxT∧a.maxT∧b.maxT
 | _=>True
def Ji(P:w_)(ops:Array Oper)(Q:Exit→Act→y_→Prop)(S:y_→Prop)(Z M:List Nat):Nat→Array Bool→Act→y_→Prop
 | 0,listed,a,w=>Region.ready .any ops listed=[]∧Q .normal a w
 | fuel+1,listed,a,w=>
   (Region.ready .any ops listed=[]→Q .normal a w)∧
   ∀i∈Region.ready .any ops listed,wpOp P ops Q i (fun a' w'=>((Z.contains i=false∨(M.contains i=true∧S w))→S w')∧Ji P ops Q S Z M fuel (listed.setIfInBounds i true) a' w') a w
theorem Nt{P:w_}{d:Array Oper}{Q:Exit→Act→y_→Prop}{S:y_→Prop}{Z M:List Nat}:∀(b:Nat) (c:Array Bool) (a:Act) (w:y_),
  Ji P d Q S Z M b c a w→wpAny P .any d Q b c a w
 | 0,_,_,_,h=>h
 | b+1,_,_,_,h=>⟨h.1,fun i e=>wpOp_mono (fun a' f g=>Nt b _ a' f g.2) (h.2 i e)⟩
theorem Qb{P:w_}{g:Array Oper}{Q:Exit→Act→y_→Prop}{S:y_→Prop}{Z M:List Nat}{i f:Nat}{u:Oper}{v:v_}(hi:g[i]?=some u)
  (r:∀(j:Nat) (o:Oper) C b,g[j]?=some o→o.op≠ .select C b)
  (V:∀c a w,Q (.panic c) (a.put u.dst v) w→Q (.panic c) a w) (W:Z.contains i=false) (X:∀j,Z.contains j=true→M.contains j=false→Ga g f j i=true):
  ∀(l:Nat) (d:Array Bool) (a:Act) (w:y_),Zaf g d→
   (∀j x,g[j]?=some x→j≠i→d.getD j true=false→(∀e∈x.after,Region.binds .any e=true→e.on≠i)→u.apart g x=true)→
   i∈Region.ready .any g d→YieldsIf P g S u v a→S w→
   Ji P g Q S Z M l (d.setIfInBounds i true) (a.put u.dst v) w→Ji P g Q S Z M (l+1) d a w:=by
 intro l
 induction l with
 | zero=>
   intro d a w _ _ y J A H;refine⟨fun h=>(by rw[h]at y;cases y),fun j B=>?_⟩;by_cases m:j=i
   ·subst m;exact J.wpOp hi A ⟨fun _=>A,H⟩
   ·have:=ready_mono B m;rw[H.1]at this;cases this
 | succ l Y=>
   intro d a w D n y J A H;refine⟨fun h=>(by rw[h]at y;cases y),fun j B=>?_⟩;by_cases m:j=i
   ·subst m;exact J.wpOp hi A ⟨fun _=>A,H⟩
   ·have K:=H.2 j (ready_mono B m);have⟨t,x,z,E⟩:=mem_ready.1 B;have p:d.getD i false=false:=by
     have N:=(mem_ready.1 y).1;rcases Nat.lt_or_ge i d.size with O | O
     ·simp[O]at N ⊢;exact N
     ·simp[Yae O]at N
    have F:∀e∈x.after,Region.binds .any e=true→e.on≠i:=fun e he hb R=>by
     have K:=E e he hb;rw[R,p]at K;cases K
    have G:Z.contains j=false∨(M.contains j=true∧S w):=by
     cases hc:Z.contains j with
     | false=>exact .inl rfl
     | true=>
       cases hm:M.contains j with
       | true=>exact .inr ⟨rfl,A⟩
       | false=>exact absurd B (D.not_ready (X j hc hm) p)
    have h2:=wpOp_putIf z (n j x z m t F) (fun C b=>r i u C b hi) (fun C b=>r j x C b z) V J K;have q:∀k ok,g[k]?=some ok→k≠i→(d.setIfInBounds j true).getD k true=false→
      (∀e∈ok.after,Region.binds .any e=true→e.on≠i)→u.apart g ok=true:=fun k ok hk T p U=>by
     refine n k ok hk T ?_ U;by_cases I:j=k
     ·subst I;exact t
     ·rw[getD_set_ne true I]at p;exact p
    refine wpOp_mono (fun a' w' L=>⟨fun _=>L.2.1 G,Y (d.setIfInBounds j true) a' w' (D.put B) q (ready_mono y (Ne.symm m)) L.1 (L.2.1 G) ?_⟩) h2;rw[Ydu _ _ m];exact L.2.2
theorem RK{P:w_}{f:Array Oper}{Q:Exit→Act→y_→Prop}{S:y_→Prop}{Z M:List Nat}{i:Nat}{t:Oper}{v:v_}(hi:f[i]?=some t)
  (q:∀(j:Nat) (o:Oper) z b,f[j]?=some o→o.op≠ .select z b)
  (R:∀c a w,Q (.panic c) (a.put t.dst v) w→Q (.panic c) a w) (A:Z.contains i=true):
  ∀(g:Nat) (d:Array Bool) (a:Act) (w:y_),
   (∀j u,f[j]?=some u→j≠i→d.getD j true=false→(∀e∈u.after,Region.binds .any e=true→e.on≠i)→t.apart f u=true)→
   i∈Region.ready .any f d→YieldsIf P f (fun _=>True) t v a→
   Ji P f Q S Z M g (d.setIfInBounds i true) (a.put t.dst v) w→Ji P f Q S Z M (g+1) d a w:=by
 intro g
 induction g with
 | zero=>
   intro d a w _ x E H;refine⟨fun h=>(by rw[h]at x;cases x),fun j F=>?_⟩;by_cases l:j=i
   ·subst l;exact E.wpOp hi trivial ⟨fun h=>h.elim (fun h=>by rw[A]at h;cases h) And.right,H⟩
   ·have:=ready_mono F l;rw[H.1]at this;cases this
 | succ g T=>
   intro d a w m x E H;refine⟨fun h=>(by rw[h]at x;cases x),fun j F=>?_⟩;by_cases l:j=i
   ·subst l;exact E.wpOp hi trivial ⟨fun h=>h.elim (fun h=>by rw[A]at h;cases h) And.right,H⟩
   ·have G:=H.2 j (ready_mono F l);have⟨r,u,y,B⟩:=mem_ready.1 F;have n:d.getD i false=false:=by
     have I:=(mem_ready.1 x).1;rcases Nat.lt_or_ge i d.size with J | J
     ·simp[J]at I ⊢;exact I
     ·simp[Yae J]at I
    have C:∀e∈u.after,Region.binds .any e=true→e.on≠i:=fun e U V K=>by
     have G:=B e U V;rw[K,n]at G;cases G
    have W:=wpOp_putIf y (m j u y l r C) (fun z b=>q i t z b hi) (fun z b=>q j u z b y) R E G;have p:∀k ok,f[k]?=some ok→k≠i→(d.setIfInBounds j true).getD k true=false→
      (∀e∈ok.after,Region.binds .any e=true→e.on≠i)→t.apart f ok=true:=fun k ok X L n N=>by
     refine m k ok X L ?_ N;by_cases D:j=k
     ·subst D;exact r
     ·rw[getD_set_ne true D]at n;exact n
    refine wpOp_mono (fun a' Y O=>⟨O.2.1,T (d.setIfInBounds j true) a' Y p (ready_mono x (Ne.symm l)) O.1 ?_⟩) W;rw[Ydu _ _ l];exact O.2.2
def Zad(P:w_)(S:Nat→Prop)(Z:List Nat)(H0:Aa)(all:List Oper)(i:Nat)(fr:Fr)(H:Aa)(next:Fr→Aa→Prop):Prop:=
 match all[i]? with
 | none=>False
 | some o=>match o.guard with
   | some _=>False
   | none=>match Z.contains i with
     | true=>opK P false (fun _=>True) o fr H fun v H'=>Ck o.dst fr v fun fr'=>next fr' H'
     | false=>opK P false (fun _=>True) o fr H fun v H'=>A_ S H0 H'∧Ck o.dst fr v fun fr'=>next fr' H'
def heldM(P:w_)(S:Nat→Prop)(Z M:List Nat)(H0:Aa)(all:List Oper)(s:Sch):Fr→Aa→(Fr→Aa→Prop)→Prop:=
 Sch.rec (motive:=fun _=>Fr→Aa→(Fr→Aa→Prop)→Prop) (fun fr H K=>K fr H)
  (fun i _ ih fr H K=>match all[i]? with
   | none=>False
   | some o=>match o.guard with
     | some _=>False
     | none=>match I7 o&&Eg P o with
       | true=>match M.contains i with
         | true=>Jw P (fun _=>False) o fr H fun v=>Ck o.dst fr v fun fr'=>ih fr' H K
         | false=>Jw P S o fr H fun v=>Ck o.dst fr v fun fr'=>ih fr' H K
       | false=>False)
  (fun i _ ih fr H K=>Zad P S Z H0 all i fr H fun fr' H'=>ih fr' H' K)
  (fun i _ j _ ih ih' fr H K=>(Zad P S Z H0 all i fr H fun fr' H'=>ih fr' H' K)∧Zad P S Z H0 all j fr H fun fr' H'=>ih' fr' H' K) s
theorem ZY(P:w_)(S:Nat→Prop)(Z M:List Nat)(H0:Aa)(all:List Oper)(i:Nat)(s:Sch)(fr:Fr)(H:Aa)(K:Fr→Aa→Prop):heldM P S Z M H0 all (.q i s) fr H K=
  (match all[i]? with
   | none=>False
   | some o=>match o.guard with
     | some _=>False
     | none=>match I7 o&&Eg P o with
       | true=>match M.contains i with
         | true=>Jw P (fun _=>False) o fr H fun v=>Ck o.dst fr v fun a=>heldM P S Z M H0 all s a H K
         | false=>Jw P S o fr H fun v=>Ck o.dst fr v fun a=>heldM P S Z M H0 all s a H K
       | false=>False):=rfl
def ID(Z M:List Nat):Sch→Bool
 | .e=>true
 | .q i s=>M.contains i&&ID Z M s
 | .f i s=>Z.contains i&&ID Z M s
 | .b i s j s'=>Z.contains i&&Z.contains j&&ID Z M s&&ID Z M s'
def FY(ops:Array Oper)(Z M:List Nat):Sch→Array Bool→Bool
 | .e,listed=>(Region.ready .any ops listed).isEmpty
 | .q i s,listed=>(Region.ready .any ops listed).contains i&&Region.free .any ops listed i&&((M.contains i&&Z.contains i)|| (!(M.contains i)&& !(Z.contains i)&&Z.all fun z=>M.contains z|| Ga ops ops.size z i))&&FY ops Z M s (listed.setIfInBounds i true)
 | .f i s,listed=>Region.ready .any ops listed==[i]&& !(M.contains i)&&(!(Z.contains i)|| ID Z M s)&&FY ops Z M s (listed.setIfInBounds i true)
 | .b i s j s',listed=>Region.ready .any ops listed==[i,j]&& !(M.contains i)&& !(M.contains j)&&((!(Z.contains i)&& !(Z.contains j))|| (ID Z M s&&ID Z M s'))&&FY ops Z M s (listed.setIfInBounds i true)&&FY ops Z M s' (listed.setIfInBounds j true)
theorem HV{P:w_}{S:Nat→Prop}{Z:List Nat}{w0:y_}{all:List Oper}{Q:Exit→Act→y_→Prop}{i:Nat}{fr:Fr}{a:Act}{w:y_}{next:Fr→Aa→Prop}{N:Act→y_→Prop}
  (c:At fr a) (l:Y_ w0 w) (h:Zad P S Z w0.heap all i fr w.heap next)
  (n:∀f a' e,At f a'→Y_ w0 e→(Z.contains i=false→Cls w0 S e)→next f e.heap→N a' e):wpOp P all.toArray Q i N a w:=by
 unfold Zad at h;split at h
 ·exact h.elim
 ·rename_i o p;have m:all.toArray[i]?=some o:=by simpa using p
  split at h
  ·exact h.elim
  ·rename_i q;have d:Region.wanted o (yielded all.toArray a.tmps)=true:=by simp[Region.wanted,q]
   unfold wpOp;rw[m];dsimp only;rw[I_ d];split at h
   ·rename_i r;refine .inl (Oper.wp_mono ?_ (Cc c h _));rintro a' e ⟨v,rfl,b,g⟩;rw[Bi]at g;exact n _ _ _ (c.put o.dst v) (l.trans b) (fun j=>by rw[r]at j;cases j) g
   ·refine .inl (Oper.wp_mono ?_ (Cc c h _));rintro a' e ⟨v,rfl,b,k,g⟩;rw[Bi]at g;exact n _ _ _ (c.put o.dst v) (l.trans b) (fun _=>⟨l.trans b,k⟩) g
theorem D4{P:w_}{S:Nat→Prop}{Z M:List Nat}{w0:y_}{all:List Oper}{Q:Exit→Act→y_→Prop}(hs:Region.noSelect all.toArray=true)
  (F:∀c a w,¬Q (.panic c) a w):∀(l:Sch) (d:Array Bool) (fr:Fr) (a:Act) (w:y_) (K:Fr→Aa→Prop),At fr a→Y_ w0 w→(ID Z M l=false→Cls w0 S w)→Zaf all.toArray d→
  (∀u a' n,At u a'→Y_ w0 n→K u n.heap→Q .normal a' n)→FY all.toArray Z M l d=true→l.even=true→
  heldM P S Z M w0.heap all l fr w.heap K→Ji P all.toArray Q (Cls w0 S) Z M l.len d a w
 | .e,d,fr,a,w,K,hat,he,_,_,hq,hB,_,h=>⟨by simpa [FY]using hB,hq fr a w hat he h⟩
 | .q i s,d,fr,a,w,K,hat,he,D,hsh,hq,hB,hev,h=>by
   simp only[FY,h_,Yar,Yap,List.all_eq_true]at hB;obtain⟨⟨⟨G,g⟩,p⟩,t⟩:=hB;rw[ZY]at h;split at h
   ·exact h.elim
   ·rename_i o Y;have A:all.toArray[i]?=some o:=by simpa using Y
    have B:i∈Region.ready .any all.toArray d:=by simpa using G
    split at h
    ·exact h.elim
    ·rename_i hg;have y:Region.wanted o (yielded all.toArray a.tmps)=true:=by simp[Region.wanted,hg]
     split at h
     ·split at h
      ·rename_i R;have z:Z.contains i=true:=by
        rcases p with p | p
        ·exact p.2
        ·rw[R]at p;exact absurd p.1.1 nofun
       have⟨v,T,m⟩:=C2 h;rw[Bi]at m;refine RK (v:=v) A (Region.noSelect_spec hs) (fun c a' n r=>(F _ _ _ r).elim) z s.len d a w (Region.free_spec A g) B (.inl ⟨y,fun n _=>?_⟩) ?_
       ·rw[hat.evalF];exact T n fun k m=>m.elim
       ·exact D4 hs F s _ _ _ w K (hat.put o.dst v) he (fun C=>D (by simp[ID,C])) (hsh.put B) hq t hev m
      ·rename_i R;have H:M.contains i=false:=by cases C:M.contains i<;>first | rfl | exact absurd C (by simpa using R)
       have p:(M.contains i=false∧Z.contains i=false)∧∀x∈Z,M.contains x=true∨Ga all.toArray all.toArray.size x i=true:=by
        rcases p with p | p
        ·rw[H]at p;exact absurd p.1 nofun
        ·exact p
       have D:=D (by simp only[ID,H,Bool.false_and]);have⟨v,T,m⟩:=C2 h;rw[Bi]at m;refine Qb (v:=v) (f:=all.toArray.size) A (Region.noSelect_spec hs) (fun c a' n r=>(F _ _ _ r).elim) p.1.2 (fun j I hm=>(p.2 j (by simpa using I)).elim (fun h=>by rw[hm]at h;cases h) id) s.len d a w hsh (Region.free_spec A g) B
        (.inl ⟨y,fun n U=>?_⟩) D ?_
       ·rw[hat.evalF];exact T n fun k m=>(U.2 k m).trans (D.2 k m).symm
       ·exact D4 hs F s _ _ _ w K (hat.put o.dst v) he (fun _=>D) (hsh.put B) hq t hev m
     ·exact h.elim
 | .f i s,d,fr,a,w,K,hat,he,D,hsh,hq,hB,hev,h=>by
   simp only[FY,h_,Yar,Yap,beq_iff_eq]at hB;obtain⟨⟨⟨G,V⟩,g⟩,t⟩:=hB;refine⟨(fun C=>by rw[G]at C;cases C),fun j I=>?_⟩;have W:=I;rw[G]at I;obtain rfl:j=i:=by simpa using I
   refine HV hat he h fun u a' n J L E N=>⟨fun r=>r.elim E fun r=>absurd r.1 (by rw[V];exact nofun),D4 hs F s _ _ _ n K J L (fun z=>?_) (hsh.put W) hq t hev N⟩;rcases g with g | g
   ·exact E g
   ·rw[g]at z;cases z
 | .b i s j s',d,fr,a,w,K,hat,he,D,hsh,hq,hB,hev,h=>by
   simp only[FY,h_,Yar,Yap,beq_iff_eq]at hB;obtain⟨⟨⟨⟨⟨G,V⟩,bN⟩,g⟩,t⟩,X⟩:=hB;simp only[Sch.even,h_,beq_iff_eq]at hev;obtain⟨⟨e1,e2⟩,e3⟩:=hev;refine⟨(fun C=>by rw[G]at C;cases C),fun k m=>?_⟩;have O:=m;rw[G]at m;rcases Ybe.1 m with rfl | m
   ·refine HV hat he h.1 fun u a' n J L E N=>⟨fun r=>r.elim E fun r=>absurd r.1 (by rw[V];exact nofun),D4 hs F s _ _ _ n K J L (fun z=>?_) (hsh.put O) hq t e1 N⟩;rcases g with g | g
    ·exact E g.1
    ·rw[g.1]at z;cases z
   ·obtain rfl:k=j:=by simpa using m
    rw[e3];refine HV hat he h.2 fun u a' n J L E N=>⟨fun r=>r.elim E fun r=>absurd r.1 (by rw[bN];exact nofun),D4 hs F s' _ _ _ n K J L (fun z=>?_) (hsh.put O) hq X e2 N⟩;rcases g with g | g
    ·exact E g.2
    ·rw[g.2]at z;cases z
theorem Au.heldM{P:w_}{l:List Oper}{fr:Fr}{H:Aa}{K:Fr→Aa→Prop}(S:Nat→Prop)(Z M:List Nat)(b:Sch)(g:P.follows .mixedOrders=true)
  (c:(Region.noSelect l.toArray&&(b.len==l.length)&&b.even&&FY l.toArray Z M b (AhO l.length false))=true)
  (h:YtdopnglgekglgaaGreatDoor.heldM P S Z M H l b fr H K):Au P l fr H K:=by
 refine⟨?_⟩;intro id Q a w d k m n;subst k;simp only[h_,beq_iff_eq]at c;refine wp_region_any g (Nt (S:=Cls w S) (Z:=Z) (M:=M) _ _ _ _ ?_);have e:Zaf l.toArray (AhO l.length false):=fun j o _ f=>by
  rw[Array.getD_eq_getD_getElem?,Array.getElem?_replicate]at f;split at f<;>simp at f
 have:=D4 (P:=P) (S:=S) (Z:=Z) (M:=M) (w0:=w) (Q:=Q) c.1.1.1 m b (AhO l.length false) fr a {w with drawn:=w.drawn+1} K d ⟨rfl,rfl,rfl⟩ (fun _=>⟨⟨rfl,rfl,rfl⟩,A_.refl _ _⟩) e n c.2 c.1.2 h;rw[c.1.1.2]at this;simpa using this
theorem DE{α β:Type}{x:F3 ⊕ α}{f:α→F3 ⊕ β}{e:F3}(h:x= .inl e):N' x f= .inl e:=by rw[h];rfl
abbrev ptE(g:Nat):v_:=H_ g
theorem P0(a b:Nat)(h:ptE a=ptE b):a=b:=by cases h;rfl
structure RR(P:w_)(kt e:x_):Prop where
 under:P.underlying kt=some (.pointer e)
 size:∃j,P.info? e=some j∧j.size≠0
def Fc(H:Aa)(e:x_)(g:Nat):Prop:=∃l,K_ H g e l
section
variable{P:w_}{t kt et e:x_}{z:v_}{S:Nat→Prop}{H:Aa}{b a:Nat}{m:Nat→Option v_}
theorem VJ(f:RR P kt e){w:y_}{a b:Nat}(g:Fc w.heap e a)(k:Fc w.heap e b):(Op.equal kt (ptE a) (ptE b)).run P w= .ok (decide (a=b)) w:=by
 have⟨j,m,hs⟩:=f.size;have⟨la,g⟩:=g;have⟨n,k⟩:=k;have h:∀d:Nat,(Op.equalIn (d+1) kt (ptE a) (ptE b)).run P w= .ok (decide (a=b)) w:=fun d=>by
  by_cases c:a=b
  ·subst c;simp[Op.equalIn,run_underlying f.under,sizeOf,typeInfo,m,hs,run_sameAddr_same]
  ·have l:(⟨a,0,none⟩:Addr)≠⟨b,0,none⟩:=fun h=>c (by cases h;rfl);simp[Op.equalIn,run_underlying f.under,sizeOf,typeInfo,m,hs,run_sameAddr_other w l g k,c]
 exact h 9999
theorem QC(n:RR P kt e){w:y_}(p:Fc w.heap e a):∀(es:List MapEntry) (i:Nat),(∀x∈es,∃g,x.key=ptE g∧Fc w.heap e g)→
  ((Instr.findAsking kt (ptE a) es i).run P w= .ok none w∧∀x∈es,x.key≠ptE a)∨∃j x,(Instr.findAsking kt (ptE a) es i).run P w= .ok (some (i+j,x.val)) w∧es[j]?=some x∧x.key=ptE a
 | [],i,_=>.inl ⟨by simp[Instr.findAsking],fun _ h=>by cases h⟩
 | x::es,i,h=>by
   have⟨g,c,q⟩:=h x (by simp);have d:=VJ n p q;by_cases b:a=g
   ·subst b;refine .inr ⟨0,x,?_,rfl,c⟩;rw[g_ rfl]at d;simp[Instr.findAsking,c,d]
   ·rw[a_ b]at d;have k:x.key≠ptE a:=fun h=>b (P0 _ _ (h.symm.trans c));rcases QC n p es (i+1) (fun y f=>h y (YbX _ f))with⟨l,m⟩ | ⟨j,y,l,m,r⟩
    ·refine .inl ⟨by simp[Instr.findAsking,c,d,l],fun y f=>?_⟩;rcases Ybe.1 f with rfl | f
     ·exact k
     ·exact m y f
    ·refine .inr ⟨j+1,y,?_,m,r⟩;rw[show i+(j+1)=i+1+j by omega];simp[Instr.findAsking,c,d,l]
theorem Mx(l:RR P kt e){w:y_}(y:Fc w.heap e a)(n:∀g v,m g=some v→Fc w.heap e g){es:Array MapEntry}(d:∀(i:Nat) (x:MapEntry),es[i]?=some x→∃a,x.key=ptE a∧m a=some x.val)(z:∀a v,m a=some v→∃(i:Nat) (x:MapEntry),es[i]?=some x∧x.key=ptE a∧x.val=v):
  ((Instr.findKey kt (ptE a) es.toList).run P w= .ok none w∧m a=none∧∀x∈es.toList,x.key≠ptE a)∨∃j e,(Instr.findKey kt (ptE a) es.toList).run P w= .ok (some (j,e.val)) w∧es[j]?=some e∧e.key=ptE a∧m a=some e.val:=by
 have c:∀x∈es.toList,∃g,x.key=ptE g∧Fc w.heap e g:=fun x p=>by
  have⟨i,A⟩:=List.getElem?_of_mem p;have⟨b,q,e2⟩:=d i x (by simpa using A);exact⟨b,q,n b _ e2⟩
 have f:(Instr.findKey kt (ptE a) es.toList).run P w=(Instr.findAsking kt (ptE a) es.toList 0).run P w:=by
  cases B:es.toList with
  | nil=>simp[Instr.findKey,run_underlying l.under,Instr.findNow,Instr.findAsking]
  | cons x xs=>
    obtain⟨g,C,-⟩:=c x (by rw[B];simp);have:Instr.findNow (.pointer e) (ptE a) (x::xs) 0=none:=by
     simp[Instr.findNow,C,Instr.sameNow]
    simp[Instr.findKey,run_underlying l.under,this]
 rw[f];rcases QC l y es.toList 0 c with⟨h,k⟩ | ⟨j,x,h,k,t⟩
 ·refine .inl ⟨h,?_,k⟩;cases r:m a with
  | none=>rfl
  | some v=>
    obtain⟨i,x,p,D,_⟩:=z a v r;exact absurd D (k x (d_ (by simpa using p)))
 ·have u:es[j]?=some x:=by simpa using k
  rw[P_]at h;refine .inr ⟨j,x,h,u,t,?_⟩;have⟨a',q,e2⟩:=d j x u;rw[P0 a a' (t.symm.trans q)];exact e2
theorem Ik(b:RR P kt e)(w:y_)(a:Bool)(v:v_):(Instr.checkKey a 10000 kt v).run P w= .ok () w:=by
 have h:∀n,(Instr.checkKey a (n+1) kt v).run P w= .ok () w:=fun n=>by simp[Instr.checkKey,run_underlying b.under]
 exact h 9999
theorem Fc.agr{H':Aa}(h:Fc H e a)(k:A_ S H H')(hs:S a):Fc H' e a:=by
 have⟨l,h⟩:=h;exact⟨l,h.agr k hs⟩
theorem X9(f:Ej P t kt et z)(l:RR P kt e)(h:Dm ptE H b m)(x:Fc H e a)(c:∀g v,m g=some v→Fc H e g∧S g)(y:S b)(n:S a){K:v_→Prop}(k:K (.tuple #[(m a).getD z,.bool (m a).isSome])):A7 P (Instr.lookup t (.map (some b)) (ptE a) true) S H K:=by
 have⟨F,p,A,G,B,C⟩:=h;refine A7.mk _ (fun w q=>?_) k;have d:=(q b y).trans A;rcases Mx l (w:=w) (x.agr q n) (fun g v u=>(c g v u).1.agr q (c g v u).2) B C with⟨r,e2,D⟩ | ⟨j,e,r,e2,D,E⟩
 ·simp[Instr.lookup,run_underlying f.under,Go.MapKept.run_getObj_map d,Ik l,r,GE f.zero,e2]
 ·simp[Instr.lookup,run_underlying f.under,Go.MapKept.run_getObj_map d,Ik l,r,E]
theorem VV(w:y_)(v:Option Addr):(Instr.keyThatStays (.pointer v) (.pointer v)).run P w= .ok (.pointer v) w:=by
 have:Instr.sameBits 10000 (.pointer v) (.pointer v)=true:=by simp[Instr.sameBits]
 simp[Instr.keyThatStays,this]
theorem AeO(C:Ej P t kt et z)(p:RR P kt e)(h:Dm ptE H b m)(E:Fc H e a)(q:∀g v,m g=some v→Fc H e g){v:v_}{K:Aa→Prop}(k:Wm ptE H K b (put m a (some v))):By P (Instr.mapUpdate t (.map (some b)) (ptE a) v) H K:=by
 have⟨l,c,d,D,r,u⟩:=h;refine By.mk fun w F=>?_;subst F;rcases Mx p E q r u with⟨x,e2,n⟩ | ⟨j,e,x,e2,n,G⟩
 ·have⟨y,A,B⟩:=CY (o':=.map (l.push ⟨ptE a,v,c⟩) (c+1)) d;exact⟨JQ w b (.map (l.push ⟨ptE a,v,c⟩) (c+1)),by simp[Instr.mapUpdate,run_underlying C.under,Go.MapKept.run_getObj_map d,Ik p,x,Go.MapKept.run_setObj_map _ d],⟨rfl,rfl,rfl⟩,k _ (JM D r u n y).1 A B⟩
 ·have⟨y,A,B⟩:=CY (o':=.map (l.modify j fun e=>{e with key:=ptE a,val:=v}) c) d;exact⟨JQ w b (.map (l.modify j fun e=>{e with key:=ptE a,val:=v}) c),by simp[Instr.mapUpdate,run_underlying C.under,Go.MapKept.run_getObj_map d,Ik p,x,Go.MapKept.run_setObj_map _ d,e2,n,VV],⟨rfl,rfl,rfl⟩,k _ (FF P0 D r u e2 n (f:=fun e=>{e with key:=ptE a,val:=v}) rfl rfl (fun _=>rfl) y).1 A B⟩
end
def M'(B:Nat→Prop)(H:Aa):LnM→v_→Prop
 | .nil,v=>v= .pointer none
 | .mk t s w q x y,v=>∃g vt vs vv vq vx vy,v= H_ g∧B g∧K_ H g 70 [vt,Av s,Av w,vs,vv,vq,vx,vy]∧X' B H t vt∧t.isLe=true∧AuV B H vs s∧AuV B H vv w∧QuV B H q vq∧M' B H x vx∧M' B H y vy
theorem M'.up{B B':Nat→Prop}{H H':Aa}(a:∀k,B k→B' k)(b:A_ B H H'):∀{L:LnM} {v:v_},M' B H L v→M' B' H' L v
 | .nil,_,h=>h
 | .mk ..,_,⟨g,vt,vs,vv,vq,vx,vy,e,h1,h2,h3,h4,h5,h6,h7,h8,h9⟩=>⟨g,vt,vs,vv,vq,vx,vy,e,a g h1,h2.agr b h1,h3.up a b,h4,h5.up a b,h6.up a b,h7.up a b,h8.up a b,h9.up a b⟩
theorem M'.ptr{B:Nat→Prop}{H:Aa}:∀{L:LnM} {v:v_},M' B H L v→∃a,v= .pointer a
 | .nil,_,h=>⟨_,h⟩
 | .mk ..,_,⟨g,vt,vs,vv,vq,vx,vy,e,_⟩=>⟨_,e⟩
theorem AcJ{B:Nat→Prop}{H:Aa}{t:Tm}{v:v_}(h:X' B H t v)(a:t.isLe=true):∃g p op n s q x y vq vx vy,t= .le p op n s q x y∧v= H_ g∧B g∧K_ H g 74 [C_ p,.string op.s,noV n,.string s,vq,vx,vy]∧q.isC=true∧x.isL=true∧y.isL=true∧X' B H q vq∧X' B H x vx∧X' B H y vy:=by
 cases t<;>first | cases a | skip
 have⟨g,vq,vx,vy,e,b,c,d⟩:=h;exact⟨g,_,_,_,_,_,_,_,vq,vx,vy,rfl,e,b,c,d⟩
def ED:LO→Nat
 | .copy=>0
 | .key=>1
 | .ins=>2
 | .del=>3
 | .left=>4
 | .right=>5
 | .default_=>6
 | .keyed=>7
 | .star=>8
 | .alt=>9
 | .cat=>10
 | .swap=>11
 | .chain=>12
abbrev tL(w:ByteArray)(op:LO)(l:List UInt8)(i:Nat):Prop:=(w.toList==(⟨l.toArray⟩:ByteArray).toList)=decide (ED op=i)
structure LoT(w:ByteArray)(op:LO):Prop where
 t0:tL w op [99,111,112,121] 0
 t1:tL w op [107,101,121] 1
 t2:tL w op [105,110,115] 2
 t3:tL w op [100,101,108] 3
 t4:tL w op [108,101,102,116] 4
 t5:tL w op [114,105,103,104,116] 5
 t6:tL w op [100,101,102,97,117,108,116] 6
 t7:tL w op [107,101,121,101,100] 7
 t8:tL w op [115,116,97,114] 8
 t9:tL w op [97,108,116] 9
 t10:tL w op [99,97,116] 10
 t11:tL w op [115,119,97,112] 11
 t12:tL w op [99,104,97,105,110] 12
theorem DJ{w:ByteArray}{op:LO}(a:w=op.s):LoT w op:=by
 subst a;constructor<;>unfold tL<;>rw[CN]<;>cases op<;>decide
section
variable{B B':Nat→Prop}{H H':Aa}{c p m mb:Nat}{b:Nat}{r:ReM}{w:ByteArray}{v:v_}
theorem AcH:Ay prog 117 #[C_ c,C_ p,.string w] H (fun _ _=>False) (fun y H'=>y=ftV c p w∧H'=H):=by
 refine Ay.of_vc func117 rfl (call117 _) (Ah underlying27 rfl _ rfl (Y' c p w) rfl ?_);(conv=>whnf);exact⟨rfl,rfl⟩
theorem AeJ{ok:Bool}:Ay prog 77 #[C_ c,C_ p,.string w,.bool ok] H (fun _ H'=>ok=false∧H'=H) (fun y H'=>ok=true∧y=ftV c p w∧H'=H):=by
 refine Ay.of_vc func77 rfl (call77 _) ?_;cases ok
 ·repeat (refine Ao.run ?_)
  (conv=>whnf);exact⟨rfl,rfl⟩
 ·repeat (refine Ao.run ?_)
  refine Ab.mk (AcH (c:=c) (p:=p) (w:=w)) (fun _ _ h=>h.elim) ?_;rintro y _ ⟨rfl,rfl⟩;exact⟨rfl,rfl,rfl⟩
end
theorem YN{P:w_}{S:Nat→Prop}{w w':y_}{a:String}{cs:Array v_}(h:w.var? P a=some cs)(c:A_ S w.heap w'.heap)(d:∀g,P.globalNamed a=some g→S g):w'.var? P a=some cs:=by
 unfold World.var? at*;cases b:P.globalNamed a with
 | none=>simp[b]at h
 | some g=>
   simp only[b,YbG]at h ⊢;rw[c g (d g b)];exact h
def Qi(B:Nat→Prop)(H:Aa):Prop:=GG prog H∧∀g,prog.globalNamed Rj=some g→B g
theorem Qi.up{B B':Nat→Prop}{H H':Aa}(h:Qi B H)(a:∀k,B k→B' k)(b:A_ B H H'):Qi B' H':=by
 refine⟨fun w c=>?_,fun g d=>a g (h.2 g d)⟩;subst c;exact YN (w:={w with heap:=H}) (w':=w) (h.1 {w with heap:=H} rfl) b h.2
structure o_(e:Nat)(H G:Aa):Prop where
 ag:A_ (fun k=>k<H.size∧k≠e) H G
 sz:H.size≤G.size
theorem o_.refl{e:Nat}{H:Aa}:o_ e H H:=⟨A_.refl _ _,J_ _⟩
theorem o_.trans{e:Nat}{a b c:Aa}(h:o_ e a b)(k:o_ e b c):o_ e a c:=⟨h.ag.trans (k.ag.mono fun _ d=>⟨Ybq d.1 h.sz,d.2⟩),YbC h.sz k.sz⟩
theorem o_.old{e:Nat}{H G:Aa}(h:A_ (D_ H) H G):o_ e H G:=⟨h.mono fun _ a=>a.1,Ap h⟩
theorem o_.put{e:Nat}{H G:Aa}(h:A_ (fun k=>k≠e) H G)(hs:G.size=H.size):o_ e H G:=⟨h.mono fun _ a=>a.2,by omega⟩
theorem o_.to{e:Nat}{H G:Aa}(h:o_ e H G){B:Nat→Prop}(b:∀k,B k→k<H.size)(c:¬B e):A_ B H G:=h.ag.mono fun k a=>⟨b k a,fun d=>c (by rw[←d];exact a)⟩
theorem o_.frr{e:Nat}{H G:Aa}(h:o_ e H G){G':Aa}(k:o_ e G G'){B:Nat→Prop}{x:Nat}(a:p_ B G G' x):p_ B H G' x:=a.imp_right fun y=>⟨YbC h.sz y.1,y.2⟩
def LnE(e:Nat)(H:Aa){α:Type}(x:F3 ⊕ α)(y:v_)(H':Aa):Prop:=∃c p w,x= .inl (c,p,w)∧y=ftV c p (bA w)∧o_ e H H'∧FtW c p w
theorem QuE.ln{e:Nat}{H G G':Aa}{α β:Type}{x:F3 ⊕ α}{X:F3 ⊕ β}{y:v_}(h:QuE G x y G')(a:o_ e H G)(b:∀f,x= .inl f→X= .inl f):LnE e H X y G':=by
 have⟨c,p,w,d,g,j,k⟩:=h;exact⟨c,p,w,b _ d,g,a.trans (.old j),k⟩
theorem LnE.of{e:Nat}{H G G':Aa}{α β:Type}{x:F3 ⊕ α}{X:F3 ⊕ β}{y:v_}(h:LnE e G x y G')(a:o_ e H G)(b:∀f,x= .inl f→X= .inl f):LnE e H X y G':=by
 have⟨c,p,w,d,g,j,k⟩:=h;exact⟨c,p,w,b _ d,g,a.trans j,k⟩
structure LnI(B:Nat→Prop)(H:Aa)(b m mb g gt p:Nat)(ws:ByteArray)(n:Option ReM)(w:ByteArray)(tl:List v_)(Q:QuM)(A C:LnM)(a1 a2 a3 a4 vQ vA vC:v_):Prop where
 hB:∀k,B k→k<H.size
 gn:¬B g
 mn:m≠g
 tB:B gt
 bg:K_ H g 70 [H_ gt,a1,a2,a3,a4,vQ,vA,vC]
 bt:K_ H gt 74 (.int .i64 (p:Int):: .string ws::noV n:: .string w::tl)
 bm:K_ H m 60 [C_ b,.map (some mb)]
 pow:Qi B H
 qq:QuV B H Q vQ
 qa:M' B H A vA
 qc:M' B H C vC
section
variable{B:Nat→Prop}{H G:Aa}{b m mb g gt p:Nat}{ws:ByteArray}{n:Option ReM}{w:ByteArray}{tl:List v_}{Q:QuM}{A C:LnM}{a1 a2 a3 a4 vQ vA vC:v_}
theorem LnI.call(h:LnI B H b m mb g gt p ws n w tl Q A C a1 a2 a3 a4 vQ vA vC)(a:A_ (D_ H) H G):LnI B G b m mb g gt p ws n w tl Q A C a1 a2 a3 a4 vQ vA vC:=by
 have c:A_ B H G:=a.mono h.hB;exact⟨fun k d=>Ae a (h.hB k d),h.gn,h.mn,h.tB,h.bg.agr a h.bg.lt,h.bt.agr c h.tB,h.bm.agr a h.bm.lt,h.pow.up (fun _ h=>h) c,h.qq.up (fun _ h=>h) c,h.qa.up (fun _ h=>h) c,h.qc.up (fun _ h=>h) c⟩
theorem LnI.put{c1 c2 c3 c4:v_}(h:LnI B H b m mb g gt p ws n w tl Q A C a1 a2 a3 a4 vQ vA vC)(f:K_ G g 70 [H_ gt,c1,c2,c3,c4,vQ,vA,vC])(a:A_ (fun k=>k≠g) H G)(hs:G.size=H.size):LnI B G b m mb g gt p ws n w tl Q A C c1 c2 c3 c4 vQ vA vC:=by
 have c:A_ B H G:=a.mono fun k d e=>h.gn (by rw[←e];exact d);exact⟨fun k d=>by rw[hs];exact h.hB k d,h.gn,h.mn,h.tB,f,h.bt.agr c h.tB,h.bm.agr a h.mn,h.pow.up (fun _ h=>h) c,h.qq.up (fun _ h=>h) c,h.qa.up (fun _ h=>h) c,h.qc.up (fun _ h=>h) c⟩
def LnR(B:Nat→Prop)(H:Aa)(g gt:Nat)(vQ vA vC:v_)(x:F3 ⊕ (ReM×ReM))(_:v_)(G:Aa):Prop:=∃s v va vb,x= .inr (s,v)∧o_ g H G∧K_ G g 70 [H_ gt,Av s,Av v,va,vb,vQ,vA,vC]∧AuV (p_ B H G) G va s∧AuV (p_ B H G) G vb v
theorem LnR.of{H0:Aa}{x X:F3 ⊕ (ReM×ReM)}{u:v_}(h:LnR B H g gt vQ vA vC x u G)(a:o_ g H0 H)(d:∀r,x= .inr r→X= .inr r):LnR B H0 g gt vQ vA vC X u G:=by
 have⟨s,v,va,vb,e,b,f,j,l⟩:=h;exact⟨s,v,va,vb,d _ e,a.trans b,f,j.up (fun k c=>a.frr b c) (A_.refl _ _),l.up (fun k c=>a.frr b c) (A_.refl _ _)⟩
end
section
attribute [local irreducible] AN Bb AY
section
variable{S:Nat→Prop}{H:Aa}{va vb:v_}{a b:Option AM}
end
end
theorem QJ{e c p:Nat}{wd:List Nat}{ok:Bool}{z:F3 ⊕ Unit}{H:Aa}(a:z=if ok then .inl (c,p,wd)else .inr ())(b:FtW c p wd):
  Ay prog 77 #[C_ c,C_ p,.string (bA wd),.bool ok] H (fun _ H'=>z= .inr ()∧H'=H) (LnE e H z):=by
 refine(AeJ (c:=c) (p:=p) (w:=bA wd) (ok:=ok)).mono ?_ ?_
 ·rintro _ H' ⟨h,rfl⟩;exact⟨by rw[a,h];rfl,rfl⟩
 ·rintro y H' ⟨h,rfl,rfl⟩;exact⟨c,p,wd,by rw[a,h];rfl,rfl,.refl,b⟩
theorem Uu{c p:Nat}{o:Option (List Nat)}{wd:List Nat}{ok:Bool}(h:o=UP wd ok):nev c p o=if ok then .inl (c,p,wd)else .inr ():=by
 rw[h];cases ok<;>rfl
theorem AiF{c p:Nat}{x:Bool}:tst x c p=if !x then .inl (c,p,[])else .inr ():=by cases x<;>rfl
theorem ZS{c p:Nat}(a:0<c)(b:c≤100)(d:p≤1048576):FtW c p []:=⟨a,b,d,l_ _⟩
section
variable{B:Nat→Prop}{H G:Aa}{b m mb g gt p:Nat}{ws:ByteArray}{op:LO}{n:Option ReM}{w:ByteArray}{tl:List v_}{Q:QuM}{A C:LnM}{a1 a2 a3 a4 vQ vA vC:v_}
end
theorem EC{B:Nat→Prop}{H:Aa}{L:LnM}{v:v_}(a:L≠ .nil)(h:M' B H L v):∃g vt vs vv vq vx vy,v= H_ g∧B g∧K_ H g 70 [vt,Av L.s,Av L.v,vs,vv,vq,vx,vy]∧AuV B H vs L.s∧AuV B H vv L.v:=by
 cases L with
 | nil=>exact absurd rfl a
 | mk t s w q x y=>
   obtain⟨g,vt,vs,vv,vq,vx,vy,e,b,c,-,-,d,f,-⟩:=h;exact⟨g,vt,vs,vv,vq,vx,vy,e,b,c,d,f⟩
section
variable{B:Nat→Prop}{H G:Aa}{b m mb g gt p:Nat}{ws:ByteArray}{op:LO}{n:Option ReM}{w:ByteArray}{tl:List v_}{Q:QuM}{A C:LnM}{a1 a2 a3 a4 vQ vA vC:v_}
end
theorem Kw{B:Nat→Prop}{H:Aa}{L:LnM}{g:Nat}(f:L≠ .nil)(h:M' B H L (H_ g)):B g∧∃a p1 p2 b c wy,K_ H g 70 [a,Av L.s,Av L.v,H_ p1,H_ p2,b,c,wy]∧AuV B H (H_ p1) L.s∧AuV B H (H_ p2) L.v:=by
 have⟨n,a,j,k,b,c,wy,e,l,m,ks,d⟩:=EC f h;cases e;obtain⟨p1,rfl⟩:=ks.ptr;obtain⟨p2,rfl⟩:=d.ptr;exact⟨l,a,p1,p2,b,c,wy,m,ks,d⟩
section
variable{B:Nat→Prop}{H G:Aa}{b m mb g gt p:Nat}{ws:ByteArray}{op:LO}{n:Option ReM}{w:ByteArray}{tl:List v_}{Q:QuM}{A C:LnM}{a1 a2 a3 a4 vQ vA vC:v_}
end
section
variable{B:Nat→Prop}{H G:Aa}{b m mb g gt p:Nat}{ws:ByteArray}{op:LO}{n:Option ReM}{w:ByteArray}{tl:List v_}{Q:QuM}{A C:LnM}{a1 a2 a3 a4 vQ vA vC:v_}
end
theorem PK{c:Int}{r:ReM}(a:r.plain=true)(b:r.nodes≤2000)(d:1≤c)(f:c≤4096):Cw c r=match D8 (Be r) c with
  | .error e=>.error e
  | .ok F=>.ok (faR r F,F.length):=by
 have g:=D6 r;have hd:Gk c ⟨(i_ r:Int),((AV r 0).1:Int),((AV r 0).2.1:Int),(AV r 0).2.2⟩=match D8 (Be r) c with
   | .error e=>.error e
   | .ok F=>.ok (faR r F):=rfl
 rw[Gy d f b];unfold DX N1;rw[Dz c r a 0 0];simp only[BN,G_ (show¬65536<i_ r by omega),hd];cases D8 (Be r) c with
 | error e=>rfl
 | ok F=>show Except.ok (faR r F,max 0 F.length)=_;rw[Nat.max_eq_right (l_ _)]
section
variable{H:Aa}{r:ReM}{b p:Nat}
theorem Aa9(m:r.plain=true)(y:r.nodes≤2000){c:Int}(x:1≤c)(K:c≤4096)(j:GG prog H):
  Al prog 150 #[Av r,C_ c] H fun R H'=>A_ (D_ H) H H'∧match D8 (Be r) c with
   | .error e=>R= .tuple #[.pointer none,C_ e]
   | .ok F=>∃v o,R= .tuple #[v,C_ 0]∧Bc (fun k=>H.size≤k∧k<H'.size) H' v (some o)∧LQ (Be r) F (Ar (some o)) (AG (some o))∧e_ (some o)=F.length∧IE (some o):=by
 have z:decide (c<1)=false:=m_;have A:decide (c>4096)=false:=m_;have B:decide ((r.nodes:Int)>2000)=false:=m_;have g:=fun(H2:Aa) (mb:Nat) (h:K_ H2 mb 296 (mkL c 0)) (hp2:GG prog H2)=>X6 r m y (b:=c) (St.nil H2) h hp2;rw[C7]at g ⊢;refine Al.of_vc func150 rfl (call150 _) ?_;refine Aj.mk (R:=fun R H'=>A_ (D_ H) H H'∧match D8 (Be r) c with
   | .error e=>R= .tuple #[.pointer none,C_ 0,C_ e]
   | .ok F=>∃v o,R= .tuple #[v,C_ (F.length:Int),C_ 0]∧Bc (fun k=>H.size≤k∧k<H'.size) H' v (some o)∧LQ (Be r) F (Ar (some o)) (AG (some o))∧e_ (some o)=F.length∧IE (some o)) (Al.of_vc func171 rfl (call171 _) ?_) ?_
 ·(conv=>whnf);rw[z];(conv=>whnf);rw[A];refine NV underlying66 (Gg.mk (JR r) #[EJ r] (Jc r) (PI r (by omega) H) ?_);rintro _ H1 ⟨rfl,d⟩;have st1:=(St.nil H).call d;(conv=>whnf);rw[B];refine Ah underlying296 rfl _ mk_z (mkL c 0) rfl (BC (mkL c 0) rfl ?_);intro mb H2 n C h p;have f:=st1.skip n p;refine Aj.mk (g H2 mb h (j.agr f.old)) ?_;rintro R H3 ⟨q,D,a⟩;have L:=Ap st1.old;have t:A_ (D_ H) H H3:=f.old.trans (q.mono fun k l=>by
   have x:=Ae f.old l;have t:k<H.size:=l;exact⟨x,by omega⟩)
  cases hd:D8 (Be r) c with
  | error e=>
    rw[hd]at a;simp only at a;subst a;have E:=(Mm hd).1;have G:(e != 0)=true:=by simpa using E
    (conv=>whnf);rw[G];(conv=>whnf);exact⟨t,rfl⟩
  | ok F=>
    rw[hd]at a;obtain⟨u,v,o,rfl,w,I,J⟩:=a;refine Au.lex rfl (by kernel_rfl) (F_ ?_);refine lT (u.cellE rfl) ?_;(conv=>whnf);exact⟨t,v,o,rfl,w.mono fun k l=>⟨by have:=Ap f.old;omega,l.2⟩,I,J⟩
 rintro R H1 ⟨d,a⟩;cases hd:D8 (Be r) c with
 | error e=>
   rw[hd]at a;obtain rfl:R=_:=a;(conv=>whnf);exact⟨d,rfl⟩
 | ok F=>
   rw[hd]at a;obtain⟨v,o,rfl,w⟩:=a;(conv=>whnf);exact⟨d,v,o,rfl,w⟩
theorem AaA(g:r.plain=true)(j:GG prog H)(N:1≤b)(O:b≤4096)(w:r.nodes≤2000):Al prog 150 #[Av r,C_ b] H fun R H'=>A_ (D_ H) H H'∧
  ((bld b r p= .inl (40,p,[])∧R= .tuple #[.pointer none,C_ 40])∨(bld b r p= .inr ()∧∃v,R= .tuple #[v,C_ 0]∧AuV (fun k=>H.size≤k∧k<H'.size) H' v r)):=by
 refine(Aa9 g w (c:=(b:Int)) (by omega) (by omega) j).mono ?_;rintro R H1 ⟨a1,n⟩;refine⟨a1,?_⟩;have a:=PK g w (c:=(b:Int)) (by omega) (by omega);by_cases C:CU r≤b
 ·have⟨d,y,z⟩:=AaS (b:=(b:Int)) (by omega) (by omega) (by omega:(CU r:Int)≤b);rw[z]at a;cases hd:D8 (Be r) (b:Int)with
  | error e=>rw[hd]at a;cases a
  | ok F=>
    rw[hd]at a n;obtain⟨v,A,rfl,D,E,I,J⟩:=n;injection a with a
    injection a with e1 e2
    obtain⟨m,-,m1,-,K⟩:=L2 hd;obtain⟨u,L,-⟩:=LF m1 K;refine .inr ⟨I_ C,v,rfl,A,D,⟨?_,J,d,_,y,?_⟩⟩
    ·obtain⟨pb,rfl,h⟩:=D;exact h.ok
    ·rw[e1];refine⟨I,fun q b B G=>?_,fun q B=>?_⟩
     ·have⟨x,f⟩:=Am (l:=F) (k:=q) B;have⟨t,e,M⟩:=E.st q b x f G;rw[e,JH u.nd M (Pv u f G)]
     ·have⟨x,f⟩:=Am (l:=F) (k:=q) B;rw[E.fi q x f,SP f]
 ·rw[AaR (b:=(b:Int)) (by omega) (by omega) w (by omega)]at a;cases hd:D8 (Be r) (b:Int)with
  | ok F=>rw[hd]at a;cases a
  | error e=>
    rw[hd]at a n;injection a with e1
    rw[←e1]at n;exact .inl ⟨G_ C,n⟩
end
section
variable{B B':Nat→Prop}{H H':Aa}{c p m mb:Nat}{b:Nat}{r:ReM}{w:ByteArray}{v:v_}
theorem Uj(a:GG prog H)(f:1≤b)(g:b≤4096)(d:r.plain=true)(j:r.nodes≤2000)(k:p≤1048576)(l:K_ H m 60 [C_ b,v]):
  Ay prog 116 #[H_ m,Av r,C_ p] H (BqR H b r p) (QuE H (bld b r p)):=by
 refine Ay.of_vc func116 rfl (call116 _) (F_ ?_);refine B_ (l.cellE rfl) trivial (Ab.of (Aj.mk (AaA (p:=p) d a f g j) ?_));rintro R H1 ⟨a1,⟨e,rfl⟩ | ⟨e,v,rfl,n⟩⟩
 ·repeat (refine Ao.run ?_)
  refine Ab.mk (AcH (c:=40) (p:=p) (w:=nx)) (fun _ _ h=>h.elim) ?_;rintro y _ ⟨rfl,rfl⟩;exact⟨40,p,[],e,rfl,a1,by decide,by decide,k,l_ _⟩
 ·repeat (refine Ao.run ?_)
  (conv=>whnf);exact⟨e,a1,n⟩
end
section
variable{B:Nat→Prop}{H G:Aa}{b m mb g gt p:Nat}{ws:ByteArray}{op:LO}{n:Option ReM}{w:ByteArray}{tl:List v_}{Q:QuM}{A C:LnM}{a1 a2 a3 a4 vQ vA vC:v_}
theorem Ia{s v:ReM}(R:1≤b)(S:b≤4096)(ps:s.plain=true)(pv:v.plain=true)(hs:s.nodes≤2000)(hv:v.nodes≤2000)(T:p≤1048576)(k:LnI B H b m mb g gt p ws n w tl Q A C a1 a2 a3 a4 vQ vA vC):
  Ay prog 76 #[H_ m,H_ g,Av s,Av v] H (LnR B H g gt vQ vA vC (typ b p s v)) (LnE g H (typ b p s v)):=by
 obtain⟨X,a⟩:∃X,typ b p s v=X:=⟨_,rfl⟩;rw[a];unfold typ at a;refine Ay.of_vc func76 rfl (call76 _) (F_ ?_);refine Zak k.bg (by simp) (Ec s) fun G1 U F I=>?_;have V:=k.put (c1:=Av s) U F I;have x1:o_ g H G1:=.put F I;clear U F I;refine F_ ?_;refine Zak V.bg (by simp) (Ec v) fun G2 W e2 J=>?_;have d:=V.put (c2:=Av v) W e2 J;have K:o_ g H G2:=x1.trans (.put e2 J);clear W e2 J
 repeat ((conv=>whnf);first | refine F_ ?_ | refine B_ (d.bg.cellE rfl) trivial ?_ | refine B_ (d.bt.cellE rfl) trivial ?_)
 refine Ab.mk (Uj d.pow.1 R S ps hs T d.bm) ?_ ?_
 rotate_left
 ·intro y G h;exact h.ln K fun f L=>by rw[←a];exact DE L
 rintro va G3 ⟨M,a3,l⟩;have Y:=d.call a3;have x3:o_ g H G3:=K.trans (.old a3);have q:=l;obtain⟨pa,rfl⟩:=l.ptr;rw[M]at a;replace a:N' (bld b v p) (fun _=>_)=X:=a;refine F_ ?_;refine Zak Y.bg (by simp) rfl fun G4 Z x z=>?_;have j:=Y.put (c3:=H_ pa) Z x z;have N:o_ g H G4:=x3.trans (.put x z);have O:=d.bg.lt;have a0:g<G2.size:=O;have r:AuV (fun k=>G2.size≤k∧k<G4.size) G4 (H_ pa) s:=q.up (fun k c=>⟨c.1,by rw[z];exact c.2⟩) (x.mono fun k c e=>by omega);clear Z x z
 repeat ((conv=>whnf);first | refine F_ ?_ | refine B_ (j.bg.cellE rfl) trivial ?_ | refine B_ (j.bt.cellE rfl) trivial ?_)
 refine Ab.mk (Uj j.pow.1 R S pv hv T j.bm) ?_ ?_
 rotate_left
 ·intro y G h;exact h.ln N fun f L=>by rw[←a];exact DE L
 rintro vb G5 ⟨P,D,t⟩;have k5:=j.call D;have x5:o_ g H G5:=N.trans (.old D);have u:=t;obtain⟨pb,rfl⟩:=t.ptr;rw[P]at a;refine F_ ?_;refine Zak k5.bg (by simp) rfl fun G6 b6 E z6=>?_;have k6:=k5.put (c4:=H_ pb) b6 E z6;have x6:o_ g H G6:=x5.trans (.put E z6);(conv=>whnf);have s4:=N.sz;have s5:=Ap D;have s2:=K.sz;have s3:=j.bg.lt;refine⟨s,v,_,_,a.symm,x6,k6.bg,r.up (fun k c=>.inr ⟨by omega,by omega⟩) ((D.mono fun k c=>c.2).trans (E.mono fun k c e=>by omega)),u.up (fun k c=>.inr ⟨by omega,by omega⟩) (E.mono fun k c e=>by omega)⟩
theorem QI(R:1≤b)(S:b≤4096)(P:p≤1048576)(U:ws=op.s)(hw:w.size≤1048576)(I:ED op≤3)(hn:ED op≠2→n.isSome=true)(t:∀r,n=some r→r.nodes≤2000)(x:∀r,n=some r→r.plain=true)(V:ED op=2→(Cz (byN w)).nodes≤2000)
  (k:LnI B H b m mb g gt p ws n w tl Q A C a1 a2 a3 a4 vQ vA vC):
  Ay prog 44 #[H_ m,H_ g] H (LnR B H g gt vQ vA vC (lnT b p op n w Q A C)) (LnE g H (lnT b p op n w Q A C)):=by
 have T:=DJ U;have J:gt<H.size:=k.hB gt k.tB;refine Ay.of_vc func44 rfl (call44 _) ?_
 repeat ((conv=>whnf);first | refine Ao.run ?_ | refine F_ ?_ | refine B_ (k.bg.cellE rfl) trivial ?_ | refine B_ (k.bt.cellE rfl) trivial ?_)
 by_cases hd:ED op=3
 ·refine Ag.tt (T.t3.trans (g_ hd)) ?_;obtain⟨r,rfl⟩:∃r,n=some r:=by
   have:=hn (by omega);cases n<;>first | exact⟨_,rfl⟩ | cases this
  obtain⟨X,W⟩:∃X,lnT b p op (some r) w Q A C=X:=⟨_,rfl⟩;rw[W];have a:N' (typ b p r .eps) (fun q=>N' (tst (Gm r w) 80 p) fun _=>.inr q)=X:=by
   rw[←W];cases op<;>first | (cases hd;done) | rfl
  clear W
  repeat ((conv=>whnf);first | refine Ao.run ?_ | refine F_ ?_ | refine B_ (k.bt.cellE rfl) trivial ?_ | refine Ah underlying167 rfl _ rfl [] (by kernel_rfl) ?_)
  refine Ab.mk (Ia (s:=r) (v:=.eps) R S (x r rfl) rfl (t r rfl) (by decide) P k) ?_ ?_
  rotate_left
  ·intro y G h;exact h.of .refl fun f d=>by rw[←a];exact DE d
  rintro _ G1 ⟨s,v,va,vb,hx,Y,z,Z,a0⟩;have⟨a5,a6,a7⟩:=YK hx;cases a5;rw[hx]at a;replace a:N' (tst (Gm r w) 80 p) (fun _=>_)=X:=a;have K:=k.bt.agr (Y.to k.hB k.gn) k.tB;have L:gt<G1.size:=K.lt;have M:g<G1.size:=z.lt;have⟨A1,D,E⟩:=Z;obtain⟨pa,rfl⟩:∃pa,va= H_ pa:=AuV.ptr ⟨A1,D,E⟩;have F:∀j,p_ B H G1 j→j<G1.size:=fun j N=>N.elim (fun h=>Ybq (k.hB j h) Y.sz) fun h=>h.2;refine AE.held (D_ G1) [14] (sq [0,1,2,3,4,5,6,7,8,9,10,11] (.f 12 (sq [13] (.f 14 .e)))) (AQ _ _) rfl (by kernel_rfl) ?_
  repeat ((conv=>whnf);first | refine F_ ?_ | refine B_ (K.cellE rfl) L ?_ | refine B_ (z.cellE rfl) M ?_)
  have O:=DT (s:=w) F D (by unfold maxLen;omega);rw[E.aut.acc]at O;refine Ab.of (Ak (v:=.bool (Gm r w)) O fun G2 a2=>(⟨a2,?_⟩));have x2:o_ g H G2:=Y.trans (.old a2);refine Ab.mk (QJ (e:=g) (c:=80) (p:=p) (wd:=[]) (ok:= !Gm r w) AiF (ZS (by decide) (by decide) P)) ?_ ?_
  rotate_left
  ·intro y G h;exact h.of x2 fun f d=>by rw[←a];exact DE d
  rintro _ G2 ⟨hz,rfl⟩;rw[hz]at a;(conv=>whnf);exact⟨r,.eps,_,vb,a.symm,x2,z.agr a2 M,AuV.up ⟨A1,D,E⟩ (fun j N=>N.imp_right fun h=>⟨h.1,Ae a2 h.2⟩) (a2.mono F),a0.up (fun j N=>N.imp_right fun h=>⟨h.1,Ae a2 h.2⟩) (a2.mono F)⟩
 refine Ag.ff (T.t3.trans (a_ hd)) ?_
 repeat (refine Ao.run ?_)
 by_cases l:ED op=2
 ·refine Ag.tt (T.t2.trans (g_ l)) ?_
  repeat ((conv=>whnf);first | refine Ao.run ?_ | refine F_ ?_ | refine B_ (k.bt.cellE rfl) trivial ?_ | refine Ah underlying167 rfl _ rfl [] (by kernel_rfl) ?_)
  refine Ab.of (Ak (YF w hw _) fun G1 a1=>?_);have k1:=k.call a1;refine Ab.mk (Ia (s:=.eps) (v:=Cz (byN w)) R S rfl (Lh _) (by decide) (V l) P k1) ?_ ?_
  rotate_left
  ·intro y G h;exact h.of (.old a1) fun f d=>by rw[←d];cases op<;>first | (cases l;done) | rfl
  intro u G h;(conv=>whnf);exact h.of (.old a1) fun f d=>by rw[←d];cases op<;>first | (cases l;done) | rfl
 refine Ag.ff (T.t2.trans (a_ l)) ?_;obtain⟨r,rfl⟩:∃r,n=some r:=by
  have:=hn l;cases n<;>first | exact⟨_,rfl⟩ | cases this
 repeat (refine Ao.run ?_)
 refine AE.held (D_ H) [10] (sq [0,1,2,3,4,5,6,7,8,9] (.f 10 .e)) (AQ _ _) rfl (by kernel_rfl) ?_
 repeat ((conv=>whnf);first | refine F_ ?_ | refine B_ (k.bt.cellE rfl) J ?_)
 refine Ab.mk (Ia (s:=r) (v:=r) R S (x r rfl) (x r rfl) (t r rfl) (t r rfl) P k) ?_ ?_
 rotate_left
 ·intro y G h;exact h.of .refl fun f d=>by rw[←d];cases op<;>first | (exact absurd rfl l;done) | (exact absurd rfl hd;done) | (exact absurd I (by decide);done) | rfl
 intro u G h;(conv=>whnf);exact h.of .refl fun f d=>by rw[←d];cases op<;>first | (exact absurd rfl l;done) | (exact absurd rfl hd;done) | (exact absurd I (by decide);done) | rfl
theorem QK(h1:1≤b)(h2:b≤4096)(K:p≤1048576)(L:ED op=7∨ED op=8)(M:A.s.plain=true)(N:A.v.plain=true)(hA:A≠ .nil)(O:(ReM.star A.s).nodes≤2000)(P:(ReM.star A.v).nodes≤2000)(k:LnI B H b m mb g gt p ws n w tl Q A C a1 a2 a3 a4 vQ vA vC):
  Ay prog 46 #[H_ m,H_ g] H (LnR B H g gt vQ vA vC (lnT b p op n w Q A C)) (LnE g H (lnT b p op n w Q A C)):=by
 obtain⟨X,R⟩:∃X,lnT b p op n w Q A C=X:=⟨_,rfl⟩;rw[R];have a:N' (nev 83 p (iterW A.s)) (fun _=>N' (nev 84 p (iterW A.v)) fun _=>typ b p (.star A.s) (.star A.v))=X:=by
  rw[←R];rcases L with h | h<;>cases op<;>first | (cases h;done) | rfl
 clear R;obtain⟨J,q,d,j,r,t,wy,rfl,S,-,-,-⟩:=EC hA k.qa;have T:∀{G a1 a2 a3 a4},LnI B G b m mb g gt p ws n w tl Q A C a1 a2 a3 a4 vQ (H_ J) vC→∃q d j r t wy,K_ G J 70 [q,Av A.s,Av A.v,H_ d,H_ j,r,t,wy]∧AuV B G (H_ d) A.s∧AuV B G (H_ j) A.v:=fun k=>by
  obtain⟨ad,q,d,j,r,t,wy,e,-,kb,ks,kv⟩:=EC hA k.qa;cases e;obtain⟨p1,rfl⟩:=ks.ptr;obtain⟨p2,rfl⟩:=kv.ptr;exact⟨q,p1,p2,r,t,wy,kb,ks,kv⟩
 refine Ay.of_vc func46 rfl (call46 _) ?_;obtain⟨q,p1,p2,r,t,wy,x,⟨A1,U,E⟩,-⟩:=T k
 repeat ((conv=>whnf);first | refine Ao.run ?_ | refine F_ ?_ | refine B_ (k.bg.cellE rfl) trivial ?_ | refine B_ (x.cellE rfl) trivial ?_)
 refine Ab.of (Aj.mk (Xs k.hB U E.made.ok) ?_);rintro _ G1 ⟨e1,V,W,rfl,hc,Y⟩;have Z:=Jm.o E hc;have D:=k.call e1;have x1:o_ g H G1:=.old e1
 repeat ((conv=>whnf);first | refine Ao.run ?_ | refine F_ ?_ | refine B_ (D.bg.cellE rfl) trivial ?_ | refine B_ (D.bt.cellE rfl) trivial ?_)
 refine Ab.mk (QJ (e:=g) (c:=83) (p:=p) (wd:=V) (ok:=W) (Uu Z) ⟨by decide,by decide,K,Y⟩) ?_ ?_
 rotate_left
 ·intro y G h;exact h.of x1 fun f z=>by rw[←a];exact DE z
 rintro _ G1 ⟨a0,rfl⟩;rw[a0]at a;replace a:N' (nev 84 p (iterW A.v)) (fun _=>_)=X:=a;obtain⟨q,p1,p2,r,t,wy,x,-,⟨A2,a5,F⟩⟩:=T D
 repeat ((conv=>whnf);first | refine Ao.run ?_ | refine F_ ?_ | refine B_ (D.bg.cellE rfl) trivial ?_ | refine B_ (x.cellE rfl) trivial ?_)
 refine Ab.of (Aj.mk (Xs D.hB a5 F.made.ok) ?_);rintro _ G2 ⟨e2,a6,a7,rfl,a8,I⟩;have a9:=Jm.o F a8;have l:=D.call e2;have x2:o_ g H G2:=x1.trans (.old e2)
 repeat ((conv=>whnf);first | refine Ao.run ?_ | refine F_ ?_ | refine B_ (l.bg.cellE rfl) trivial ?_ | refine B_ (l.bt.cellE rfl) trivial ?_)
 refine Ab.mk (QJ (e:=g) (c:=84) (p:=p) (wd:=a6) (ok:=a7) (Uu a9) ⟨by decide,by decide,K,I⟩) ?_ ?_
 rotate_left
 ·intro y G h;exact h.of x2 fun f z=>by rw[←a];exact DE z
 rintro _ G2 ⟨ab,rfl⟩;rw[ab]at a;replace a:typ b p (.star A.s) (.star A.v)=X:=a;obtain⟨q,p1,p2,r,t,wy,x,-⟩:=T l;have lA:J<G2.size:=l.hB J S;have lg:g<G2.size:=l.bg.lt;have⟨U1,y1,f1⟩:=BP A.s;have⟨U2,y2,f2⟩:=BP A.v;rw[f1,f2]at x
 repeat (refine Ao.run ?_)
 refine AE.held (D_ G2) [20] (sq [0,1,2,3,4,5,6,7,8,9,10,11,12,13,14,15,16,17,18,19] (.f 20 .e)) (AQ _ _) rfl (by kernel_rfl) ?_
 repeat ((conv=>whnf);first | refine F_ ?_ | refine B_ (l.bg.cellE rfl) lg ?_ | refine B_ (x.cellE rfl) lA ?_)
 refine Ah underlying182 rfl _ rfl [.iface U1 y1] (by kernel_rfl) ?_
 repeat ((conv=>whnf);first | refine F_ ?_ | refine B_ (l.bg.cellE rfl) lg ?_ | refine B_ (x.cellE rfl) lA ?_)
 refine Ah underlying182 rfl _ rfl [.iface U2 y2] (by kernel_rfl) ?_;(conv=>whnf);have q1:Value.iface 182 (.agg #[.iface U1 y1])=Av (.star A.s):=by rw[←f1];rfl
 have q2:Value.iface 182 (.agg #[.iface U2 y2])=Av (.star A.v):=by rw[←f2];rfl
 have tc:=Ia (s:=.star A.s) (v:=.star A.v) h1 h2 M N O P K l;rw[←q1,←q2]at tc;refine Ab.mk tc ?_ ?_
 rotate_left
 ·intro y G h;exact h.of x2 fun f z=>by rw[←a];exact z
 intro u G h;(conv=>whnf);exact h.of x2 fun f z=>by rw[←a];exact z
theorem Xx(h1:1≤b)(h2:b≤4096)(hp:p≤1048576)(bd:ws=op.s)(be:ED op=10∨ED op=11)(bf:(ReM.cat A.s C.s).plain=true)(r:A.v.plain=true∧C.v.plain=true)(hA:A≠ .nil)(hC:C≠ .nil)(bh:(ReM.cat A.s C.s).nodes≤2000)(a0:(ReM.cat A.v C.v).nodes≤2000)(k:LnI B H b m mb g gt p ws n w tl Q A C a1 a2 a3 a4 vQ vA vC):
  Ay prog 45 #[H_ m,H_ g] H (LnR B H g gt vQ vA vC (lnT b p op n w Q A C)) (LnE g H (lnT b p op n w Q A C)):=by
 have T:=DJ bd;obtain⟨X,hX⟩:∃X,lnT b p op n w Q A C=X:=⟨_,rfl⟩;rw[hX];obtain⟨V1,V2,hV,a⟩:∃V1 V2,((ED op=11∧V1=C.v∧V2=A.v)∨(ED op≠11∧V1=A.v∧V2=C.v))∧N' (nev 81 p (Lm A.s C.s)) (fun _=>N' (nev 82 p (Lm V1 V2)) fun _=>typ b p (.cat A.s C.s) (.cat V1 V2))=X:=by
  rcases be with h | h
  ·exact⟨A.v,C.v,.inr ⟨by omega,rfl,rfl⟩,by rw[←hX];cases op<;>first | (cases h;done) | rfl⟩
  ·exact⟨C.v,A.v,.inl ⟨h,rfl,rfl⟩,by rw[←hX];cases op<;>first | (cases h;done) | rfl⟩
 clear hX;obtain⟨gA,-,-,-,-,-,-,rfl,-⟩:=EC hA k.qa;obtain⟨gC,-,-,-,-,-,-,rfl,-⟩:=EC hC k.qc;refine Ay.of_vc func45 rfl (call45 _) ?_;have lg:g<H.size:=k.bg.lt
 repeat (refine Ao.run ?_)
 refine AE.held (D_ H) [] (sq [0,1,2,3,4,5,6,7,8,9,10,11,12,13,14] .e) (AQ _ _) rfl (by kernel_rfl) ?_
 repeat ((conv=>whnf);first | refine Ao.run ?_ | refine F_ ?_ | refine B_ (k.bg.cellE rfl) lg ?_)
 repeat ((conv=>whnf);first | refine Ao.run ?_ | refine F_ ?_ | refine B_ (k.bt.cellE rfl) trivial ?_)
 refine Ag.ff (T.t9.trans (m_)) ?_;obtain⟨bj,wt,p1,p2,wq,wx,wy,U,⟨A1,a5,I⟩,-⟩:=Kw hA k.qa;obtain⟨bn,a6,a7,a8,a9,ab,ad,V,⟨C1,ae,J⟩,-⟩:=Kw hC k.qc;have lA:gA<H.size:=k.hB gA bj;have lC:gC<H.size:=k.hB gC bn
 repeat (refine Ao.run ?_)
 refine AE.of (Au.heldM (D_ H) [11,13,14] [11] (sq [0,1,2,3,4,5,6,7] (.b 8 (sq [9,10,11] (.f 12 (.f 13 (.f 14 .e)))) 12 (.f 8 (sq [9,10,11] (.f 13 (.f 14 .e)))))) rfl (by kernel_rfl) ?_)
 repeat ((conv=>whnf);first | refine F_ ?_ | refine B_ (U.cellE rfl) lA ?_ | refine B_ (V.cellE rfl) lC ?_)
 constructor;refine Aj.mk (W9 k.hB a5 ae I.made.ok J.made.ok) ?_;rintro _ G1 ⟨l,t1,i1,j1,ah,rfl,hc,t⟩;refine⟨l,?_⟩;refine Aw _ (spL ⟨#[]⟩ 0 0) JV rfl ?_;intro W G2 hq hs Y ha;have e2:A_ (D_ H) H G2:=l.trans (ha.mono fun j d=>by have:=Ae l d;omega);refine⟨e2,?_⟩;have bo:H.size≤W:=by have:=Ap l;omega
 refine Zaa (cs:=spL t1 i1 j1) rfl Y (J_ _) rfl ?_;intro G3 x q K;have Z:A_ (D_ H) H G3:=e2.trans (q.mono fun j d=>by unfold D_ at d;omega);(conv=>whnf);clear hq hs Y ha l e2 q K
 rotate_left
 refine Aw _ (spL ⟨#[]⟩ 0 0) JV rfl ?_;intro W G1 hq hs Y ha;have l:=ha.new hq;refine⟨l,?_⟩;have bo:H.size≤W:=by omega
 have k1:=k.call l;refine Aj.mk (W9 k1.hB (a5.frame (l.mono k.hB)) (ae.frame (l.mono k.hB)) I.made.ok J.made.ok) ?_;rintro _ G2 ⟨e2,t1,i1,j1,ah,rfl,hc,t⟩;have ai:=Y.agr e2 Y.lt;replace e2:A_ (D_ H) H G2:=l.trans (e2.mono fun j d=>Ae l d);refine⟨e2,?_⟩;refine Zaa (cs:=spL t1 i1 j1) rfl ai (J_ _) rfl ?_;intro G3 x q K;have Z:A_ (D_ H) H G3:=e2.trans (q.mono fun j d=>by unfold D_ at d;omega);(conv=>whnf);clear hq hs Y ha l e2 q K k1 ai
 all_goals
 obtain⟨bp,aj,rfl⟩:=LN.o I J hc;have k3:=k.call Z;have ak:W<G3.size:=x.lt;rw[AB]at t
 repeat (refine Ao.run ?_)
 refine AE.held (D_ G3) [7] (sq [0,1,2,3,4,5,6] (.f 7 .e)) (AQ _ _) rfl (by kernel_rfl) ?_
 repeat ((conv=>whnf);first | refine F_ ?_ | refine B_ (k3.bt.cellE rfl) k3.bt.lt ?_ | refine B_ (x.cellE rfl) ak ?_)
 refine Ab.mk (QJ (e:=g) (c:=81) (p:=p) (wd:=bp) (ok:=ah) (Uu aj) ⟨by decide,by decide,hp,t⟩) ?_ ?_
 rotate_left
 ·intro y G h;exact h.of (.old Z) fun f L=>by rw[←a];exact DE L
 rintro _ G3 ⟨am,rfl⟩;rw[am]at a;replace a:N' (nev 82 p (Lm V1 V2)) (fun _=>_)=X:=a;clear hc t am aj;obtain⟨-,wt,p1,p2,wq,wx,wy,U,-,-⟩:=Kw hA k3.qa;obtain⟨-,a6,a7,a8,a9,ab,ad,V,-,-⟩:=Kw hC k3.qc;have⟨U1,y1,f1⟩:=BP A.s;have⟨U3,y3,f3⟩:=BP C.s;rw[f1]at U;rw[f3]at V;refine AE.held (D_ G3) [10] (sq [0,1,2,3,4,5,6,7,8] (.f 9 (.f 10 .e))) (AQ _ _) rfl (by kernel_rfl) ?_
 repeat ((conv=>whnf);first | refine F_ ?_ | refine B_ (U.cellE rfl) U.lt ?_ | refine B_ (V.cellE rfl) V.lt ?_)
 refine Ah underlying179 rfl _ rfl [.iface U1 y1,.iface U3 y3] (by kernel_rfl) (Aw (.agg #[.nilIface,.nilIface]) [.nilIface,.nilIface] (by kernel_rfl) rfl ?_);intro M G4 ao bq ap aq;have e4:=aq.new ao;refine⟨e4,?_⟩;have au:A_ (D_ H) H G4:=Z.trans (e4.mono fun j d=>Ae Z d);refine Zaa (cs:=[.iface U1 y1,.iface U3 y3]) rfl ap (J_ _) rfl ?_;intro G5 z N br;have cb:H.size≤M:=by have:=Ap Z;omega
 have bu:W≠M:=by omega
 have aw:=x.agr (e4.trans (N.mono fun j d=>by unfold D_ at d;omega)) ak;have e5:A_ (D_ H) H G5:=au.trans (N.mono fun j d=>by unfold D_ at d;omega);replace z:K_ G5 M 179 [.iface U1 y1,.iface U3 y3]:=z;clear ao bq ap aq e4 au N br U V;have O:=k.call e5;refine Ao.cut [5,6] (fun e:Nat×Nat=>[.pointer (some ⟨e.1,0,none⟩),.pointer (some ⟨e.2,0,none⟩)]) (fun e G=>G=G5∧∃D E:LnM,D≠ .nil∧E≠ .nil∧D.v=V1∧E.v=V2∧M' B G5 D (.pointer (some ⟨e.1,0,none⟩))∧M' B G5 E (.pointer (some ⟨e.2,0,none⟩))∧((ReM.cat D.v E.v).nodes≤2000∧(ReM.cat D.v E.v).plain=true)) ?_ ?_
 ·repeat ((conv=>whnf);first | refine Ao.run ?_ | refine F_ ?_ | refine B_ (O.bt.cellE rfl) trivial ?_)
  rcases hV with⟨hs,rfl,rfl⟩ | ⟨hs,rfl,rfl⟩
  ·refine Ag.tt (T.t11.trans (g_ hs)) ?_;(conv=>whnf);exact⟨rfl,(gC,gA),rfl,rfl,C,A,hC,hA,rfl,rfl,O.qc,O.qa,by simp only[ReM.nodes]at a0 ⊢;omega,by simp only[ReM.plain,r.1,r.2];rfl⟩
  ·refine Ag.ff (T.t11.trans (a_ hs)) ?_;(conv=>whnf);exact⟨rfl,(gA,gC),rfl,rfl,A,C,hA,hC,rfl,rfl,O.qa,O.qc,a0,by simp only[ReM.plain,r.1,r.2];rfl⟩
 rintro⟨gD,gE⟩ G5' c9 ⟨rfl,D,E,hD,hE,rfl,rfl,qD,qE,ay⟩;clear hV;obtain⟨bv,wt,p1,p2,wq,wx,wy,kD,-,⟨D2,bw,az⟩⟩:=Kw hD qD;obtain⟨bx,a6,a7,a8,a9,ab,ad,kE,-,⟨E2,bz,b4⟩⟩:=Kw hE qE;refine AE.of (Au.heldM (D_ G5') [11,12,13] [11] (sq [0,1,2,3,4,5,6,7] (.f 8 (sq [9,10,11] (.f 12 (.f 13 .e))))) rfl (by kernel_rfl) ?_)
 repeat ((conv=>whnf);first | refine F_ ?_ | refine B_ (kD.cellE rfl) kD.lt ?_ | refine B_ (kE.cellE rfl) kE.lt ?_)
 refine Aj.mk (W9 O.hB bw bz az.made.ok b4.made.ok) ?_;rintro _ G6 ⟨e6,t2,i2,j2,c2,rfl,c3,F⟩;refine⟨e6,?_⟩;have b5:=aw.agr e6 aw.lt;have c4:=z.agr e6 z.lt;have c5:A_ (D_ H) H G6:=e5.trans (e6.mono fun j d=>Ae e5 d);refine Zaa (cs:=spL t2 i2 j2) rfl b5 (J_ _) rfl ?_;intro G7 b6 P cd;have e7:A_ (D_ H) H G7:=c5.trans (P.mono fun j d=>by unfold D_ at d;omega);have b7:=c4.agr P bu.symm;(conv=>whnf);obtain⟨c6,c7,rfl⟩:=LN.o az b4 c3;rw[AB]at F;have k7:=k.call e7;have x7:o_ g H G7:=.old e7;have b8:W<G7.size:=b6.lt
 repeat (refine Ao.run ?_)
 refine AE.held (D_ G7) [7] (sq [0,1,2,3,4,5,6] (.f 7 .e)) (AQ _ _) rfl (by kernel_rfl) ?_
 repeat ((conv=>whnf);first | refine F_ ?_ | refine B_ (k7.bt.cellE rfl) k7.bt.lt ?_ | refine B_ (b6.cellE rfl) b8 ?_)
 refine Ab.mk (QJ (e:=g) (c:=82) (p:=p) (wd:=c6) (ok:=c2) (Uu c7) ⟨by decide,by decide,hp,F⟩) ?_ ?_
 rotate_left
 ·intro y G h;exact h.of x7 fun f L=>by rw[←a];exact DE L
 rintro _ G7 ⟨c8,rfl⟩;rw[c8]at a;replace a:typ b p (.cat A.s C.s) (.cat D.v E.v)=X:=a;have⟨U2,y2,f2⟩:=BP D.v;have⟨U4,y4,f4⟩:=BP E.v;have b9:A_ B G5' G7:=(e6.mono O.hB).trans (P.mono fun j d e=>by have:=k.hB j d;omega);have R:=kD.agr b9 bv;have S:=kE.agr b9 bx;rw[f2]at R;rw[f4]at S;refine AE.held (D_ G7) [14] (sq [0,1,2,3,4,5,6,7,8,9,10,11,12,13] (.f 14 .e)) (AQ _ _) rfl (by kernel_rfl) ?_;refine L_ (cs:=[.iface U1 y1,.iface U3 y3]) (b7.cells fun j v hv=>by rw[P_];exact hv) b7.lt ?_
 repeat ((conv=>whnf);first | refine F_ ?_ | refine B_ (R.cellE rfl) R.lt ?_ | refine B_ (S.cellE rfl) S.lt ?_)
 refine Ah underlying179 rfl _ rfl [.iface U2 y2,.iface U4 y4] (by kernel_rfl) ?_;(conv=>whnf);have q1:Value.iface 179 (.agg #[.iface U1 y1,.iface U3 y3])=Av (.cat A.s C.s):=by rw[←f1,←f3];rfl
 have q2:Value.iface 179 (.agg #[.iface U2 y2,.iface U4 y4])=Av (.cat D.v E.v):=by rw[←f2,←f4];rfl
 have tc:=Ia (s:=.cat A.s C.s) (v:=.cat D.v E.v) h1 h2 bf ay.2 bh ay.1 hp k7;rw[←q1,←q2]at tc;refine Ab.mk tc ?_ ?_
 rotate_left
 ·intro y G h;exact h.of x7 fun f L=>by rw[←a];exact L
 intro u G h;(conv=>whnf);exact h.of x7 fun f L=>by rw[←a];exact L
end
section
variable{B:Nat→Prop}{H G:Aa}{b m mb g gt p:Nat}{ws:ByteArray}{op:LO}{n:Option ReM}{w:ByteArray}{tl:List v_}{Q:QuM}{A C:LnM}{a1 a2 a3 a4 vQ vA vC:v_}
end
section
variable{B:Nat→Prop}{H G:Aa}{b m mb g gt p:Nat}{ws:ByteArray}{op:LO}{n:Option ReM}{w:ByteArray}{tl:List v_}{Q:QuM}{A C:LnM}{a1 a2 a3 a4 vQ vA vC:v_}
end
def ifT:v_→Nat
 | .iface t _=>t
 | _=>0
theorem It:∀{r c:ReM},Av r=Av c→r=c
 | .eps,c,h=>by cases c<;>first | rfl | exact absurd (congrArg ifT h) (by simp only[Av,ifT];decide)
 | .cls s,c,h=>by
   cases c<;>first | exact absurd (congrArg ifT h) (by simp only[Av,ifT];decide) | skip
   simp only[Av,Value.iface.injEq,true_and]at h;rw[Yr h]
 | .cat a b,c,h | .alt a b,c,h | .and_ a b,c,h | .minus a b,c,h=>by
   cases c<;>first | exact absurd (congrArg ifT h) (by simp only[Av,ifT];decide) | skip
   simp only[Av,Value.iface.injEq,Value.agg.injEq,Array.mk.injEq,AhM.injEq,true_and,and_true]at h;rw[It h.1,It h.2]
 | .star a,c,h=>by
   cases c<;>first | exact absurd (congrArg ifT h) (by simp only[Av,ifT];decide) | skip
   simp only[Av,Value.iface.injEq,Value.agg.injEq,Array.mk.injEq,AhM.injEq,true_and,and_true]at h;rw[It h]
theorem Uw{n b:Option ReM}(h:noV n=noV b):n=b:=by
 cases n with
 | none=>
   cases b with
   | none=>rfl
   | some r=>
     have⟨T,v,e⟩:=BP r;have a:Value.nilIface=Av r:=h;rw[e]at a;cases a
 | some r=>
   cases b with
   | none=>
     have⟨T,v,e⟩:=BP r;have a:Av r=Value.nilIface:=h;rw[e]at a;cases a
   | some c=>rw[It h]
theorem AaF{o o':LO}(h:o.s=o'.s):o=o':=by cases o<;>cases o'<;>first | rfl | exact absurd h (by decide)
theorem Z6{o o':CO}(h:o.s=o'.s):o=o':=by cases o<;>cases o'<;>first | rfl | exact absurd h (by decide)
theorem TC{H:Aa}{g:Nat}{e e':x_}{l a:List v_}(h:K_ H g e l)(k:K_ H g e' a):l=a:=by
 have b:=AgO.inj (h.symm.trans k);injection b with e2 e3 e4
 exact congrArg Array.toList e2
theorem Ih{B B':Nat→Prop}{H:Aa}:∀{t c:Tm} {v:v_},((t.isC=true∧c.isC=true)∨(t.isL=true∧c.isL=true))→X' B H t v→X' B' H c v→t=c
 | .txt ..,c,v,h,_,_ | .rx ..,c,v,h,_,_=>by rcases h with⟨h,-⟩ | ⟨h,-⟩<;>cases h
 | .nil,c,v,h,h1,h2=>by
   have m:v= .pointer none:=h1;subst m;cases c with
   | nil=>rfl
   | txt=>rcases h with⟨-,h⟩ | ⟨-,h⟩<;>cases h
   | rx=>rcases h with⟨-,h⟩ | ⟨-,h⟩<;>cases h
   | ca=>obtain⟨g,va,vb,e,-⟩:=h2;cases e
   | le=>obtain⟨g,vq,va,vb,e,-⟩:=h2;cases e
 | .ca p op n to back a b,c,v,h,h1,h2=>by
   obtain⟨g,va,vb,rfl,-,r,u,w,x,d⟩:=h1;cases c with
   | nil=>cases h2
   | txt=>cases h2
   | rx=>cases h2
   | le=>rcases h with⟨-,h⟩ | ⟨h,-⟩<;>cases h
   | ca y z J K A a' b'=>
     obtain⟨L,C,D,e,-,E,f,j,k,l⟩:=h2;cases e;have:=TC r E;simp only[cnL,AhM.injEq,Value.int.injEq,Value.string.injEq,true_and,and_true]at this;obtain⟨M,e2,F,rfl,rfl,rfl,rfl⟩:=this;obtain rfl:=Z6 e2;obtain rfl:=Uw F;obtain rfl:p=y:=by omega
     rw[Ih (.inl ⟨u,f⟩) x k,Ih (.inl ⟨w,j⟩) d l]
 | .le p op n s q a b,c,v,h,h1,h2=>by
   obtain⟨g,vq,va,vb,rfl,-,r,N,u,w,O,x,d⟩:=h1;cases c with
   | nil=>cases h2
   | txt=>cases h2
   | rx=>cases h2
   | ca=>rcases h with⟨h,-⟩ | ⟨-,h⟩<;>cases h
   | le y z J Q R a' b'=>
     obtain⟨L,P,C,D,e,-,E,G,f,j,I,k,l⟩:=h2;cases e;have:=TC r E;simp only[lnL,AhM.injEq,Value.int.injEq,Value.string.injEq,true_and,and_true]at this;obtain⟨M,e2,F,rfl,rfl,rfl,rfl⟩:=this;obtain rfl:=AaF e2;obtain rfl:=Uw F;obtain rfl:p=y:=by omega
     rw[Ih (.inl ⟨N,G⟩) O I,Ih (.inr ⟨u,f⟩) x k,Ih (.inr ⟨w,j⟩) d l]
def Hi(B:Nat→Prop)(H:Aa)(mb b:Nat):Prop:=∃md:Nat→Option v_,Dm ptE H mb md∧∀a v,md a=some v→∃t L,X' B H t (ptE a)∧t.isLe=true∧BY b t= .inr L∧M' B H L v
theorem Hi.up{B B':Nat→Prop}{H H':Aa}{mb b:Nat}(h:Hi B H mb b)(c:∀k,B k→B' k)(d:A_ B H H')(e:H'[mb]?=H[mb]?):Hi B' H' mb b:=by
 have⟨f,g,j⟩:=h;refine⟨f,g.agr (S:=fun k=>k=mb) (fun k l=>by rw[l];exact e) rfl,fun a v m=>?_⟩;have⟨t,L,n,p,q,r⟩:=j a v m;exact⟨t,L,n.up c d,p,q,r.up c d⟩
theorem Hi.put{B:Nat→Prop}{H:Aa}{mb b a:Nat}{f:Nat→Option v_}{v:v_}{t:Tm}{L:LnM}(g:Dm ptE H mb (put f a (some v)))(h:∀a v,f a=some v→∃t L,X' B H t (ptE a)∧t.isLe=true∧BY b t= .inr L∧M' B H L v)(j:X' B H t (ptE a))(k:t.isLe=true)(l:BY b t= .inr L)(m:M' B H L v):Hi B H mb b:=by
 refine⟨_,g,fun c u e=>?_⟩;by_cases d:c=a
 ·subst d;rw[Bw]at e;cases e;exact⟨t,L,j,k,l,m⟩
 ·rw[C4 d]at e;exact h c u e
structure PtI(B:Nat→Prop)(H:Aa)(b mb g gt:Nat)(T:Nat→Prop)(G:Aa)(Q:QuM)(A C:LnM)(vQ vA vC:v_):Prop where
 tB:∀k,B k→T k
 tn:∀k,T k→B k∨H.size≤k
 tl:∀k,T k→k<G.size
 gn:¬T g
 mbn:¬T mb
 mb0:mb<H.size
 g0:H.size≤g
 ax:o_ mb H G
 bg:K_ G g 70 [H_ gt,.nilIface,.nilIface,.pointer none,.pointer none,vQ,vA,vC]
 dn:Hi T G mb b
 qq:QuV T G Q vQ
 qa:M' T G A vA
 qc:M' T G C vC
section
variable{B T:Nat→Prop}{H G G':Aa}{b mb g gt:Nat}{Q:QuM}{A C:LnM}{vQ vA vC:v_}
theorem PtI.gs(k:PtI B H b mb g gt T G Q A C vQ vA vC):g≠mb:=by
 have:=k.mb0;have:=k.g0;omega
theorem PtI.check(k:PtI B H b mb g gt T G Q A C vQ vA vC)(a:o_ mb G G')(d:Hi (p_ T G G') G' mb b):PtI B H b mb g gt (p_ T G G') G' Q A C vQ vA vC:=by
 have e:A_ T G G':=a.to k.tl k.mbn;have f:=k.bg.lt;have l:=Ybq k.mb0 k.ax.sz;refine⟨fun j c=>.inl (k.tB j c),fun j c=>c.elim (k.tn j) fun h=>.inr (YbC k.ax.sz h.1),fun j c=>c.elim (fun h=>Ybq (k.tl j h) a.sz) fun h=>h.2,fun c=>c.elim k.gn fun h=>by omega,fun c=>c.elim k.mbn fun h=>by omega,k.mb0,k.g0,k.ax.trans a,k.bg.agr a.ag ⟨f,k.gs⟩,d,k.qq.up (fun _ h=>.inl h) e,k.qa.up (fun _ h=>.inl h) e,k.qc.up (fun _ h=>.inl h) e⟩
theorem PtI.put{Q':QuM}{A' C':LnM}{c d f:v_}(k:PtI B H b mb g gt T G Q A C vQ vA vC)(n:K_ G' g 70 [H_ gt,.nilIface,.nilIface,.pointer none,.pointer none,c,d,f])(a:A_ (fun j=>j≠g) G G')(hs:G'.size=G.size)
  (p:QuV T G Q' c) (q:M' T G A' d) (r:M' T G C' f):PtI B H b mb g gt T G' Q' A' C' c d f:=by
 have m:A_ T G G':=a.mono fun j l e=>k.gn (by rw[←e];exact l);refine⟨k.tB,k.tn,fun j l=>by rw[hs];exact k.tl j l,k.gn,k.mbn,k.mb0,k.g0,⟨k.ax.ag.trans (a.mono fun j l e=>?_),by rw[hs];exact k.ax.sz⟩,n,k.dn.up (fun _ h=>h) m (a mb (Ne.symm k.gs)),p.up (fun _ h=>h) m,q.up (fun _ h=>h) m,r.up (fun _ h=>h) m⟩;have:=k.g0;have:=l.1;omega
end
def LcR(B:Nat→Prop)(H:Aa)(b mb:Nat)(t:Tm)(u:v_)(H':Aa):Prop:=∃L,BY b t= .inr L∧o_ mb H H'∧M' (p_ B H H') H' L u∧Hi (p_ B H H') H' mb b
def LO.flt:LO→Bool
 | .copy | .key | .ins | .del | .cat | .keyed | .star=>true
 | _=>false
def noPl:Option ReM→Bool
 | some r=>r.plain
 | none=>true
def Tm.flt:Tm→Bool
 | .le _ op n _ _ x y=>op.flt&&x.flt&&y.flt&&noPl n
 | .nil=>true
 | _=>false
def LcP(b:Nat)(t:Tm):Prop:=t.flt=true→t.wf=true→t.isLe=true→t.sz≤2000→t.maxT→∀(B:Nat→Prop) (H:Aa) (m mb:Nat) (v:v_),(∀k,B k→k<H.size)→¬B mb→m≠mb→mb<H.size→Qi B H→K_ H m 60 [C_ b,.map (some mb)]→Hi B H mb b→X' B H t v→
    Ay prog 23 #[H_ m,v] H (LcR B H b mb t) (LnE mb H (BY b t))
theorem Uh{t:Tm}(h:t.isL=true)(a:t.isLe=false):t= .nil:=by cases t<;>first | rfl | (cases h;done) | (cases a;done)
theorem ND{α β:Type}(a:α)(f:α→F3 ⊕ β):N' (.inr a) f=f a:=rfl
theorem El{b p:Nat}{op:LO}{n:Option ReM}{w:ByteArray}{q x y:Tm}(h:op.flt=true):BY b (.le p op n w q x y)=N' (BY b x) fun A=>N' (BY b y) fun C=>N' (lnT b p op n w .nil A C) fun r=>.inr (.mk (.le p op n w q x y) r.1 r.2 .nil A C):=by
 have a:op.isLeft=false:=by cases op<;>first | (cases h;done) | rfl
 have c:op.isRight=false:=by cases op<;>first | (cases h;done) | rfl
 simp only[BY,a,c,qIf,Yao,if_false,ND]
section
variable{B T:Nat→Prop}{H G:Aa}{b m mb g gt p:Nat}{ws:ByteArray}{op:LO}{n:Option ReM}{w:ByteArray}{q x y:Tm}{vq vx vy:v_}{α:Type}
theorem Xy(q:op.flt=true)(fx:x.flt=true)(fy:y.flt=true)(I:LcP b x)(J:LcP b y)(K:ws=op.s)(M:x.wf=true)(N:y.wf=true)(zx:x.sz≤2000)(zy:y.sz≤2000)(mx:x.maxT)(my:y.maxT)(kx:x.isL=true)(ky:y.isL=true)
  (E:m≠mb) (hB:∀k,B k→k<H.size) (r:Qi B H) (F:K_ H m 60 [C_ b,.map (some mb)]) (tB:B gt) (bt:K_ H gt 74 [C_ p,.string ws,noV n,.string w,vq,vx,vy]) (O:X' B H x vx) (ty:X' B H y vy)
  {Y:LnM→LnM→F3 ⊕ α} {X:F3 ⊕ α} (t:N' (BY b x) (fun A=>N' (BY b y) fun C=>Y A C)=X)
  (a:PtI B H b mb g gt T G .nil .nil .nil (.pointer none) (.pointer none) (.pointer none)):
  Ay prog 43 #[H_ m,H_ g] G (fun _ G'=>∃T A C vA vC,BY b x= .inr A∧BY b y= .inr C∧PtI B H b mb g gt T G' .nil A C (.pointer none) vA vC) (LnE mb H X):=by
 have T_:=DJ K;have P:¬B mb:=fun h=>a.mbn (a.tB mb h);have fB:∀{T G Q A C vQ vA vC},PtI B H b mb g gt T G Q A C vQ vA vC→A_ B H G:=fun k=>k.ax.to hB P;have n4:¬ED op=4:=by cases op<;>first | (cases q;done) | decide
 have n5:¬ED op=5:=by cases op<;>first | (cases q;done) | decide
 refine Ay.of_vc func43 rfl (call43 _) (F_ ?_);refine B_ (a.bg.cellE rfl) trivial (Ao.cut [] (fun _:Unit=>[]) (fun _ G'=>G'=G) ?_ ?_)
 ·repeat ((conv=>whnf);first | refine Ao.run ?_ | refine F_ ?_ | refine B_ ((bt.agr (fB a) tB).cellE rfl) trivial ?_)
  refine Ag.ff (T_.t4.trans (a_ n4)) ?_
  repeat (refine Ao.run ?_)
  (conv=>whnf);exact⟨rfl,(),rfl,rfl⟩
 rintro _ _ R rfl;refine Ao.cut [] (fun _:Unit=>[]) (fun _ G=>∃T L v,BY b x= .inr L∧PtI B H b mb g gt T G .nil L .nil (.pointer none) v (.pointer none)) ?_ ?_
 ·cases d:x.isLe
  ·obtain rfl:x= .nil:=Uh kx d;obtain rfl:vx= .pointer none:=O
   repeat ((conv=>whnf);first | refine Ao.run ?_ | refine F_ ?_ | refine B_ ((bt.agr (fB a) tB).cellE rfl) trivial ?_ | refine La underlying53 ?_)
   exact⟨rfl,(),rfl,_,.nil,_,rfl,a⟩
  ·obtain⟨z,rfl⟩:∃z,vx=Value.pointer (some z):=by
    have:=O;cases x<;>first | cases d | skip
    obtain⟨g',_,_,_,e,-⟩:=this;exact⟨_,e⟩
   repeat ((conv=>whnf);first | refine Ao.run ?_ | refine F_ ?_ | refine B_ ((bt.agr (fB a) tB).cellE rfl) trivial ?_ | refine HO underlying53 ?_)
   refine Ab.mk (I fx M d zx mx _ _ m mb _ a.tl a.mbn E (Ybq a.mb0 a.ax.sz) (r.up a.tB (fB a)) (F.agr a.ax.ag ⟨F.lt,E⟩) a.dn (O.up a.tB (fB a))) ?_ ?_
   rotate_left
   ·intro y G h;exact h.of a.ax fun f S=>by rw[←t];exact DE S
   rintro u G3 ⟨L,U,a3,D,hd⟩;have l:=a.check a3 hd;obtain⟨pu,rfl⟩:=D.ptr;refine F_ ?_;refine Zak l.bg (by simp) rfl fun G4 V W Z=>?_;have k4:=l.put V W Z l.qq D l.qc;(conv=>whnf);exact⟨rfl,(),rfl,_,L,_,U,k4⟩
 clear a;rintro _ G2 a0 ⟨T2,A,vA,hA,c⟩;rw[hA]at t;replace t:N' (BY b y) (fun C=>_)=X:=t;refine Ao.cut [] (fun _:Unit=>[]) (fun _ G=>∃T L v,BY b y= .inr L∧PtI B H b mb g gt T G .nil A L (.pointer none) vA v) ?_ ?_
 ·cases d:y.isLe
  ·obtain rfl:y= .nil:=Uh ky d;obtain rfl:vy= .pointer none:=ty
   repeat ((conv=>whnf);first | refine Ao.run ?_ | refine F_ ?_ | refine B_ ((bt.agr (fB c) tB).cellE rfl) trivial ?_ | refine La underlying53 ?_)
   exact⟨rfl,(),rfl,_,.nil,_,rfl,c⟩
  ·obtain⟨z,rfl⟩:∃z,vy=Value.pointer (some z):=by
    have:=ty;cases y<;>first | cases d | skip
    obtain⟨g',_,_,_,e,-⟩:=this;exact⟨_,e⟩
   repeat ((conv=>whnf);first | refine Ao.run ?_ | refine F_ ?_ | refine B_ ((bt.agr (fB c) tB).cellE rfl) trivial ?_ | refine HO underlying53 ?_)
   refine Ab.mk (J fy N d zy my _ _ m mb _ c.tl c.mbn E (Ybq c.mb0 c.ax.sz) (r.up c.tB (fB c)) (F.agr c.ax.ag ⟨F.lt,E⟩) c.dn (ty.up c.tB (fB c))) ?_ ?_
   rotate_left
   ·intro y G h;exact h.of c.ax fun f S=>by rw[←t];exact DE S
   rintro u G3 ⟨L,U,a3,D,hd⟩;have j:=c.check a3 hd;obtain⟨pu,rfl⟩:=D.ptr;refine F_ ?_;refine Zak j.bg (by simp) rfl fun G4 V W Z=>?_;have k4:=j.put V W Z j.qq j.qa D;(conv=>whnf);exact⟨rfl,(),rfl,_,L,_,U,k4⟩
 clear c;rintro _ G3 a5 ⟨T3,C,vC,hC,l⟩
 repeat ((conv=>whnf);first | refine Ao.run ?_ | refine F_ ?_ | refine B_ ((bt.agr (fB l) tB).cellE rfl) trivial ?_)
 refine Ag.ff (T_.t5.trans (a_ n5)) ?_
 repeat (refine Ao.run ?_)
 (conv=>whnf);exact⟨T3,A,C,vA,vC,hA,hC,l⟩
end
theorem AcO:Ej prog 58 53 24 (.pointer none):=⟨rfl,rfl⟩
theorem AcU:RR prog 53 74:=⟨rfl,_,rfl,by decide⟩
theorem YG{B:Nat→Prop}{H:Aa}{t:Tm}{a:Nat}(h:X' B H t (ptE a))(b:t.isLe=true):Fc H 74 a:=by
 obtain⟨g,p,op,n,s,q,x,y,vq,vx,vy,rfl,e,d,c,-⟩:=AcJ h b;cases e;exact⟨_,c⟩
theorem Ge{b p:Nat}{s v:ReM}{r:ReM×ReM}(h:typ b p s v= .inr r):r=(s,v):=(YK h).1
theorem Lz:∀{t:Tm} {b:Nat} {L:LnM},t.flt=true→t.wf=true→t.isLe=true→BY b t= .inr L→L.s.nodes≤t.sz∧L.v.nodes≤t.sz
 | .txt ..,b,L,_,_,h,_ | .rx ..,b,L,_,_,h,_ | .ca ..,b,L,_,_,h,_ | .nil,b,L,_,_,h,_=>by cases h
 | .le p op n w q x y,b,L,hf,hw,_,h=>by
   unfold Tm.flt at hf;simp only[h_]at hf;obtain⟨⟨⟨d,u⟩,z⟩,-⟩:=hf;rw[El d]at h;have⟨A,B,h⟩:=Bm h;have⟨C,D,h⟩:=Bm h;have⟨r,c,h⟩:=Bm h;cases h;unfold Tm.wf at hw;simp only[h_]at hw;obtain⟨⟨⟨a,E⟩,j⟩,k⟩:=hw;have g:=fun l=>Lz (t:=x) u j l B;have m:=fun l=>Lz (t:=y) z k l D;rw[NY];show r.1.nodes≤_∧r.2.nodes≤_;cases op
   case swap | left | right | alt | default_ | chain=>cases d
   case copy | key=>
    simp only[lnT]at c;obtain rfl:=Ge c;obtain⟨r,rfl⟩:∃r,n=some r:=by cases n<;>first | exact⟨_,rfl⟩ | cases a
    simp only[Ey,nO,Option.getD];exact⟨by omega,by omega⟩
   case ins=>
    simp only[lnT]at c;obtain rfl:=Ge c;rw[Nl];simp only[LO.isI,if_true,ReM.nodes];exact⟨by omega,by omega⟩
   case del=>
    simp only[lnT]at c;have⟨G,e,f⟩:=Bm c;obtain⟨_,-,F⟩:=Bm f;cases F;obtain rfl:=Ge e;obtain⟨r,rfl⟩:∃r,n=some r:=by cases n<;>first | exact⟨_,rfl⟩ | cases a
    simp only[Ey,nO,Option.getD,ReM.nodes];exact⟨by omega,by omega⟩
   case cat=>
    simp only[lnT,Zw]at c;obtain⟨_,-,e⟩:=Bm c;obtain⟨_,-,f⟩:=Bm e;obtain rfl:=Ge f;simp at a;have g:=g a.1;have m:=m a.2;simp only[ReM.nodes];exact⟨by omega,by omega⟩
   case star | keyed=>
    simp only[lnT]at c;obtain⟨_,-,e⟩:=Bm c;obtain⟨_,-,f⟩:=Bm e;obtain rfl:=Ge f;have g:=g a;simp only[ReM.nodes];exact⟨by omega,by omega⟩
theorem Ly:∀{t:Tm} {b:Nat} {L:LnM},t.flt=true→BY b t= .inr L→L.s.plain=true∧L.v.plain=true
 | .txt ..,b,L,h,_ | .rx ..,b,L,h,_ | .ca ..,b,L,h,_=>by cases h
 | .nil,b,L,_,h=>by cases h;exact⟨rfl,rfl⟩
 | .le p op n w q x y,b,L,hf,h=>by
   unfold Tm.flt at hf;simp only[h_]at hf;obtain⟨⟨⟨c,l⟩,m⟩,g⟩:=hf;rw[El c]at h;have⟨A,u,h⟩:=Bm h;have⟨C,z,h⟩:=Bm h;have⟨r,d,h⟩:=Bm h;cases h;have j:=Ly l u;have k:=Ly m z;have a:(nO n).plain=true:=by cases n<;>first | rfl | exact g
   show r.1.plain=true∧r.2.plain=true;cases op
   case swap | left | right | alt | default_ | chain=>cases c
   case copy | key=>
    obtain rfl:=Ge d;exact⟨a,a⟩
   case ins=>
    obtain rfl:=Ge d;exact⟨rfl,Lh _⟩
   case del=>
    have⟨D,e,f⟩:=Bm d;obtain⟨_,-,B⟩:=Bm f;cases B;obtain rfl:=Ge e;exact⟨a,rfl⟩
   case cat=>
    obtain⟨_,-,e⟩:=Bm d;obtain⟨_,-,f⟩:=Bm e;obtain rfl:=Ge f;simp only[ReM.plain,j.1,j.2,k.1,k.2];exact⟨rfl,rfl⟩
   case star | keyed=>
    obtain⟨_,-,e⟩:=Bm d;obtain⟨_,-,f⟩:=Bm e;obtain rfl:=Ge f;exact j
theorem o_.two{mb g:Nat}{H G G':Aa}(h:o_ mb H G)(k:o_ g G G')(b:H.size≤g):o_ mb H G':=⟨h.ag.trans (k.ag.mono fun j a=>⟨Ybq a.1 h.sz,by have:=a.1;omega⟩),YbC h.sz k.sz⟩
theorem LnE.two{mb g:Nat}{H G G':Aa}{α β:Type}{x:F3 ⊕ α}{X:F3 ⊕ β}{y:v_}(h:LnE g G x y G')(a:o_ mb H G)(b:H.size≤g)(d:∀f,x= .inl f→X= .inl f):LnE mb H X y G':=by
 have⟨c,p,w,e,j,k,l⟩:=h;exact⟨c,p,w,d _ e,j,a.two k b,l⟩
theorem lOne{b:Nat}(U:1≤b)(V:b≤4096){p:Nat}{op:LO}{n:Option ReM}{w:ByteArray}{q x y:Tm}(ay:LcP b x)(az:LcP b y):LcP b (.le p op n w q x y):=by
 intro b4 I _ hz b5 B H m mb v W Z mm a0 a5 N dn ht;have a6:=ht;obtain⟨g,vq,vx,vy,rfl,hg,z,kq,kx,ky,tq,tx,ty⟩:=ht;obtain⟨ws,D⟩:∃ws,ws=op.s:=⟨_,rfl⟩;replace z:K_ H g 74 [C_ p,.string ws,noV n,.string w,vq,vx,vy]:=by rw[D];exact z
 have T_:=DJ D;have E:=b4;unfold Tm.flt at E;simp only[h_]at E;obtain⟨⟨⟨O,fx⟩,fy⟩,b6⟩:=E;have bx:=I;unfold Tm.wf at I;simp only[h_]at I;obtain⟨⟨⟨d,bz⟩,a7⟩,a8⟩:=I;have⟨hp,hw,mq,mx,my⟩:=b5;have P:=hz;rw[NY]at P;have a9:∀r,n=some r→r.nodes≤2000:=fun r hr=>by
  subst hr;simp only[Ey]at P;omega
 have ab:∀r,n=some r→r.plain=true:=fun r hr=>by subst hr;exact b6
 have ad:ED op=2→(Cz (byN w)).nodes≤2000:=fun h=>by
  have:op= .ins:=by cases op<;>first | rfl | cases h
  subst this;rw[Nl];simp only[LO.isI,if_true]at P;omega
 have hn:ED op=0∨ED op=1∨ED op=3→n.isSome=true:=fun h=>by
  cases op<;>first | exact d | (exact absurd h (by decide))
 have ae:4≤ED op→x.isLe=true:=fun h=>by
  cases op<;>first | exact d | (simp at d;exact d.1) | (simp at d;exact d.2) | (exact absurd h (by decide))
 have ah:9≤ED op→y.isLe=true:=fun h=>by
  cases op<;>first | (simp at d;exact d.2) | (exact absurd h (by decide))
 obtain⟨X,k⟩:∃X,BY b (.le p op n w q x y)=X:=⟨_,rfl⟩;have J:=k;rw[El O]at k;have ai:=dn;have⟨md,b7,hd⟩:=dn;have aj:Ay prog 23 #[H_ m,H_ g] H (fun u H'=>∃L,X= .inr L∧o_ mb H H'∧M' (p_ B H H') H' L u∧Hi (p_ B H H') H' mb b) (LnE mb H X):=by
  refine Ay.of_vc func23 rfl (call23 _) (F_ ?_);refine lT (N.cellE rfl) ?_;refine X9 AcO AcU b7 ⟨_,z⟩ (fun a v hv=>by obtain⟨t,L,c,k2,-⟩:=hd a v hv;exact⟨YG c k2,trivial⟩) trivial trivial ?_;cases b8:md g with
  | some v'=>
    have⟨t',L,c,k2,k3,k4⟩:=hd g v' b8;have et:Tm.le p op n w q x y=t':=Ih (.inr ⟨rfl,by cases t'<;>first | rfl | cases k2⟩) a6 c;subst et
    repeat (refine Ao.run ?_)
    (conv=>whnf);exact⟨L,by rw[←J];exact k3,.refl,k4.up (fun _ h=>.inl h) (A_.refl _ _),ai.up (fun _ h=>.inl h) (A_.refl _ _) rfl⟩
  | none=>
    repeat (refine Ao.run ?_)
    refine Ah underlying70 rfl _ rfl [H_ g,.nilIface,.nilIface,.pointer none,.pointer none,.pointer none,.pointer none,.pointer none] (by kernel_rfl) (BC [H_ g,.nilIface,.nilIface,.pointer none,.pointer none,.pointer none,.pointer none,.pointer none] rfl ?_);intro l H1 hq b9 K ak;have a1:A_ (D_ H) H H1:=ak.mono fun j F=>by unfold D_ at F;omega
    have k0:PtI B H b mb l g B H1 .nil .nil .nil (.pointer none) (.pointer none) (.pointer none):=
     ⟨fun _ h=>h,fun _ h=>.inl h,fun j F=>Ae a1 (W j F),fun h=>by have:=W l h;omega,Z,a0,by omega,.old a1,K,ai.up (fun _ h=>h) (a1.mono W) (a1 mb a0),rfl,rfl,rfl⟩
    clear hq b9 K ak;refine Ab.mk (Xy (α:=LnM) (Y:=fun A C=>N' (lnT b p op n w .nil A C) fun r=>.inr (LnM.mk (.le p op n w q x y) r.1 r.2 .nil A C)) O fx fy ay az D a7 a8 (by omega) (by omega) mx my kx ky mm W a5 N hg z tx ty k k0) ?_ (fun _ _ h=>h);rintro _ G1 ⟨T,A,C,vA,vC,hA,hC,c⟩;rw[hA]at k;replace k:N' (BY b y) (fun C=>_)=X:=k;rw[hC]at k;replace k:N' (lnT b p op n w .nil A C) (fun r=>_)=X:=k;have Q:4≤ED op→A≠ .nil:=fun h=>by
     obtain⟨_,_,_,_,_,e⟩:=TE hA (ae h);rw[e];exact nofun
    have bd:9≤ED op→C≠ .nil:=fun h=>by
     obtain⟨_,_,_,_,_,e⟩:=TE hC (ah h);rw[e];exact nofun
    have pA:=Ly fx hA;have pC:=Ly fy hC;have R:4≤ED op→A.s.nodes≤x.sz∧A.v.nodes≤x.sz:=fun h=>Lz fx a7 (ae h) hA;have sC:9≤ED op→C.s.nodes≤y.sz∧C.v.nodes≤y.sz:=fun h=>Lz fy a8 (ah h) hC;have aB:A_ B H G1:=c.ax.to W Z;have be:m≠l:=by have:=N.lt;have:=c.g0;omega
    have kI:LnI T G1 b m mb l g p ws n w [vq,vx,vy] .nil A C .nilIface .nilIface (.pointer none) (.pointer none) (.pointer none) vA vC:=
     ⟨c.tl,c.gn,be,c.tB g hg,c.bg,z.agr aB hg,N.agr c.ax.ag ⟨N.lt,mm⟩,a5.up c.tB aB,c.qq,c.qa,c.qc⟩
    have M:=z.agr aB hg;clear k0;refine Ao.cut [] (fun _:Unit=>[]) (fun _ G=>LnR T G1 l g (.pointer none) vA vC (lnT b p op n w .nil A C) (.tuple #[]) G) ?_ ?_
    ·repeat ((conv=>whnf);first | refine Ao.run ?_ | refine F_ ?_ | refine B_ (M.cellE rfl) trivial ?_)
     cases op<;>first | (cases O;done) | skip
     all_goals
      first | refine Ag.tt (T_.t0.trans rfl) ?_ | (refine Ag.ff (T_.t0.trans rfl) ?_;(repeat (refine Ao.run ?_));(conv=>whnf);first | refine Ag.tt (T_.t1.trans rfl) ?_ | (refine Ag.ff (T_.t1.trans rfl) ?_;(repeat (refine Ao.run ?_));(conv=>whnf);first | refine Ag.tt (T_.t3.trans rfl) ?_ | (refine Ag.ff (T_.t3.trans rfl) ?_;(repeat (refine Ao.run ?_));(conv=>whnf);first | refine Ag.tt (T_.t2.trans rfl) ?_ | (refine Ag.ff (T_.t2.trans rfl) ?_;(repeat (refine Ao.run ?_));(conv=>whnf);first | refine Ag.tt (T_.t10.trans rfl) ?_ | (refine Ag.ff (T_.t10.trans rfl) ?_;(repeat (refine Ao.run ?_));(conv=>whnf);first | refine Ag.tt (T_.t11.trans rfl) ?_ | (refine Ag.ff (T_.t11.trans rfl) ?_;(repeat (refine Ao.run ?_));(conv=>whnf);first | refine Ag.tt (T_.t9.trans rfl) ?_ | (refine Ag.ff (T_.t9.trans rfl) ?_;(repeat (refine Ao.run ?_));(conv=>whnf);first | refine Ag.tt (T_.t8.trans rfl) ?_ | (refine Ag.ff (T_.t8.trans rfl) ?_;(repeat (refine Ao.run ?_));(conv=>whnf);first | refine Ag.tt (T_.t7.trans rfl) ?_ | refine Ag.ff (T_.t7.trans rfl) ?_))))))))
      repeat (refine Ao.run ?_)
      (conv=>whnf)
      first
      | refine Ab.mk (QI U V hp D hw (by decide) (fun h=>hn (by decide)) a9 ab ad kI) ?_ ?_
      | refine Ab.mk (QI U V hp D hw (by decide) (fun h=>absurd rfl h) a9 ab ad kI) ?_ ?_
      | refine Ab.mk (QK (op:=.keyed) U V hp (by decide) pA.1 pA.2 (Q (by decide)) (by have:=R (by decide);simp only[ReM.nodes];omega) (by have:=R (by decide);simp only[ReM.nodes];omega) kI) ?_ ?_
      | refine Ab.mk (QK (op:=.star) U V hp (by decide) pA.1 pA.2 (Q (by decide)) (by have:=R (by decide);simp only[ReM.nodes];omega) (by have:=R (by decide);simp only[ReM.nodes];omega) kI) ?_ ?_
      | refine Ab.mk (Xx U V hp D (by decide) (by simp only[ReM.plain,pA.1,pC.1];rfl) ⟨pA.2,pC.2⟩ (Q (by decide)) (bd (by decide)) (by have:=R (by decide);have:=sC (by decide);simp only[ReM.nodes];omega) (by have:=R (by decide);have:=sC (by decide);simp only[ReM.nodes];omega) kI) ?_ ?_
      rotate_left
      ·intro y G h;exact h.two c.ax c.g0 fun f hf=>by rw[←k];exact DE hf
      intro u G h;(conv=>whnf);exact⟨rfl,(),rfl,h⟩
    rintro _ G2 bf ⟨s,v',va,vb,hx,x2,am,bh,bj⟩;rw[hx]at k;replace k: .inr (LnM.mk (.le p op n w q x y) s v' .nil A C)=X:=k;have ao:o_ mb H G2:=c.ax.two x2 c.g0;have S:A_ T G1 G2:=x2.to c.tl c.gn;have bn:=N.agr ao.ag ⟨N.lt,mm⟩;have ap:=M.agr S (c.tB g hg);have g0:=c.g0;have s1:=c.ax.sz;have s2:=x2.sz;have dU:Hi (p_ T G1 G2) G2 mb b:=c.dn.up (fun _ h=>.inl h) S (x2.ag mb ⟨by omega,by omega⟩);have⟨bo,bp,aq⟩:=dU
    repeat ((conv=>whnf);first | refine Ao.run ?_ | refine F_ ?_ | refine B_ (bn.cellE rfl) trivial ?_)
    refine AeO AcO AcU bp ⟨_,ap⟩ (fun a v hv=>by obtain⟨t,L,bq,br,-⟩:=aq a v hv;exact YG bq br) ?_;intro G3 bu a3 z3;(conv=>whnf);have c5:=am.lt;have bv:∀j,(p_ T G1 G2 j∨j=l)→j≠mb:=fun j F=>by
     rcases F with(h | h) | h
     ·exact fun e=>c.mbn (by rw[←e];exact h)
     ·omega
     ·omega
    have Uf:∀j,(p_ T G1 G2 j∨j=l)→p_ B H G3 j:=fun j F=>by
     rcases F with(h | h) | h
     ·have:=c.tl j h;rcases c.tn j h with h' | h'
      ·exact .inl h'
      ·exact .inr ⟨h',by omega⟩
     ·exact .inr ⟨by omega,by omega⟩
     ·exact .inr ⟨by omega,by omega⟩
    have aU:A_ (fun j=>p_ T G1 G2 j∨j=l) G2 G3:=a3.mono bv;have au:X' (fun j=>p_ T G1 G2 j∨j=l) G2 (.le p op n w q x y) (H_ g):=a6.up (fun j F=>.inl (.inl (c.tB j F))) (aB.trans (S.mono c.tB));have aw:M' (fun j=>p_ T G1 G2 j∨j=l) G2 (LnM.mk (.le p op n w q x y) s v' .nil A C) (H_ l):=
     ⟨l,_,va,vb,(.pointer none),vA,vC,rfl,.inr rfl,am,au,rfl,bh.up (fun _ h=>.inl h) (A_.refl _ _),bj.up (fun _ h=>.inl h) (A_.refl _ _),c.qq.up (fun _ h=>.inl (.inl h)) S,c.qa.up (fun _ h=>.inl (.inl h)) S,c.qc.up (fun _ h=>.inl (.inl h)) S⟩
    have bw:∀a v,bo a=some v→∃t L,X' (fun j=>p_ T G1 G2 j∨j=l) G3 t (ptE a)∧t.isLe=true∧BY b t= .inr L∧M' (fun j=>p_ T G1 G2 j∨j=l) G3 L v:=fun a v hv=>by
     have⟨t,L,c1,c2,c3,c4⟩:=aq a v hv;exact⟨t,L,(c1.up (fun _ h=>.inl h) (A_.refl _ _)).up (fun _ h=>h) aU,c2,c3,(c4.up (fun _ h=>.inl h) (A_.refl _ _)).up (fun _ h=>h) aU⟩
    exact⟨_,k.symm,ao.trans ⟨a3.mono fun j F=>F.2,by omega⟩,aw.up Uf aU,(Hi.put bu bw (au.up (fun _ h=>h) aU) rfl (J.trans k.symm) (aw.up (fun _ h=>h) aU)).up Uf (A_.refl _ _) rfl⟩
 refine aj.mono ?_ ?_
 ·rintro u H' ⟨L,h,h'⟩;exact⟨L,by rw[J];exact h,h'⟩
 ·intro y H' h;rw[J];exact h
theorem S4{b:Nat}(a:1≤b)(c:b≤4096):∀t:Tm,LcP b t
 | .txt .. | .rx .. | .ca .. | .nil=>fun _ _ h=>by cases h
 | .le p op n w q x y=>lOne a c (S4 a c x) (S4 a c y)
theorem X0{v:v_}{H:Aa}:AZ prog 21 #[.iface 53 v] H (.tuple #[v,.bool true]):=by
 refine Al.of_vc func21 rfl (call21 _) (RA ?_);(conv=>whnf);exact⟨rfl,A_.refl _ _⟩
abbrev AcN(q2 q3:Nat)(v:v_)(l:List v_):List Pc:=[pB 24 q2 [v],pB 27 q3 l]
theorem AaE{H:Aa}{a b:Nat}{K:Aa→Prop}(k:K H):BX prog 22 #[H_ a,H_ b] .returning .returning H K:=by
 refine BX.mk (R:=fun H'=>H'=H) (Cj (R:=fun H'=>H'=H) func22 rfl ⟨⟨_,rfl⟩,rfl,rfl,rfl,rfl,rfl⟩ .ret rfl ?_) (fun H' h=>by rw[h];exact k);(conv=>whnf);refine⟨rfl,?_⟩;refine Kt underlying20 ?_;(conv=>whnf)
theorem Oz{B:Nat→Prop}{H0 H H':Aa}{ps:List Pc}{e:Nat}(a:E_ B H0 H ps)(x:o_ e H H')(f:¬B e)(m:∀p∈ps,∃g b l,p=pB g b l∧b≠e):E_ B H0 H' ps:=by
 refine⟨a.old.trans (x.to (fun k j=>a.up j) f),a.lt0,YbC a.size x.sz,fun p d=>?_,fun p d k j=>?_,a.dis⟩
 ·obtain⟨g,b,l,rfl,n⟩:=m p d;have h:=a.oks _ d;have c:K_ H b g l:=h;exact c.agr x.ag ⟨c.lt,n⟩
 ·have:=a.rng p d k j;exact⟨this.1,Ybq this.2 x.sz⟩
theorem Vt{b:Nat}(C:1≤b)(D:b≤4096){t:Tm}(E:t.flt=true)(hw:t.wf=true)(F:t.isLe=true)(hz:t.sz≤2000)(G:t.maxT){B:Nat→Prop}{H:Aa}{v:v_}(j:∀k,B k→k<H.size)(n:Qi B H)(ht:X' B H t v){L:LnM}(hL:BY b t= .inr L):
  Al prog 10 #[.iface 53 v,C_ b] H fun R H'=>A_ (D_ H) H H'∧∃v,R= .tuple #[v,ftA 0 0 nx]∧M' (p_ B H H') H' L v:=by
 refine Al.of_rest func10 rfl (call10 _) (Bu.seq (Aw (.pointer none) [.pointer none] rfl rfl ?_));intro I H1 J K q M;have st1:=(St.nil H).box J K q M;refine Aw (AI 0 0) (Ad 0 0) Bn rfl ?_;intro N H2 O P r Q;have S:E_ (D_ H) H H2 (AcN I N (.pointer none) (Y' 0 0 nx)):=st1.box O P r Q;refine Bu.seq ?_;have d1:decide ((b:Int)<1)=false:=m_;have d2:decide ((4096:Int)<(b:Int))=false:=m_
 repeat ((conv=>whnf);first | rw[d1] | rw[d2] | refine Af.run ?_ | refine Aa3 underlying37 ?_)
 refine Bu.seq (Ak X0 fun H3 a3=>?_);have d:=S.call a3;refine Bu.seq ?_
 repeat (refine Af.run ?_)
 refine Bu.defer_ ⟨rfl,rfl,rfl,⟨_,rfl⟩,rfl,rfl⟩ (fun vs w=>call22 _ w) (⟨rfl,?_⟩);refine QW (enc:=ptE) ?_;intro mb Hm T a7 U V;have am:=V.new T;have W:=d.call am;refine Ah underlying60 rfl _ rfl [C_ b,.map (some mb)] (by kernel_rfl) (BC [C_ b,.map (some mb)] rfl ?_);intro m H4 X a8 Y Z;have a4:=Z.new X;have e:=W.call a4;have b2:=(d.blk 0 rfl).lt;have b3:=(d.blk 1 rfl).lt;have z3:=Ap d.old;have x:=U.agr a4 (show D_ Hm mb by unfold D_;omega);have a0:∀k,B k→k<H4.size:=fun k f=>e.up (j k f);have g:¬D_ H mb:=fun h=>by unfold D_ at h;omega
 have a5:∀p∈AcN I N (.pointer none) (Y' 0 0 nx),∃e' b l,p=pB e' b l∧b≠mb:=fun p hp=>by
  rcases Ybe.1 hp with rfl | hp
  ·exact⟨_,_,_,rfl,by omega⟩
  ·obtain rfl:=V_.1 hp;exact⟨_,_,_,rfl,by omega⟩
 refine Ab.mk (S4 C D t E hw F hz G B H4 m mb v a0 (fun h=>g (j mb h)) (by omega) (by omega) (n.up (fun _ h=>h) (e.old.mono j)) Y ⟨_,x,fun a v h=>by cases h⟩ (ht.up (fun _ h=>h) (e.old.mono j))) ?_ ?_
 rotate_left
 ·rintro y H5 ⟨c,p,w,hx,-⟩;rw[hL]at hx;cases hx
 ·rintro u H5 ⟨L',z,x5,hu,-⟩;rw[hL]at z;cases z;obtain⟨pu,rfl⟩:=hu.ptr;have a6:=Oz e x5 g a5;have z5:=x5.sz;refine Ah underlying27 rfl _ rfl (Ad 0 0) rfl (Nf a6 0 rfl (by simp) rfl fun H7 s7 j7 n7=>(AX (cs:=Y' 0 0 nx) s7 1 rfl rfl (J_ _) rfl fun H8 s8 j8 n8=>(AaE (B_ ((s8.blk 0 rfl).cellE rfl) trivial (L_ (cs:=Y' 0 0 nx) (EI (s8.blk 1 rfl)) trivial (⟨s8.old,_,rfl,?_⟩))))));have h4:H4.size≤H8.size:=by omega
  have A:∀k,p_ B H4 H5 k→k≠I∧k≠N:=fun k f=>by
   rcases f with h | h
   ·have:=j k h;omega
   ·omega
  refine hu.up (fun k f=>?_) (A_.trans (j7.mono fun k f=>(A k f).1) (j8.mono fun k f=>(A k f).2));rcases f with h | h
  ·exact .inl h
  ·exact .inr ⟨by omega,by omega⟩
theorem Af1{H:Aa}(h:GG prog H){g:Nat}(b:prog.globalNamed Rj=some g)(w:y_):g<H.size:=by
 have a:=h {w with heap:=H} rfl;unfold TabIs World.var? at a;rw[b]at a;simp only[YbG]at a;apply Classical.byContradiction;intro c;rw[Yae (by omega)]at a;simp at a
structure NB(H:Aa):Prop where
 rank:KM H
 esc:E5 H
 pow:GG prog H
 glt:∀g,prog.globalNamed Rj=some g→g<H.size
theorem NB.agr{H H':Aa}(h:NB H)(a:A_ (D_ H) H H'):NB H':=⟨h.rank.agr a,h.esc.agr a,h.pow.agr a,fun g b=>Ae a (h.glt g b)⟩
structure Ad3(t:ByteArray)(b:Nat)(tm:Tm)(L:LnM):Prop where
 b1:1≤b
 b2:b≤4096
 rd:Yf t= .inr tm
 fl:tm.flt=true
 wf:tm.wf=true
 le:tm.isLe=true
 sz:tm.sz≤2000
 mx:tm.maxT
 ck:BY b tm= .inr L
theorem AcV{H:Aa}{t:ByteArray}{b:Nat}{A:Tm}{L:LnM}(z:NB H)(k:Ad3 t b A L):Al prog 4 #[.string t,C_ b] H fun R H'=>A_ (D_ H) H H'∧∃v,R= .tuple #[v,ftA 0 0 nx]∧M' (fun j=>j<H'.size) H' L v:=by
 refine Al.of_vc func4 rfl (call4 _) (Aw (AI 0 0) (Ad 0 0) Bn rfl ?_);intro d H1 f m n p;have B:=(St.nil H).box f m n p;refine Aj.mk (Af7 (z.rank.agr B.old) (z.esc.agr B.old)) ?_;rintro v H2 ⟨a2,q⟩;have C:=B.call a2;rw[k.rd]at q;obtain⟨D,x,rfl,r⟩:=q;obtain⟨T0,N,rfl⟩:=r.ifc D.1;refine Aw (AI 0 0) (Ad 0 0) Bn rfl ?_;intro q5 H3 E F G u;have S:=C.box E F G u;have T:=C.blk 0 rfl;refine AX (cs:=Ad 0 0) S 1 rfl rfl (J_ _) rfl fun H4 I U n4=>?_
 repeat ((conv=>whnf);first | refine Af.run ?_ | refine L_ (cs:=Ad 0 0) (AW (I.blk 1 rfl)) trivial ?_ | refine Ah underlying27 rfl _ rfl (Ad 0 0) rfl ?_)
 refine GP (c:=0) (e:=0) (c':=0) (e':=0) (by decide) (by decide) (by decide) (by decide) ?_;have w:A_ (D_ H2) H2 H4:=(u.mono fun k a=>by unfold D_ at a;omega).trans (U.mono fun k a=>by unfold D_ at a;omega);have z2:=Ap C.old;have V:=Ap w;have W:∀k,(k<H2.size∧k≠d)→k<H4.size:=fun k a=>by omega
 have J:TmI (fun k=>k<H2.size∧k≠d) H4 A (.iface T0 N):=r.upT (B':=fun k=>k<H2.size∧k≠d) (fun k ty l K a X=>⟨a,by
  rintro rfl;have:=AgO.inj (T.symm.trans X);injection this with _ this
  rcases K with rfl | rfl<;>cases this⟩) (w.mono fun k a=>a.1)
 have y:Qi (fun k=>k<H2.size∧k≠d) H4:=⟨z.pow.agr I.old,fun g D=>by have:=z.glt g D;omega⟩;have⟨vx,M,e⟩:=J;replace e:Value.iface T0 N= .iface 53 vx:=by
  rw[e];have:=k.le;cases A<;>first | (cases this;done) | rfl
 rw[e]
 repeat (refine Af.run ?_)
 refine Aj.mk (Vt k.b1 k.b2 k.fl k.wf k.le k.sz k.mx W y M k.ck) ?_;rintro R H5 ⟨O,v,rfl,P⟩;have Y:=I.call O;obtain⟨pv,rfl⟩:=P.ptr;refine AX (cs:=Y' 0 0 nx) Y 0 rfl rfl (J_ _) rfl fun H6 Q Z n6=>(L_ (cs:=Y' 0 0 nx) (EI (Q.blk 0 rfl)) trivial ?_);have z5:=Ap O;refine⟨Q.old,_,rfl,?_⟩;refine(P.up (B':=fun k=>k<H6.size∧k≠d) (fun k a=>?_) (A_.refl _ _)).up (fun k a=>a.1) (Z.mono fun k a=>a.2);rcases a with h | h
 ·exact⟨by omega,h.2⟩
 ·exact⟨by omega,by omega⟩
section
attribute [local irreducible] AN Bb AY EA
abbrev xK:ReM:=.cat (.cls (AJ 97 122)) (.star (.cls (AJ 97 122)))
abbrev xE:ReM:=.cls (AJ 61 61)
abbrev xD:ReM:=.star (.cls (AJ 48 57))
abbrev xT:ReM:=.cat (.star (.cls (AJ 65 90))) (.cls (AJ 59 59))
abbrev xI:ReM:=Cz [59]
abbrev xKE:ReM:=.cat xK xE
abbrev xKD:ReM:=.cat xKE xD
abbrev xS4:ReM:=.cat xKD xT
abbrev xS:ReM:=.cat xS4 .eps
abbrev xV4:ReM:=.cat xKD .eps
abbrev xV:ReM:=.cat xV4 xI
def tK:List (List Nat):=[[1,1,1,1,1,2],[1,1,1,1,1,1],[1,1,1,1,1,3],[1,1,1,1,1,3]]
def tE:List (List Nat):=[[1,1,1,2,1,1],[1,1,1,1,1,1],[1,1,1,1,1,1]]
def tD:List (List Nat):=[[1,2,1,1,1,1],[1,1,1,1,1,1],[1,2,1,1,1,1]]
def tT:List (List Nat):=[[1,1,2,1,3,1],[1,1,1,1,1,1],[1,1,1,1,1,1],[1,1,2,1,3,1]]
def tIn:List (List Nat):=[[1,1,2,1,1,1],[1,1,1,1,1,1],[1,1,1,1,1,1]]
def tNo:List (List Nat):=[[1,1,1,1,1,1],[1,1,1,1,1,1]]
def tKE:List (List Nat):=[[1,1,1,1,1,2],[1,1,1,1,1,1],[1,1,1,3,1,4],[1,1,1,1,1,1],[1,1,1,3,1,4]]
def tKD:List (List Nat):=[[1,1,1,1,1,2],[1,1,1,1,1,1],[1,1,1,3,1,4],[1,5,1,1,1,1],[1,1,1,3,1,4],[1,5,1,1,1,1]]
def tSr:List (List Nat):=[[1,1,1,1,1,2],[1,1,1,1,1,1],[1,1,1,3,1,4],[1,5,6,1,7,1],[1,1,1,3,1,4],[1,5,6,1,7,1],[1,1,1,1,1,1],[1,1,6,1,7,1]]
def tVr:List (List Nat):=[[1,1,1,1,1,2],[1,1,1,1,1,1],[1,1,1,3,1,4],[1,5,6,1,1,1],[1,1,1,3,1,4],[1,5,6,1,1,1],[1,1,1,1,1,1]]
def tSS:List (List Nat):=[[1,1,1,1,1,2],[1,1,1,1,1,1],[1,1,1,3,1,4],[1,5,6,1,7,1],[1,1,1,3,1,4],[1,5,6,1,7,1],[1,1,1,1,1,2],[1,1,6,1,7,1]]
def tVV:List (List Nat):=[[1,1,1,1,1,2],[1,1,1,1,1,1],[1,1,1,3,1,4],[1,5,6,1,1,1],[1,1,1,3,1,4],[1,5,6,1,1,1],[1,1,1,1,1,2]]
theorem cK:Cer xK tK 12:=DG (X:=[1,0,46,56]) (by kernel_rfl)
theorem cE:Cer xE tE 4:=DG (X:=[1,0,2]) (by kernel_rfl)
theorem cD:Cer xD tD 5:=DG (X:=[11,0,14]) (by kernel_rfl)
theorem cT:Cer xT tT 4:=DG (X:=[27,0,32,30]) (by kernel_rfl)
theorem cI:Cer xI tIn 4:=DG (X:=[1,0,2]) (by kernel_rfl)
theorem cNo:Cer .eps tNo 1:=DG (X:=[3,0]) (by kernel_rfl)
theorem cKE:Cer xKE tKE 8:=DG (X:=[1,0,110,128,120]) (by kernel_rfl)
theorem cKD:Cer xKD tKD 40:=DG (X:=[1,0,110,2944,120,3584]) (by kernel_rfl)
theorem cS4:Cer xS4 tSr 64:=DG (X:=[1,0,110,113536,120,114176,131072,122880]) (by kernel_rfl)
theorem cS:Cer xS tSr 64:=DG (X:=[1,0,110,113536,120,114176,917504,122880]) (by kernel_rfl)
theorem cV4:Cer xV4 tKD 40:=DG (X:=[1,0,110,15232,120,15872]) (by kernel_rfl)
theorem cV:Cer xV tVr 64:=DG (X:=[1,0,110,31616,120,32256,32768]) (by kernel_rfl)
theorem cSS:Cer (.star xS) tSS 65:=DG (X:=[2097155,0,220,227072,240,228352,3932162,245760]) (by kernel_rfl)
theorem cVV:Cer (.star xV) tVV 65:=DG (X:=[131075,0,220,63232,240,64512,196610]) (by kernel_rfl)
def m1:Tm:=.le 1 .key (some xK) nx .nil .nil .nil
def m2:Tm:=.le 17 .copy (some xE) nx .nil .nil .nil
def m12:Tm:=.le 15 .cat none nx .nil m1 m2
def m3:Tm:=.le 29 .copy (some xD) nx .nil .nil .nil
def X2:Tm:=.le 27 .cat none nx .nil m12 m3
def m4:Tm:=.le 46 .del (some xT) (bA [78,69,87,59]) .nil .nil .nil
def QP:Tm:=.le 44 .cat none nx .nil X2 m4
def m5:Tm:=.le 71 .ins none (bA [59]) .nil .nil .nil
def mA:Tm:=.le 69 .cat none nx .nil QP m5
def AaH:Tm:=.le 0 .keyed none nx .nil mA .nil
def Un:Tm:=.le 80 .star none nx .nil mA .nil
def l1:LnM:=.mk m1 xK xK .nil .nil .nil
def l2:LnM:=.mk m2 xE xE .nil .nil .nil
def l12:LnM:=.mk m12 xKE xKE .nil l1 l2
def l3:LnM:=.mk m3 xD xD .nil .nil .nil
def AeI:LnM:=.mk X2 xKD xKD .nil l12 l3
def l4:LnM:=.mk m4 xT .eps .nil .nil .nil
def Xw:LnM:=.mk QP xS4 xV4 .nil AeI l4
def l5:LnM:=.mk m5 .eps xI .nil .nil .nil
def lA:LnM:=.mk mA xS xV .nil Xw l5
def Vp:LnM:=.mk AaH (.star xS) (.star xV) .nil lA .nil
def Uk:LnM:=.mk Un (.star xS) (.star xV) .nil lA .nil
theorem GK:BY 400 .nil= .inr .nil:=rfl
section
variable{p:Nat}{n:Option ReM}{w:ByteArray}{q x y:Tm}{A C:LnM}
theorem L1(a:BY 400 x= .inr A)(b:BY 400 y= .inr C)(c:Lm A.s C.s=none)(d:Lm A.v C.v=none)(e:CU (.cat A.s C.s)≤400)(f:CU (.cat A.v C.v)≤400):BY 400 (.le p .cat n w q x y)= .inr (.mk (.le p .cat n w q x y) (.cat A.s C.s) (.cat A.v C.v) .nil A C):=by
 rw[El rfl,FS a,FS b];simp only[lnT,Zw,c,d,nev,ND,Nn e f]
theorem Qw{op:LO}(a:op= .star∨op= .keyed)(b:BY 400 x= .inr A)(c:iterW A.s=none)(d:iterW A.v=none)(e:CU (.star A.s)≤400)(f:CU (.star A.v)≤400):BY 400 (.le p op n w q x .nil)= .inr (.mk (.le p op n w q x .nil) (.star A.s) (.star A.v) .nil A .nil):=by
 rw[El (by rcases a with rfl | rfl<;>rfl),FS b,FS GK];rcases a with rfl | rfl<;>simp only[lnT,c,d,nev,ND,Nn e f]
theorem Mh{op:LO}{r:ReM}(a:op= .copy∨op= .key)(h:CU r≤400):BY 400 (.le p op (some r) w q .nil .nil)= .inr (.mk (.le p op (some r) w q .nil .nil) r r .nil .nil .nil):=by
 rw[El (by rcases a with rfl | rfl<;>rfl),FS GK,FS GK];rcases a with rfl | rfl<;>simp only[lnT,nO,YbH,ND,Nn h h]
end
theorem ck1:BY 400 m1= .inr l1:=Mh (.inr rfl) cK.need
theorem ck2:BY 400 m2= .inr l2:=Mh (.inl rfl) cE.need
theorem ck3:BY 400 m3= .inr l3:=Mh (.inl rfl) cD.need
theorem ck4:BY 400 m4= .inr l4:=by
 unfold m4;rw[El rfl,FS GK,FS GK];have h:Gm xT (bA [78,69,87,59])=true:=by rw[cT.has (by intro b a;simp at a;omega)];rfl
 simp only[lnT,nO,YbH,ND,Nn cT.need cNo.need,h,tst,if_true];rfl
theorem ck5:BY 400 m5= .inr l5:=by
 unfold m5;rw[El rfl,FS GK,FS GK];have e:Cz (byN (bA [59]))=xI:=rfl;simp only[lnT,e,ND,Nn cNo.need cI.need];rfl
theorem ck12:BY 400 m12= .inr l12:=L1 ck1 ck2 (FA cK cE (by kernel_rfl)) (FA cK cE (by kernel_rfl)) cKE.need cKE.need
theorem AgL:BY 400 X2= .inr AeI:=L1 ck12 ck3 (FA cKE cD (by kernel_rfl)) (FA cKE cD (by kernel_rfl)) cKD.need cKD.need
theorem AdP:BY 400 QP= .inr Xw:=L1 AgL ck4 (FA cKD cT (by kernel_rfl)) (FA cKD cNo (by kernel_rfl)) cS4.need cV4.need
theorem ckA:BY 400 mA= .inr lA:=L1 AdP ck5 (FA cS4 cNo (by kernel_rfl)) (FA cV4 cI (by kernel_rfl)) cS.need cV.need
theorem AgM:BY 400 AaH= .inr Vp:=Qw (.inr rfl) ckA (JC cS rfl (by kernel_rfl)) (JC cV rfl (by kernel_rfl)) cSS.need cVV.need
theorem AdQ:BY 400 Un= .inr Uk:=Qw (.inl rfl) ckA (JC cS rfl (by kernel_rfl)) (JC cV rfl (by kernel_rfl)) cSS.need cVV.need
def Yg:ByteArray:=⟨#[123,107,101,121,40,47,91,97,45,122,93,43,47,41,32,46,32,99,111,112,121,40,34,61,34,41,32,46,32,99,111,112,121,40,47,91,48,45,57,93,42,47,41,32,46,32,100,101,108,40,47,91,65,45,90,93,42,59,47,44,32,34,78,69,87,59,34,41,32,46,32,105,110,115,40,34,59,34,41,125]⟩
def U8:ByteArray:=⟨#[40,107,101,121,40,47,91,97,45,122,93,43,47,41,32,46,32,99,111,112,121,40,34,61,34,41,32,46,32,99,111,112,121,40,47,91,48,45,57,93,42,47,41,32,46,32,100,101,108,40,47,91,65,45,90,93,42,59,47,44,32,34,78,69,87,59,34,41,32,46,32,105,110,115,40,34,59,34,41,41,42]⟩
theorem Ai0:Ad3 Yg 400 AaH Vp:=⟨by decide,by decide,by kernel_rfl,rfl,rfl,rfl,by decide,by simp[AaH,mA,QP,X2,m12,m1,m2,m3,m4,m5,Tm.maxT,AB,show nx.size=0 from rfl],AgM⟩
theorem Af6:Ad3 U8 400 Un Uk:=⟨by decide,by decide,by kernel_rfl,rfl,rfl,rfl,by decide,by simp[Un,mA,QP,X2,m12,m1,m2,m3,m4,m5,Tm.maxT,AB,show nx.size=0 from rfl],AdQ⟩
end
inductive EM where
 | get | put | cre | sk | vk
def EM.src:EM→Bool
 | .get | .put | .sk=>true
 | _=>false
def EM.vw:EM→Bool
 | .put | .cre | .vk=>true
 | _=>false
def Ah5(m:EM)(op:LO)(w v s:ByteArray):Option ByteArray:=match m,op with
 | .get,.copy | .get,.key | .put,.del | .sk,.key=>some s
 | .get,.ins | .cre,.del=>some w
 | .put,.copy | .put,.key | .cre,.copy | .cre,.key | .vk,.key=>some v
 | _,_=>none
inductive Ev(m:EM):LnM→ByteArray→ByteArray→ByteArray→Prop
 | leaf {p:Nat} {op:LO} {n:Option ReM} {w:ByteArray} {q x y:Tm} {a b:ReM} {Q:QuM} {A C:LnM} {v s:ByteArray}:ED op≤3→Ev m (.mk (.le p op n w q x y) a b Q A C) v s ((Ah5 m op w v s).getD nx)
 | cat {p:Nat} {n:Option ReM} {w:ByteArray} {q x y:Tm} {a b:ReM} {Q:QuM} {A C:LnM} {v1 v2 s1 s2 o1 o2:ByteArray}:A≠ .nil→C≠ .nil→(m.src=true→RN A.s C.s s1 s2)→(m.vw=true→RN A.v C.v v1 v2)→Ev m A v1 s1 o1→Ev m C v2 s2 o2→Ev m (.mk (.le p .cat n w q x y) a b Q A C) (v1++v2) (s1++s2) (o1++o2)
structure LeM(B:Nat→Prop)(H:Aa)(g gt p:Nat)(ws:ByteArray)(n:Option ReM)(w:ByteArray)(tl:List v_)(s v:ReM)(A C:LnM)(vs vv vq vA vC:v_):Prop where
 gB:B g
 tB:B gt
 bg:K_ H g 70 [H_ gt,Av s,Av v,vs,vv,vq,vA,vC]
 bt:K_ H gt 74 (.int .i64 (p:Int):: .string ws::noV n:: .string w::tl)
 ks:AuV B H vs s
 kv:AuV B H vv v
 la:M' B H A vA
 lc:M' B H C vC
section
variable{B:Nat→Prop}{H H' G:Aa}{g gt p rb k:Nat}{ws:ByteArray}{op:LO}{n:Option ReM}{w:ByteArray}{q x y:Tm}{tl:List v_}{a b:ReM}{Q:QuM}{A C:LnM}{vs vv vq vA vC vl:v_}{s t:ByteArray}
theorem LeM.up(h:LeM B H g gt p ws n w tl a b A C vs vv vq vA vC)(c:A_ B H H'):LeM B H' g gt p ws n w tl a b A C vs vv vq vA vC:=
 ⟨h.gB,h.tB,h.bg.agr c h.gB,h.bt.agr c h.tB,h.ks.up (fun _ h=>h) c,h.kv.up (fun _ h=>h) c,h.la.up (fun _ h=>h) c,h.lc.up (fun _ h=>h) c⟩
theorem HJ(h:M' B H (.mk (.le p op n w q x y) a b Q A C) vl):∃g gt tl vs vv vq vA vC,vl= H_ g∧LeM B H g gt p op.s n w tl a b A C vs vv vq vA vC:=by
 obtain⟨g,vt,vs,vv,vq,vx,vy,rfl,j,k,l,c,m,r,-,t,u⟩:=h;obtain⟨gt,G,z,I,J,K,L,M,D,E,F,e,rfl,d,f,-⟩:=AcJ l c;cases e;exact⟨g,gt,_,vs,vv,vq,vx,vy,rfl,j,d,k,f,m,r,t,u⟩
structure Dw(B:Nat→Prop)(H:Aa)(rb k:Nat):Prop where
 hB:∀j,B j→j<H.size
 rn:¬B rb
 bl:K_ H rb 63 [C_ k]
 k1:k≤1048576
structure F0(H:Aa)(rb k:Nat)(o:ByteArray)(R:v_)(H':Aa):Prop where
 e:R= .string o
 x:o_ rb H H'
 bl:K_ H' rb 63 [C_ k]
theorem Dw.ag(h:Dw B H rb k)(x:o_ rb H H'):A_ B H H':=x.to h.hB h.rn
theorem Dw.next{j:Nat}(h:Dw B H rb k)(x:o_ rb H H')(a:K_ H' rb 63 [C_ j])(b:j≤k):Dw B H' rb j:=⟨fun i c=>Ybq (h.hB i c) x.sz,h.rn,a,YbC b h.k1⟩
theorem Dw.old(h:Dw B H rb k)(a:A_ (D_ H) H H'):Dw B H' rb k:=⟨fun i b=>Ae a (h.hB i b),h.rn,h.bl.agr a h.bl.lt,h.k1⟩
theorem Fh(h:Dw B H rb k)(hs:s.size≤k):Al prog 27 #[H_ rb,.string s] H (F0 H rb (k-s.size) s):=by
 have d:=h.k1;refine Al.of_vc func27 rfl (call27 _) ?_
 repeat ((conv=>whnf);first | refine Af.run ?_ | refine F_ ?_ | refine B_ (h.bl.cellE rfl) trivial ?_)
 rw[n_ (x:=(k:Int)-(s.size:Int)) (by omega)];refine Zak h.bl (by simp) rfl fun G1 a b c=>?_
 repeat ((conv=>whnf);first | refine Af.run ?_ | refine F_ ?_ | refine B_ (a.cellE rfl) trivial ?_)
 (conv=>whnf);rw[a_ (show¬(k:Int)-(s.size:Int)<0 by omega)]
 repeat (refine Af.run ?_)
 (conv=>whnf);rw[show(k:Int)-(s.size:Int)=((k-s.size:Nat):Int) by omega]at a;exact⟨rfl,.put b c,a⟩
theorem Ac8{s t:ByteArray}:(s++t).extract 0 ((s.size:Int)).toNat=s:=by
 apply Ds;rw[ByteArray.data_extract,Ydh,Ydk];simp only[ByteArray.data_append,Ydi,List.drop_zero,Nat.sub_zero,Yau];rw[List.take_append_of_le_length (by simp),Ycy (by simp)]
theorem AcA{s t:ByteArray}:(s++t).extract ((s.size:Int)).toNat (s++t).size=t:=by
 have a:(s++t).size=s.size+t.size:=ByteArray.size_append;apply Ds;rw[ByteArray.data_extract,Ydh,Ydk];simp only[ByteArray.data_append,Ydi,Yau];rw[List.drop_append_of_le_length (by simp),List.drop_of_length_le (by simp),List.nil_append,Ycy (by rw[a];simp)]
theorem K8(c:∀j,B j→j<H.size)(h:LeM B H g gt p ws n w tl a b A C vs vv vq vA vC)(u:A≠ .nil)(x:C≠ .nil)(y:RN A.s C.s s t)(hs:(s++t).size≤1048576):AZ prog 28 #[H_ g,.string (s++t)] H (.tuple #[.string s,.string t]):=by
 obtain⟨F,_,_,_,_,_,_,rfl,d,z,⟨A1,k,l⟩,-⟩:=EC u h.la;obtain⟨G,_,_,_,_,_,_,rfl,m,D,⟨C1,q,r⟩,-⟩:=EC x h.lc;have E:(s++t).size=s.size+t.size:=ByteArray.size_append;refine Al.of_vc func28 rfl (call28 _) (Au.heldM (D_ H) [18,19,20] [18] (sq [0,1,2,3,4,5,6,7,8,9,10,11,12,13,14] (.f 15 (sq [16,17,18] (.f 19 (.f 20 .e))))) rfl (by kernel_rfl) ?_)
 repeat ((conv=>whnf);first | refine F_ ?_ | refine B_ (h.bg.cellE rfl) (c _ h.gB) ?_ | refine B_ (z.cellE rfl) (c _ d) ?_ | refine B_ (D.cellE rfl) (c _ m) ?_)
 have e:=y l r;refine Ak (Ac7 c k q hs) fun H1 a1=>⟨a1,?_⟩;rw[e];refine Au.heldZ (fun _=>False) [7] (sq [0,1,2,3,4,5] (.f 6 (.f 7 .e))) rfl (by kernel_rfl) (PT Hv (by omega) (by omega) (PU Hv (by omega) (by omega) ?_));rw[Ac8,AcA];(conv=>whnf);exact⟨A_.refl _ _,rfl,a1⟩
theorem PV(c:∀j,B j→j<H.size)(h:LeM B H g gt p ws n w tl a b A C vs vv vq vA vC)(d:ws=LO.cat.s)(x:A≠ .nil)(y:C≠ .nil)(z:RN A.v C.v s t)(hs:(s++t).size≤1048576):AZ prog 33 #[H_ g,.string (s++t)] H (.tuple #[.string s,.string t]):=by
 obtain⟨G,_,_,_,_,_,_,rfl,k,D,-,⟨A1,l,m⟩⟩:=EC x h.la;obtain⟨I,_,_,_,_,_,_,rfl,q,E,-,⟨C1,r,u⟩⟩:=EC y h.lc;have F:(s++t).size=s.size+t.size:=ByteArray.size_append;refine Al.of_vc func33 rfl (call33 _) ?_
 repeat ((conv=>whnf);first | refine Af.run ?_ | refine F_ ?_ | refine B_ (h.bg.cellE rfl) trivial ?_ | refine B_ (h.bt.cellE rfl) trivial ?_)
 refine Ag.ff ((DJ d).t11.trans rfl) ?_
 repeat (refine Af.run ?_)
 refine Au.heldM (D_ H) [18,19,20] [18] (sq [0,1,2,3,4,5,6,7,8,9,10,11,12,13,14] (.f 15 (sq [16,17,18] (.f 19 (.f 20 .e))))) rfl (by kernel_rfl) ?_
 repeat ((conv=>whnf);first | refine F_ ?_ | refine B_ (h.bg.cellE rfl) (c _ h.gB) ?_ | refine B_ (D.cellE rfl) (c _ k) ?_ | refine B_ (E.cellE rfl) (c _ q) ?_)
 have e:=z m u;refine Ak (Ac7 c l r hs) fun H1 a1=>⟨a1,?_⟩;rw[e];refine Au.heldZ (fun _=>False) [7] (sq [0,1,2,3,4,5] (.f 6 (.f 7 .e))) rfl (by kernel_rfl) (PT Hv (by omega) (by omega) (PU Hv (by omega) (by omega) ?_));rw[Ac8,AcA];(conv=>whnf);exact⟨A_.refl _ _,rfl,a1⟩
end
theorem AgZ{L:LnM}{v s o:ByteArray}(h:Ev .get L v s o):∀{B:Nat→Prop} {H:Aa} {rb k:Nat} {vl:v_},Dw B H rb k→M' B H L vl→s.size≤1048576→o.size≤k→
  Al prog 14 #[H_ rb,vl,.string s] H (F0 H rb (k-o.size) o):=by
 induction h with
 | @leaf p op n w q x y a b Q A C v s hop=>
   intro B H rb k vl u S hs N;obtain⟨g,gt,tl,vs,vv,vq,vA,vC,rfl,O⟩:=HJ S;obtain⟨ws,t⟩:∃ws,ws=op.s:=⟨_,rfl⟩;rw[←t]at O;have T:=DJ t;refine Al.of_vc func14 rfl (call14 _) (BL (St.nil H) [H_ rb] rfl fun z H1 F=>(BL F [H_ g] rfl fun D H2 d=>?_));have l:=u.old d.old;have c:=O.up (d.old.mono u.hB);have M:o_ rb H H2:=.old d.old;have r:=d.blk 0 rfl;have m:=d.blk 1 rfl;have V:z≠rb:=fun e=>(d.in_ 0 rfl (show z=z from rfl)).1 (by rw[e];exact u.bl.lt);have W:D≠rb:=fun e=>(d.in_ 1 rfl (show D=D from rfl)).1 (by rw[e];exact u.bl.lt);clear F d
   repeat ((conv=>whnf);first | refine Af.run ?_ | refine F_ ?_ | refine B_ (m.cellE rfl) trivial ?_ | refine B_ (c.bg.cellE rfl) trivial ?_ | refine B_ (c.bt.cellE rfl) trivial ?_)
   (conv=>whnf);cases op<;>first | (exact absurd hop (by decide)) | skip
   case copy=>
    refine Ag.tt (T.t0.trans rfl) ?_
    repeat ((conv=>whnf);first | refine Af.run ?_ | refine B_ (r.cellE rfl) trivial ?_ | refine F_ ?_)
    refine Aj.mk (Fh l N) ?_;rintro _ G ⟨rfl,I,P⟩;(conv=>whnf);exact⟨rfl,M.trans I,P⟩
   case key=>
    refine Ag.ff (T.t0.trans rfl) ?_
    repeat (refine Af.run ?_)
    (conv=>whnf);refine Ag.tt (T.t1.trans rfl) ?_
    repeat ((conv=>whnf);first | refine Af.run ?_ | refine B_ (r.cellE rfl) trivial ?_ | refine F_ ?_)
    refine Aj.mk (Fh l N) ?_;rintro _ G ⟨rfl,I,P⟩;(conv=>whnf);exact⟨rfl,M.trans I,P⟩
   case ins=>
    refine Ag.ff (T.t0.trans rfl) ?_
    repeat (refine Af.run ?_)
    (conv=>whnf);refine Ag.ff (T.t1.trans rfl) ?_
    repeat (refine Af.run ?_)
    (conv=>whnf);refine Ag.tt (T.t2.trans rfl) ?_
    repeat (refine Af.run ?_)
    refine Au.heldZ (fun j=>j=z∨j=D∨B j) [8,9] (sq [0,1,2,3,4,5,6,7] (.f 8 (.f 9 .e))) rfl (by kernel_rfl) ?_
    repeat ((conv=>whnf);first | refine F_ ?_ | refine B_ (r.cellE rfl) (.inl rfl) ?_ | refine B_ (m.cellE rfl) (.inr (.inl rfl)) ?_ | refine B_ (c.bg.cellE rfl) (.inr (.inr c.gB)) ?_ | refine B_ (c.bt.cellE rfl) (.inr (.inr c.tB)) ?_)
    refine Aj.mk (Fh l N) ?_;rintro _ G ⟨rfl,I,P⟩;(conv=>whnf);exact⟨rfl,M.trans I,P⟩
   case del=>
    refine Ag.ff (T.t0.trans rfl) ?_
    repeat (refine Af.run ?_)
    (conv=>whnf);refine Ag.ff (T.t1.trans rfl) ?_
    repeat (refine Af.run ?_)
    (conv=>whnf);refine Ag.ff (T.t2.trans rfl) ?_
    repeat (refine Af.run ?_)
    (conv=>whnf);refine Ag.ff (T.t10.trans rfl) ?_
    repeat (refine Af.run ?_)
    (conv=>whnf);refine Ag.ff (T.t11.trans rfl) ?_
    repeat (refine Af.run ?_)
    (conv=>whnf);refine Ag.ff (T.t9.trans rfl) ?_
    repeat (refine Af.run ?_)
    (conv=>whnf);refine Ag.ff (T.t8.trans rfl) ?_
    repeat (refine Af.run ?_)
    (conv=>whnf);refine Ag.ff (T.t7.trans rfl) ?_
    repeat (refine Af.run ?_)
    (conv=>whnf);refine Ag.ff (T.t4.trans rfl) ?_
    repeat (refine Af.run ?_)
    (conv=>whnf);refine Ag.ff (T.t5.trans rfl) ?_
    repeat (refine Af.run ?_)
    (conv=>whnf);refine Ag.ff (T.t6.trans rfl) ?_
    repeat (refine Af.run ?_)
    (conv=>whnf);refine Ag.ff (T.t12.trans rfl) ?_
    repeat (refine Af.run ?_)
    (conv=>whnf);exact⟨rfl,M,l.bl⟩
 | @cat p n w q x y a b Q A C v1 v2 F d o1 o2 hA hC hcs hcv e1 e2 ih1 ih2=>
   intro B H rb k vl u S hs N;have X:(o1++o2).size=o1.size+o2.size:=ByteArray.size_append;have sv:(v1++v2).size=v1.size+v2.size:=ByteArray.size_append;have ss:(F++d).size=F.size+d.size:=ByteArray.size_append;rw[X]at N;obtain⟨g,gt,tl,vs,vv,vq,vA,vC,rfl,O⟩:=HJ S;obtain⟨ws,t⟩:∃ws,ws=LO.cat.s:=⟨_,rfl⟩;rw[←t]at O;have T:=DJ t;refine Al.of_vc func14 rfl (call14 _) (BL (St.nil H) [H_ rb] rfl fun z H1 F=>(BL F [H_ g] rfl fun D H2 d=>?_));have l:=u.old d.old;have c:=O.up (d.old.mono u.hB);have M:o_ rb H H2:=.old d.old;have r:=d.blk 0 rfl;have m:=d.blk 1 rfl;have V:z≠rb:=fun e=>(d.in_ 0 rfl (show z=z from rfl)).1 (by rw[e];exact u.bl.lt);have W:D≠rb:=fun e=>(d.in_ 1 rfl (show D=D from rfl)).1 (by rw[e];exact u.bl.lt);clear F d
   repeat ((conv=>whnf);first | refine Af.run ?_ | refine F_ ?_ | refine B_ (m.cellE rfl) trivial ?_ | refine B_ (c.bg.cellE rfl) trivial ?_ | refine B_ (c.bt.cellE rfl) trivial ?_)
   (conv=>whnf);refine Ag.ff (T.t0.trans rfl) ?_
   repeat (refine Af.run ?_)
   (conv=>whnf);refine Ag.ff (T.t1.trans rfl) ?_
   repeat (refine Af.run ?_)
   (conv=>whnf);refine Ag.ff (T.t2.trans rfl) ?_
   repeat (refine Af.run ?_)
   (conv=>whnf);refine Ag.tt (T.t10.trans rfl) ?_
   repeat ((conv=>whnf);first | refine Af.run ?_ | refine B_ (m.cellE rfl) trivial ?_ | refine F_ ?_)
   refine Ak (K8 l.hB c hA hC (hcs rfl) hs) fun H3 a3=>?_;have J:=l.old a3;have E:=c.up (a3.mono l.hB);have I:o_ rb H H3:=M.trans (.old a3);replace r:=r.agr a3 r.lt;replace m:=m.agr a3 m.lt
   repeat (refine Af.run ?_)
   refine Au.heldZ (fun j=>j=z∨j=D∨B j) [6,7] (sq [0,1,2,3,4,5] (.f 6 (.f 7 .e))) rfl (by kernel_rfl) ?_
   repeat ((conv=>whnf);first | refine F_ ?_ | refine B_ (r.cellE rfl) (.inl rfl) ?_ | refine B_ (m.cellE rfl) (.inr (.inl rfl)) ?_ | refine B_ (E.bg.cellE rfl) (.inr (.inr E.gB)) ?_)
   refine Aj.mk (ih1 J E.la (by omega) (by omega)) ?_;rintro _ G1 ⟨rfl,R,Y⟩;have U:=J.next R Y (by omega)
   have K:=E.up (J.ag R);have Z:=I.trans R;replace r:=r.agr R.ag ⟨r.lt,V⟩;replace m:=m.agr R.ag ⟨m.lt,W⟩
   repeat (refine Af.run ?_)
   refine Au.heldM (fun j=>j=z∨j=D∨B j) [0,7,8,9] [0,8] (sq [0,1,2,3,4,5,6] (.f 7 (sq [8] (.f 9 .e)))) rfl (by kernel_rfl) ?_
   repeat ((conv=>whnf);first | refine F_ ?_ | refine B_ (r.cellE rfl) (.inl rfl) ?_ | refine B_ (m.cellE rfl) (.inr (.inl rfl)) ?_ | refine B_ (K.bg.cellE rfl) (.inr (.inr K.gB)) ?_)
   refine Aj.mk (ih2 U K.lc (by omega) (by omega)) ?_;rintro _ G2 ⟨rfl,y2,d2⟩;have a0:=u.k1;refine He (by unfold maxLen;omega) ?_;(conv=>whnf);rw[X,Ydw];exact⟨rfl,Z.trans y2,d2⟩
theorem AgN{L:LnM}{v s o:ByteArray}(h:Ev .cre L v s o):∀{B:Nat→Prop} {H:Aa} {rb k:Nat} {vl:v_},Dw B H rb k→M' B H L vl→v.size≤1048576→o.size≤k→
  Al prog 16 #[H_ rb,vl,.string v] H (F0 H rb (k-o.size) o):=by
 induction h with
 | @leaf p op n w q x y a b Q A C v s hop=>
   intro B H rb k vl u S V N;obtain⟨g,gt,tl,vs,vv,vq,vA,vC,rfl,O⟩:=HJ S;obtain⟨ws,m⟩:∃ws,ws=op.s:=⟨_,rfl⟩;rw[←m]at O;have T:=DJ m;refine Al.of_vc func16 rfl (call16 _) (BL (St.nil H) [H_ rb] rfl fun z H1 F=>(BL F [H_ g] rfl fun D H2 d=>?_));have l:=u.old d.old;have c:=O.up (d.old.mono u.hB);have M:o_ rb H H2:=.old d.old;have t:=d.blk 0 rfl;have r:=d.blk 1 rfl;have W:z≠rb:=fun e=>(d.in_ 0 rfl (show z=z from rfl)).1 (by rw[e];exact u.bl.lt);have X:D≠rb:=fun e=>(d.in_ 1 rfl (show D=D from rfl)).1 (by rw[e];exact u.bl.lt);clear F d
   repeat ((conv=>whnf);first | refine Af.run ?_ | refine F_ ?_ | refine B_ (r.cellE rfl) trivial ?_ | refine B_ (c.bg.cellE rfl) trivial ?_ | refine B_ (c.bt.cellE rfl) trivial ?_)
   (conv=>whnf);cases op<;>first | (exact absurd hop (by decide)) | skip
   case copy=>
    refine Ag.tt (T.t0.trans rfl) ?_
    repeat ((conv=>whnf);first | refine Af.run ?_ | refine B_ (t.cellE rfl) trivial ?_ | refine F_ ?_)
    refine Aj.mk (Fh l N) ?_;rintro _ G ⟨rfl,I,P⟩;(conv=>whnf);exact⟨rfl,M.trans I,P⟩
   case key=>
    refine Ag.ff (T.t0.trans rfl) ?_
    repeat (refine Af.run ?_)
    (conv=>whnf);refine Ag.tt (T.t1.trans rfl) ?_
    repeat ((conv=>whnf);first | refine Af.run ?_ | refine B_ (t.cellE rfl) trivial ?_ | refine F_ ?_)
    refine Aj.mk (Fh l N) ?_;rintro _ G ⟨rfl,I,P⟩;(conv=>whnf);exact⟨rfl,M.trans I,P⟩
   case ins=>
    refine Ag.ff (T.t0.trans rfl) ?_
    repeat (refine Af.run ?_)
    (conv=>whnf);refine Ag.ff (T.t1.trans rfl) ?_
    repeat (refine Af.run ?_)
    (conv=>whnf);refine Ag.ff (T.t3.trans rfl) ?_
    repeat (refine Af.run ?_)
    (conv=>whnf);refine Ag.ff (T.t10.trans rfl) ?_
    repeat (refine Af.run ?_)
    (conv=>whnf);refine Ag.ff (T.t11.trans rfl) ?_
    repeat (refine Af.run ?_)
    (conv=>whnf);refine Ag.ff (T.t9.trans rfl) ?_
    repeat (refine Af.run ?_)
    (conv=>whnf);refine Ag.ff (T.t8.trans rfl) ?_
    repeat (refine Af.run ?_)
    (conv=>whnf);refine Ag.ff (T.t7.trans rfl) ?_
    repeat (refine Af.run ?_)
    (conv=>whnf);refine Ag.ff (T.t4.trans rfl) ?_
    repeat (refine Af.run ?_)
    (conv=>whnf);refine Ag.ff (T.t5.trans rfl) ?_
    repeat (refine Af.run ?_)
    (conv=>whnf);refine Ag.ff (T.t6.trans rfl) ?_
    repeat (refine Af.run ?_)
    (conv=>whnf);refine Ag.ff (T.t12.trans rfl) ?_
    repeat (refine Af.run ?_)
    (conv=>whnf);exact⟨rfl,M,l.bl⟩
   case del=>
    refine Ag.ff (T.t0.trans rfl) ?_
    repeat (refine Af.run ?_)
    (conv=>whnf);refine Ag.ff (T.t1.trans rfl) ?_
    repeat (refine Af.run ?_)
    (conv=>whnf);refine Ag.tt (T.t3.trans rfl) ?_
    repeat (refine Af.run ?_)
    refine Au.heldZ (fun j=>j=z∨j=D∨B j) [8,9] (sq [0,1,2,3,4,5,6,7] (.f 8 (.f 9 .e))) rfl (by kernel_rfl) ?_
    repeat ((conv=>whnf);first | refine F_ ?_ | refine B_ (t.cellE rfl) (.inl rfl) ?_ | refine B_ (r.cellE rfl) (.inr (.inl rfl)) ?_ | refine B_ (c.bg.cellE rfl) (.inr (.inr c.gB)) ?_ | refine B_ (c.bt.cellE rfl) (.inr (.inr c.tB)) ?_)
    refine Aj.mk (Fh l N) ?_;rintro _ G ⟨rfl,I,P⟩;(conv=>whnf);exact⟨rfl,M.trans I,P⟩
 | @cat p n w q x y a b Q A C v1 v2 F d o1 o2 hA hC hcs hcv e1 e2 ih1 ih2=>
   intro B H rb k vl u S V N;have Y:(o1++o2).size=o1.size+o2.size:=ByteArray.size_append;have sv:(v1++v2).size=v1.size+v2.size:=ByteArray.size_append;have ss:(F++d).size=F.size+d.size:=ByteArray.size_append;rw[Y]at N;obtain⟨g,gt,tl,vs,vv,vq,vA,vC,rfl,O⟩:=HJ S;obtain⟨ws,m⟩:∃ws,ws=LO.cat.s:=⟨_,rfl⟩;rw[←m]at O;have T:=DJ m;refine Al.of_vc func16 rfl (call16 _) (BL (St.nil H) [H_ rb] rfl fun z H1 F=>(BL F [H_ g] rfl fun D H2 d=>?_));have l:=u.old d.old;have c:=O.up (d.old.mono u.hB);have M:o_ rb H H2:=.old d.old;have t:=d.blk 0 rfl;have r:=d.blk 1 rfl;have W:z≠rb:=fun e=>(d.in_ 0 rfl (show z=z from rfl)).1 (by rw[e];exact u.bl.lt);have X:D≠rb:=fun e=>(d.in_ 1 rfl (show D=D from rfl)).1 (by rw[e];exact u.bl.lt);clear F d
   repeat ((conv=>whnf);first | refine Af.run ?_ | refine F_ ?_ | refine B_ (r.cellE rfl) trivial ?_ | refine B_ (c.bg.cellE rfl) trivial ?_ | refine B_ (c.bt.cellE rfl) trivial ?_)
   (conv=>whnf);refine Ag.ff (T.t0.trans rfl) ?_
   repeat (refine Af.run ?_)
   (conv=>whnf);refine Ag.ff (T.t1.trans rfl) ?_
   repeat (refine Af.run ?_)
   (conv=>whnf);refine Ag.ff (T.t3.trans rfl) ?_
   repeat (refine Af.run ?_)
   (conv=>whnf);refine Ag.tt (T.t10.trans rfl) ?_
   repeat ((conv=>whnf);first | refine Af.run ?_ | refine B_ (r.cellE rfl) trivial ?_ | refine F_ ?_)
   refine Ak (PV l.hB c m hA hC (hcv rfl) V) fun H3 a3=>?_;have J:=l.old a3;have E:=c.up (a3.mono l.hB);have I:o_ rb H H3:=M.trans (.old a3);replace t:=t.agr a3 t.lt;replace r:=r.agr a3 r.lt
   repeat (refine Af.run ?_)
   refine Au.heldZ (fun j=>j=z∨j=D∨B j) [6,7] (sq [0,1,2,3,4,5] (.f 6 (.f 7 .e))) rfl (by kernel_rfl) ?_
   repeat ((conv=>whnf);first | refine F_ ?_ | refine B_ (t.cellE rfl) (.inl rfl) ?_ | refine B_ (r.cellE rfl) (.inr (.inl rfl)) ?_ | refine B_ (E.bg.cellE rfl) (.inr (.inr E.gB)) ?_)
   refine Aj.mk (ih1 J E.la (by omega) (by omega)) ?_;rintro _ G1 ⟨rfl,R,Z⟩;have U:=J.next R Z (by omega)
   have K:=E.up (J.ag R);have xG:=I.trans R;replace t:=t.agr R.ag ⟨t.lt,W⟩;replace r:=r.agr R.ag ⟨r.lt,X⟩
   repeat (refine Af.run ?_)
   refine Au.heldM (fun j=>j=z∨j=D∨B j) [0,7,8,9] [0,8] (sq [0,1,2,3,4,5,6] (.f 7 (sq [8] (.f 9 .e)))) rfl (by kernel_rfl) ?_
   repeat ((conv=>whnf);first | refine F_ ?_ | refine B_ (t.cellE rfl) (.inl rfl) ?_ | refine B_ (r.cellE rfl) (.inr (.inl rfl)) ?_ | refine B_ (K.bg.cellE rfl) (.inr (.inr K.gB)) ?_)
   refine Aj.mk (ih2 U K.lc (by omega) (by omega)) ?_;rintro _ G2 ⟨rfl,y2,d2⟩;have a0:=u.k1;refine He (by unfold maxLen;omega) ?_;(conv=>whnf);rw[Y,Ydw];exact⟨rfl,xG.trans y2,d2⟩
section
open Go.Shelf Go.Proofs
def KV:Go.Shelf.Ren:=⟨fun | 169=>53 | n=>n,fun | 70=>115 | 9=>9 | 0=>0 | 72=>117 | 37=>47 | 127=>186 | 3=>3 | 5=>5 | n=>n,fun | n=>n⟩
theorem AaB:Go.Proofs.Lays.n169 prog KV:={
 mixed:=by kernel_rfl
 f169:=func53.trans (congrArg some (by kernel_rfl))
 t0:=underlying0
 a0:=isAgg0
 z0:=sizeOf0
 v0:=zeroValue0
 t3:=underlying3
 a3:=isAgg3
 z3:=sizeOf3
 v3:=zeroValue3
 t9:=underlying9
 a9:=isAgg9
 z9:=sizeOf9
 v9:=zeroValue9
 t37:=underlying47
 a37:=isAgg47
 z37:=sizeOf47
 v37:=zeroValue47
 t70:=underlying115
 a70:=isAgg115
 z70:=sizeOf115
 v70:=zeroValue115
 t72:=underlying117
 a72:=isAgg117
 z72:=sizeOf117
 v72:=zeroValue117
 t127:=underlying186
 a127:=isAgg186
 z127:=sizeOf186
 v127:=zeroValue186}
theorem Jk:Builder.Extra prog KV:={
 sizeBuilder:=by kernel_rfl
 liesBuilder:=by kernel_rfl
 t5:=underlying5
 a5:=isAgg5
 z5:=sizeOf5
 v5:=zeroValue5
 infoByte:=by kernel_rfl
 cellsByte:=by kernel_rfl
 sizeByte:=by kernel_rfl
 neB5:=by decide}
open Go.RowKit in
theorem Builder_String_any_k(B b:Nat)(l:List UInt8)(w:y_)(h:Lib.IsBuilderF 117 5 B b (Lib.byteCells l) w)(a:B≤w.heap.size):
  Calls prog 53 #[H_ b] w fun e c=>e= .returned (.string ⟨l.toArray⟩)∧(Lib.IsBuilderF 117 5 B b (Lib.byteCells l) c∧Below B w c∧Lib.OthersKept 5 (some b) w c):=Any.Builder_String_any_k AaB Jk B b l w h a
end
section
open Go.Shelf Go.RowKit Go.Proofs
theorem Qt:(prog.info? 117).map (·.size)=some 2:=by kernel_rfl
theorem Wy:liesAt prog prog.depth 117 (2 / prog.cellsOf 117) 0 117 1=true:=by kernel_rfl
theorem Zz(b:Nat)(w:y_)(B:w.cell? ⟨b,0,none⟩=some (H_ b)):
  Calls prog 88 #[H_ b] w fun e m=>e= .returned (.tuple #[])∧m=w:=by
 obtain⟨j,n,_⟩:=Ydt.1 Qt;have d:prog.follows .mixedOrders=true:=by kernel_rfl
 have f:=underlying117;have p:=isAgg117;have q:=sizeOf117;have r:=zeroValue117;have t:=run_underlying f;have a:=underlying115;have u:=isAgg115;have x:=sizeOf115;have y:=zeroValue115;have z:=run_underlying a;have A:=underlying4;have a4:=isAgg4;have C:=sizeOf4;have D:=zeroValue4;have E:=run_underlying A;have c:=underlying246;have g:=isAgg246;have h:=sizeOf246;have k:=zeroValue246;have l:=run_underlying c
 go_enter func88,Tryz.ntmps88
 go_wp2
 rw[Lib.run_neq_ptr_same w _ a n]
 go_wp2
 go_end0
 exact⟨rfl,rfl⟩
theorem WC(b:Nat)(w:y_)(E:w.cell? ⟨b,0,none⟩=some (.pointer none))(d:w.shape? b=some (117,2))(q:w.frozen? ⟨b,0,none⟩=false):
  Calls prog 88 #[H_ b] w fun e r=>e= .returned (.tuple #[])∧r=w.setCell ⟨b,0,none⟩ (H_ b):=by
 have⟨j,k,f⟩:=Ydt.1 Qt;have g:prog.follows .mixedOrders=true:=by kernel_rfl
 have h:=underlying117;have t:=isAgg117;have u:=sizeOf117;have x:=zeroValue117;have y:=run_underlying h;have c:=underlying115;have z:=isAgg115;have A:=sizeOf115;have B:=zeroValue115;have C:=run_underlying c;have D:=underlying4;have a4:=isAgg4;have F:=sizeOf4;have G:=zeroValue4;have H:=run_underlying D;have a:=underlying246;have l:=isAgg246;have m:=sizeOf246;have n:=zeroValue246;have p:=run_underlying a
 go_enter func88,Tryz.ntmps88
 go_wp2
 rw[Lib.run_to_unsafe w ⟨b,0,none⟩ c a k (by rw[f];decide) d (Nat.zero_lt_succ 1)];simp only[Result.andThen];rw[Oper.upon_value]
 go_wp2
 rw[run_callFunc_extern func132 (by kernel_rfl) (by kernel_rfl) (by kernel_rfl) (e:=Extern.AbiNoEscape.same) (by kernel_rfl)];rw[Lib.run_noEscape];simp only[Result.andThen];rw[Oper.upon_value]
 go_wp2
 rw[Lib.run_from_unsafe w ⟨b,0,none⟩ a c k d Wy];simp only[Result.andThen];rw[Oper.upon_value]
 go_wp2
 go_end0
 exact⟨rfl,rfl⟩
end
def HY(s:ByteArray):List Int:=s.data.toList.map fun b=>(b.toNat:Int)
theorem DP(s:ByteArray):(HY s).length=s.size:=by unfold HY;rw[Z_];rfl
theorem R6(s t:ByteArray):HY (s++t)=HY s++HY t:=by unfold HY;simp
theorem AbH(s:ByteArray):∀x∈HY s,inK .u8 x:=fun x a=>by
 obtain⟨b,-,rfl⟩:=List.mem_map.1 a;exact AcF b
theorem Tg(s:ByteArray):byteCells s=(HY s).map (Value.int .u8):=by
 unfold byteCells HY;rw[List.map_map];rfl
theorem AdA{P:w_}{t x ty by_:Nat}{z:v_}{B:Nat→Prop}{H0 H:Aa}{ps:List Pc}{e:x_}{a:Option Addr}{n cap:Nat}{xs:List Int}{K:v_→Aa→Prop}{s:ByteArray}(y:E_ B H0 H ps)(i:Nat)(C:SlT P t e 1 by_ z)(p:P.underlying x=some .string)
  (A:ps[i]?=some (pS tU8 e a n cap xs)) (q:xs.length+s.size≤maxLen) (hby:(xs.length+s.size)*by_≤140737488355328)
  (k:∀a' c H',E_ B H0 H' (ps.set i (pS tU8 e a' (xs.length+s.size) c (xs++HY s)))→K (.slice a' (xs.length+s.size) c) H'):Ba P (Builtin.append_ #[t,x] ty [.slice a n cap,.string s].toArray) H K:=by
 have⟨G,r,D⟩:=(y.at_ i A).1;refine LJ (m:=s.size) (news:=byteCells s) C r (l_ _) (fun w I=>Src.ofString w p s) q hby ?_;intro E H' j f u l;have g:(xs++HY s).length=xs.length+s.size:=by rw[List.length_append,DP]
 have d:M_ tU8 none_ H' 0 e E (xs++HY s):=⟨_,by rw[g];exact j,Ty.reps_append (Ty.reps_frame (f.mono fun k b=>b.elim) D) (by rw[Tg];exact PR (AbH s))⟩;obtain⟨a',c,rfl⟩:=d.hull;rw[g]at d l ⊢;refine k a' c H' (y.upd i A (f.mono fun k b=>⟨b.1,fun F=>b.2 (.inl F)⟩) _ ⟨d,fun k b=>b.elim⟩ (fun k b=>?_) (fun k b=>?_) u)
 ·rcases b with b | b
  ·rcases l k b with h | h
   ·exact .inl (.inl h)
   ·exact .inr h
  ·exact b.elim
 ·rcases b with b | b
  ·exact(d.lt b).2
  ·exact b.elim
theorem ccP{B:Nat→Prop}{H0 H:Aa}{ps:List Pc}{b:Nat}{p:Option Addr}{v:v_}{K:v_→Aa→Prop}(c:E_ B H0 H ps)(i:Nat)(d:ps[i]?=some (pB 117 b [.pointer p,v]))(f:p=none∨p=some ⟨b,0,none⟩)
  (k:∀H',E_ B H0 H' (ps.set i (pB 117 b [H_ b,v]))→K (.tuple #[]) H'):Aj prog 88 #[H_ b] H K:=by
 refine⟨fun w l=>⟨call88 _ w,?_⟩⟩;subst l;have e:=c.blk i d;rcases f with rfl | rfl
 ·have g:w.cell? ⟨b,0,none⟩=some (.pointer none):=by rw[DF,e.cell];rfl
  have h:w.shape? b=some (117,2):=by
   unfold World.shape?;rw[e];rfl
  refine(WC b w g h (Fg e)).mono ?_;rintro _ _ ⟨rfl,rfl⟩;have⟨m,n,q⟩:=HR (o:=0) e (H_ b);exact⟨_,rfl,by unfold World.setCell;split<;>exact⟨rfl,rfl,rfl⟩,k _ (c.upd i d (n.mono fun k a j=>a.2 j) _ m (fun k a=>.inl a) (fun k a=>by rw[q];exact(c.in_ i d a).2) (by omega))⟩
 ·have g:w.cell? ⟨b,0,none⟩=some (H_ b):=by rw[DF,e.cell];rfl
  refine(Zz b w g).mono ?_;rintro _ _ ⟨rfl,rfl⟩;exact⟨_,rfl,Y_.refl _,k _ (c.say i d _ (c.at_ i d) (fun k a=>a))⟩
abbrev YA:x_:=5
def O8(B:Nat→Prop)(H0:Aa)(b:Nat)(s:ByteArray)(rest:List Pc)(H:Aa):Prop:=
 ∃p a cap,(p=none∨p=some ⟨b,0,none⟩)∧E_ B H0 H (pB 117 b [.pointer p,.slice a s.size cap]::pS tU8 YA a s.size cap (HY s)::rest)
section
variable{B:Nat→Prop}{H0 H H1:Aa}{b:Nat}{s t:ByteArray}{rest:List Pc}{K:v_→Aa→Prop}
theorem vwS(h:O8 B H0 b s rest H)(hs:s.size+t.size≤140737488355328)(k:∀H',O8 B H0 b (s++t) rest H'→K (.tuple #[C_ t.size,.nilIface]) H'):Aj prog 52 #[H_ b,.string t] H K:=by
 have⟨p,a,cap,f,g⟩:=h;refine⟨Al.of_vc func52 rfl (call52 _) ?_⟩;refine ccP g 0 rfl f fun H1 st1=>(F_ ?_);refine lT ((st1.blk 0 rfl).cellE rfl) ?_;refine AdA (s:=t) st1 1 Jd underlying9 rfl (by rw[DP];unfold maxLen;omega) (by rw[DP];omega) fun a2 j H2 c=>?_;rw[DP,←R6]at c;rw[DP];have e:s.size+t.size=(s++t).size:=by simp
 rw[e]at c ⊢;refine F_ ?_;refine Bh c 0 rfl (show(0:Nat)+1<2 by decide) rfl fun H3 d=>?_;(conv=>whnf);exact k H3 ⟨_,a2,j,.inr rfl,d⟩
end
theorem vStr{H0 H:Aa}{b:Nat}{s:ByteArray}{rest:List Pc}{K:v_→Aa→Prop}(h:O8 (D_ H0) H0 b s rest H)(k:∀H',A_ (D_ H0) H0 H'→K (.string s) H'):Aj prog 53 #[H_ b] H K:=by
 have⟨p,a,cap,M,m⟩:=h;refine⟨fun w N=>⟨call53 _ w,?_⟩⟩;subst N;have O:=m.blk 0 rfl;have y:H0.size≤b:=by
  have:=(m.in_ 0 rfl (k:=b) rfl).1;unfold D_ at this;omega
 have z:(Value.slice a s.size cap).ownBlock≠some b:=fun e=>by
  cases a with
  | none=>cases e
  | some P=>
    have⟨q,o,U⟩:=P;injection e with e
    have d:=m.apart2 (i:=0) (j:=1) rfl rfl (by decide);refine d b rfl (.inl ?_);subst e;obtain⟨Q,⟨-,c⟩,-⟩:=(m.at_ 1 rfl).1;rcases c with⟨g,-⟩ | ⟨b',I,l,g,-⟩
    ·cases g
    ·injection g with e1 e2 e3
     injection e1 with e1
     injection e1 with e4 e5 e6
     subst e5;subst e6;exact⟨_,_,_,rfl⟩
 have r:w.ownsRow H0.size 5 1 (.slice a s.size cap) (Go.Lib.byteCells s.data.toList).length (Go.Lib.byteCells s.data.toList):=by
  obtain⟨Q,⟨R,c⟩,n⟩:=(m.at_ 1 rfl).1;obtain⟨rfl,J⟩:=LE n;have A:Go.Lib.byteCells s.data.toList=(HY s).map (Value.int .u8):=by
   unfold Go.Lib.byteCells HY;rw[List.map_map];rfl
  have L:((HY s).map (Value.int .u8)).length=s.size:=by rw[Z_,DP]
  rw[A,L];refine⟨by rw[L,Nat.mul_one],?_⟩;rcases c with⟨g,B⟩ | ⟨b',I,l,g,-,C,t,D,E,u⟩
  ·exact .inl ⟨g,by rw[←DP];exact B⟩
  ·have F:H0.size≤b':=by
    have:=(m.in_ 1 rfl (k:=b') (.inl ⟨0,s.size,cap,by rw[g];injection g with e1 e2 e3;subst e1;subst e3;rw[DP]⟩)).1;unfold D_ at this;omega
   rw[DP]at g t u;exact .inr ⟨b',I,l.toArray,g,F,C,t,D,by rw[List.size_toArray];exact E,u⟩
 have x:BuilderAtF 117 5 H0.size b (.pointer p) (Go.Lib.byteCells s.data.toList) w:=BuilderAtF.of ⟨y,_,O,r,z⟩;have G:IsBuilderF 117 5 H0.size b (Go.Lib.byteCells s.data.toList) w:=by
  rcases M with rfl | rfl
  ·exact .inl x
  ·exact .inr x
 refine(Builder_String_any_k H0.size b s.data.toList w G (Ap m.old)).mono ?_;rintro _ S ⟨rfl,-,f,-⟩;refine⟨_,rfl,⟨f.os.symm ▸ rfl,f.tape.symm ▸ rfl,f.output.symm ▸ rfl⟩,?_⟩;exact k _ (m.old.trans (show A_ (D_ H0) w.heap S.heap from fun j T=>f.block j T))
end Go.Proofs.YtdopnglgekglgaaGreatDoor
