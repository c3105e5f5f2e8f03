/- Parts of the proof: PDet1, PDet2, PDTb, PDBk, PSound, PMerge, PWake, PNew, PAuto, PLaw5, PCellO, PAtm, PDet3 -/
import Derived.Test.YtfbghcpdinlmcaaGreatDoorKLt2
import Derived.Test.YtfbghcpdinlmcaaGreatDoorKLt1
set_option maxHeartbeats 64000000
open Array renaming getElem?_eq_getElem → AdT
open BitVec renaming getLsbD_and → AcF, allOnes → AcO, getLsbD_not → AdP
open Bool renaming and_eq_true → AcM, false_and → AcR, true_and → AdQ, and_false → Ae6, not_eq_true' → AeH
open Int renaming toNat_natCast → AbV, eq_ofNat_of_zero_le → AdX, ofNat → Ae0, negSucc_lt_zero → AeE
open List renaming length_append → AaS, mem_singleton → AaT, length_singleton → AaU, getElem?_eq_some_iff → Ab8, mem_of_getElem? → AbD, length_cons → AbH, mem_append → AbK, length_nil → AbM, take_length → AbW, getElem?_set_self → AbY, getElem?_set_ne → Ac3, mem_append_left → Ac4, length_map → Ac5, flatMap_cons → Ac8, mem_cons_of_mem → AcK, foldl_append → AcL, replicate → AcN, getElem?_append_left → AcP, getElem?_map → AcQ, mem_cons_self → AcS, map_append → AcT, getElem?_append_right → AcU, getD_eq_getElem?_getD → AcV, getElem?_eq_getElem → AcW, foldl_cons → AcX, mem_filter → AcY, append_assoc → Ad1, mem_append_right → Ad2, getElem?_eq_none → Ad3, map_cons → Ad4, flatMap_append → Ad5, length_filterMap_le → Ad6, filter_append → Ad8, range → Ad9, getElem?_cons_zero → AdA, getElem?_replicate → AdB, filter_cons_of_pos → AdC, mem_flatMap → AdD, cons_append → AdF, filter_cons → AdG, take_append_drop → AdH, mem_of_mem_take → AdI, eq_nil_of_length_eq_zero → AdL, foldl_nil → AdM, dropLast_concat_getLast → AdN, set_cons_succ → AdO, all_eq_false → AdR, getElem?_eq_none_iff → AdS, map_nil → AdU, getElem?_cons_succ → AdW, filter_cons_of_neg → AdY, all_append → AdZ, range_succ → Ae1, append_nil → Ae2, take_zero → Ae4, filterMap_append → Ae5, set_append_right → Ae7, mem_range → Ae8, length_filter_le → Ae9, findIdx?_append → AeA, mem_cons → AeB, map_congr_left → AeC, length_take_le → AeD, nodup_append → AeG, prefix_refl → AeI, length_take → AeK, count_cons → AeM, nil_append → AeN, sum_append → AeO, sum_cons → AeQ
open Nat renaming zero_add → AaV, le_refl → AbX, zero_le → AcZ, le_of_eq → Ad7, le_trans → AdJ, mul_le_mul_right → AdK, cast → AdV, mul_one → Ae3, sub_self → AeF, mul_le_mul → AeP
open Option renaming some → Ad0, bind_some → AdE, getD_some → AeJ, map_some → AeL
set_option linter.unusedVariables false
set_option linter.unusedSimpArgs false
set_option maxRecDepth 100000
namespace Go.Proofs.YtfbghcpdinlmcaaGreatDoor
open Go.VC
def Ed(q:Int):List Nat:=(Go.Lib.itoa q).map UInt8.toNat
theorem ZB(q:Int):IK q=(Ed q).map fun(x:Nat)=>(x:Int):=by
 unfold IK Ed;rw [List.map_map];rfl
def Nq(n:Nat)(l:List Nat):Nat:=l.foldl (fun n b=>10*n+(b - 48)) n
theorem Qn(u:Nat):(∀b∈(Go.Lib.decDigits u).map UInt8.toNat,48≤b∧b≤57)∧Nq 0 ((Go.Lib.decDigits u).map UInt8.toNat)=u:=by
 induction u using Nat.strongRecOn with
 | _ u ih=>
   rw [Go.Lib.decDigits];by_cases h:u<10
   ·rw [dif_pos h];have e:(UInt8.ofNat (48+u)).toNat=48+u:=by rw [UInt8.toNat_ofNat'];omega
    refine⟨fun b hb=>?_,?_⟩
    ·simp only [Ad4,AdU,AaT,e]at hb;omega
    ·simp only [Ad4,AdU,e,Nq,AcX,AdM];omega
   ·rw [dif_neg h];obtain⟨h1,h2⟩:=ih (u / 10) (by omega);have e:(UInt8.ofNat (48+u % 10)).toNat=48+u % 10:=by rw [UInt8.toNat_ofNat'];omega
    refine⟨fun b hb=>?_,?_⟩
    ·rw [AcT,AbK]at hb;rcases hb with hb | hb
     ·exact h1 b hb
     ·simp only [Ad4,AdU,AaT,e]at hb;omega
    ·unfold Nq at h2 ⊢;rw [AcT,AcL,h2];simp only [Ad4,AdU,e,AcX,AdM];omega
theorem OV{q:Int}(h:0≤q):Ed q=(Go.Lib.decDigits q.toNat).map UInt8.toNat:=by
 unfold Ed Go.Lib.itoa;rw [if_neg (by omega)]
theorem JM{q:Int}(h:0≤q):∀b∈Ed q,48≤b∧b≤57:=by rw [OV h];exact(Qn _).1
theorem SX{q:Int}(h:0≤q):(Nq 0 (Ed q):Int)=q:=by rw [OV h,(Qn _).2];omega
theorem ST:∀(k u:Nat),u<10 ^ (k+1)→(Go.Lib.decDigits u).length≤k+1
 | 0,u,h=>by
   rw [Go.Lib.decDigits,dif_pos (by simpa using h)];simp
 | k+1,u,h=>by
   rw [Go.Lib.decDigits];by_cases h1:u<10
   ·rw [dif_pos h1];simp
   ·rw [dif_neg h1,AaS];have:=ST k (u / 10) (by rw [Nat.div_lt_iff_lt_mul (by decide)];rw [Nat.pow_succ]at h;omega);simp only [AbH,AbM];omega
theorem SW{q:Int}(h:0≤q∧q<65536):(Ed q).length≤5:=by
 rw [OV h.1,Ac5];exact ST 4 _ (by omega)
theorem WZ:∀(l:List Nat) (n:Nat),(∀b∈l,48≤b)→n≤Nq n l
 | [],n,_=>AbX _
 | b::l,n,h=>by
   have h1:=WZ l (10*n+(b - 48)) fun x hx=>h x (AcK _ hx);unfold Nq at h1 ⊢;rw [AcX];omega
theorem YI{p r:List Nat}{q:Int}(h0:0≤q)(h:Ed q=p++r):(Nq 0 p:Int)≤q:=by
 have h1:=JM h0;have h2:=SX h0;rw [h]at h1 h2;have h3:=WZ r (Nq 0 p) fun b hb=>(h1 b (Ad2 _ hb)).1;unfold Nq at h2 h3 ⊢;rw [AcL]at h2;omega
def Bp(l:List Int):List Nat:=l.flatMap fun q=>Ed q++[44]
theorem MF(l:List Int)(q:Int):Bp (l++[q])=Bp l++Ed q++[44]:=by
 unfold Bp;rw [Ad5];simp
theorem We{l:List Int}(h:∀q∈l,0≤q∧q<65536):∀b∈Bp l,b<256:=by
 intro b hb;obtain⟨q,hq,hb⟩:=AdD.1 hb;rcases AbK.1 hb with hb | hb
 ·have:=JM (h q hq).1 b hb;omega
 ·rw [AaT]at hb;omega
theorem I9:∀{l:List Int},(∀q∈l,0≤q∧q<65536)→(Bp l).length≤l.length*6
 | [],_=>AcZ _
 | q::l,h=>by
   have h1:=I9 (l:=l) fun x hx=>h x (AcK _ hx);have h2:=SW (h q (AcS ..));have h3:Bp (q::l)=(Ed q++[44])++Bp l:=by unfold Bp;rw [Ac8]
   rw [h3];simp only [AaS,AbH,AbM];omega
def mst(s:List Int×Nat)(b:Nat):List Int×Nat:=if b=44 then(s.1++[(s.2:Int)],0)else(s.1,10*s.2+(b - 48))
theorem ME:∀(p:List Nat) (acc:List Int) (n:Nat),(∀b∈p,48≤b∧b≤57)→p.foldl mst (acc,n)=(acc,Nq n p)
 | [],_,_,_=>rfl
 | b::p,acc,n,h=>by
   have hb:=h b (AcS ..);rw [AcX,show mst (acc,n) b=(acc,10*n+(b - 48)) by unfold mst;rw [if_neg (by omega)],ME p acc _ fun x hx=>h x (AcK _ hx)];rfl
theorem Tz{q:Int}(h:0≤q)(acc:List Int):(Ed q++[44]).foldl mst (acc,0)=(acc++[q],0):=by
 rw [AcL,ME _ _ _ (JM h)];show mst (acc,Nq 0 (Ed q)) 44=_;unfold mst;rw [if_pos rfl];simp only [SX h]
theorem LL:∀(l:List Int) (acc:List Int),(∀q∈l,0≤q)→(Bp l).foldl mst (acc,0)=(acc++l,0)
 | [],acc,_=>by simp [Bp]
 | q::l,acc,h=>by
   have h3:Bp (q::l)=(Ed q++[44])++Bp l:=by unfold Bp;rw [Ac8]
   rw [h3,AcL,Tz (h q (AcS ..)),LL l _ fun x hx=>h x (AcK _ hx)];simp
theorem Wf{l m:List Int}(hl:∀q∈l,0≤q)(hm:∀q∈m,0≤q)(h:Bp l=Bp m):l=m:=by
 have h1:=LL l [] hl;rw [h,LL m [] hm]at h1;simpa using h1.symm
theorem T0:∀(l:List Int) (acc:List Int) (i:Nat),(∀q∈l,0≤q∧q<65536)→(((Bp l).take i).foldl mst (acc,0)).2<65536∧∃k,k≤l.length∧(((Bp l).take i).foldl mst (acc,0)).1=acc++l.take k
 | [],acc,i,_=>by simp [Bp]
 | q::l,acc,i,h=>by
   have hq:=h q (AcS ..);have h3:Bp (q::l)=(Ed q++[44])++Bp l:=by unfold Bp;rw [Ac8]
   rw [h3];by_cases hi:i≤(Ed q).length
   ·have e:((Ed q++[44])++Bp l).take i=(Ed q).take i:=by
     rw [Ad1,List.take_append_of_le_length hi]
    rw [e,ME _ _ _ fun b hb=>JM hq.1 b (AdI hb)];have:=YI hq.1 (AdH i (Ed q)).symm;exact⟨by simp only;omega,0,AcZ _,by simp⟩
   ·have e:((Ed q++[44])++Bp l).take i=(Ed q++[44])++(Bp l).take (i - (Ed q).length - 1):=by
     rw [List.take_append,List.take_of_length_le (by simp only [AaS,AbH,AbM];omega)];simp only [AaS,AbH,AbM];rw [show i - ((Ed q).length+(0+1))=i - (Ed q).length - 1 by omega]
    rw [e,AcL,Tz hq.1];obtain⟨h1,k,hk,h2⟩:=T0 l (acc++[q]) (i - (Ed q).length - 1) fun x hx=>h x (AcK _ hx);exact⟨h1,k+1,by simp only [AbH];omega,by rw [h2];simp⟩
def nmB(l:List Int):ByteArray:=⟨((Bp l).map UInt8.ofNat).toArray⟩
theorem X4{l:List Nat}(h:∀x∈l,x<256):byN ⟨(l.map UInt8.ofNat).toArray⟩=l:=by
 unfold byN;rw [List.map_map];refine(AeC fun x hx=>?_).trans (List.map_id _);show(UInt8.ofNat x).toNat=x;rw [UInt8.toNat_ofNat'];exact Nat.mod_eq_of_lt (h x hx)
theorem OO{l:List Int}(h:∀q∈l,0≤q∧q<65536):byN (nmB l)=Bp l:=X4 (We h)
theorem Ym{l m:List Int}(hl:∀q∈l,0≤q∧q<65536)(hm:∀q∈m,0≤q∧q<65536)(h:nmB l=nmB m):l=m:=by
 have:=congrArg byN h;rw [OO hl,OO hm]at this;exact Wf (fun q hq=>(hl q hq).1) (fun q hq=>(hm q hq).1) this
theorem QJ{l:List Int}(h:∀q∈l,0≤q∧q<65536):(nmB l).size=(Bp l).length:=by
 rw [←ON,OO h]
section
variable{K:Type} [DecidableEq K]
def atF(most:Nat)(f:List K)(k:K):Option (List K×Nat):=match f.findIdx? (·=k)with
 | some i=>some (f,i)
 | none=>if f.length<most then some (f++[k],f.length)else none
def C3(most:Nat)(step:K→Nat→K)(x:K)(s:Option (List K×List Nat))(b:Nat):Option (List K×List Nat):=
 s.bind fun p=>(atF most p.1 (step x b)).map fun r=>(r.1,p.2++[r.2])
def Bv(most:Nat)(step:K→Nat→K)(bs:List Nat)(start:K):Nat→Option (List K×List (List Nat))
 | 0=>some ([start],[])
 | n+1=>(Bv most step bs start n).bind fun p=>match p.1[n]? with
   | none=>some p
   | some x=>(bs.foldl (C3 most step x) (some (p.1,[]))).map fun r=>(r.1,p.2++[r.2])
variable{most:Nat}{step:K→Nat→K}{bs:List Nat}{start:K}
theorem FI(x:K):∀l:List Nat,l.foldl (C3 most step x) none=none
 | []=>rfl
 | b::l=>by rw [AcX];exact FI x l
theorem JG{f f':List K}{k:K}{i:Nat}(h:atF most f k=some (f',i))(hl:f.length≤most)(hn:f.Nodup):f'[i]? =some k∧f'.length≤most∧f'.Nodup∧f <+: f':=by
 unfold atF at h;cases hf:f.findIdx? (·=k)with
 | some j=>
   rw [hf]at h;injection h with h
   injection h with h1 h2
   subst h1;subst h2;obtain⟨hj,h3,-⟩:=List.findIdx?_eq_some_iff_getElem.1 hf;have h3:f[j]=k:=by simpa using h3
   exact⟨by rw [AcW hj,h3],hl,hn,AeI _⟩
 | none=>
   rw [hf]at h;simp only at h;split at h
   ·rename_i hlt;injection h with h
    injection h with h1 h2
    subst h1;subst h2;have hno:k∉f:=fun hk=>by
     have:=List.findIdx?_eq_none_iff.1 hf k hk;simp at this
    refine⟨by simp,by simp only [AaS,AbH,AbM];omega,?_,List.prefix_append _ _⟩;rw [AeG];exact⟨hn,by simp,fun a ha b hb=>by rw [AaT]at hb;subst hb;intro e;subst e;exact hno ha⟩
   ·cases h
omit [DecidableEq K]in
theorem EX{f f':List K}{i:Nat}{k:K}(h:f <+: f')(hi:f[i]? =some k):f'[i]? =some k:=by
 obtain⟨t,rfl⟩:=h;rw [AcP (Ab8.1 hi).1];exact hi
structure Mb(most:Nat)(step:K→Nat→K)(bs:List Nat)(start:K)(n:Nat)(f:List K)(rows:List (List Nat)):Prop where
 len:f.length≤most
 nd:f.Nodup
 zero:f[0]? =some start
 rl:rows.length=n
 cols:∀row∈rows,row.length=bs.length
 ok:∀(i k:Nat) (row:List Nat) (b t:Nat) (x:K),rows[i]? =some row→bs[k]? =some b→row[k]? =some t→f[i]? =some x→f[t]? =some (step x b)
theorem RP{f:List K}{x:K}(hl:f.length≤most)(hn:f.Nodup):∀(k:Nat),k≤bs.length→∀(f':List K) (row:List Nat),(bs.take k).foldl (C3 most step x) (some (f,[]))=some (f',row)→
  f'.length≤most∧f'.Nodup∧f <+: f'∧row.length=k∧∀(j b t:Nat),bs[j]? =some b→row[j]? =some t→f'[t]? =some (step x b):=by
 intro k
 induction k with
 | zero=>
   intro _ f' row h;simp only [Ae4,AdM,Ad0.injEq,Prod.mk.injEq]at h;obtain⟨rfl,rfl⟩:=h;exact⟨hl,hn,AeI _,rfl,fun j b t _ h=>by simp at h⟩
 | succ k ih=>
   intro hk f' row h;obtain⟨b,hb⟩:=Ae (l:=bs) (k:=k) (by omega);rw [Af hb,AcL]at h;cases hp:(bs.take k).foldl (C3 most step x) (some (f,[]))with
   | none=>rw [hp]at h;cases h
   | some p=>
     obtain⟨f1,r1⟩:=p;obtain⟨i1,i2,i3,i4,i5⟩:=ih (by omega) f1 r1 hp;rw [hp]at h;simp only [AcX,AdM,C3,AdE]at h;cases ha:atF most f1 (step x b)with
     | none=>rw [ha]at h;cases h
     | some r=>
       obtain⟨f2,t2⟩:=r;rw [ha]at h;simp only [AeL,Ad0.injEq,Prod.mk.injEq]at h;obtain⟨rfl,rfl⟩:=h;obtain⟨a1,a2,a3,a4⟩:=JG ha i1 i2;refine⟨a2,a3,i3.trans a4,by simp [i4],fun j c t hc ht=>?_⟩;by_cases hj:j<k
       ·rw [AcP (by omega)]at ht;exact EX a4 (i5 j c t hc ht)
       ·have hjl:=(Ab8.1 ht).1;simp only [AaS,AbH,AbM]at hjl;obtain rfl:j=k:=by omega
        rw [hb]at hc;injection hc with hc
        subst hc;rw [AcU (by omega),i4,AeF]at ht;simp only [AdA,Ad0.injEq]at ht;subst ht;exact a1
theorem KZ{f:List K}{x:K}(hl:f.length≤most)(hn:f.Nodup){f':List K}{row:List Nat}(h:bs.foldl (C3 most step x) (some (f,[]))=some (f',row)):
  f'.length≤most∧f'.Nodup∧f <+: f'∧row.length=bs.length∧∀(j b t:Nat),bs[j]? =some b→row[j]? =some t→f'[t]? =some (step x b):=
 RP hl hn bs.length (AbX _) f' row (by rw [AbW];exact h)
theorem Ik(hm:1≤most):∀(n:Nat) (f:List K) (rows:List (List Nat)),Bv most step bs start n=some (f,rows)→(∀j,j<n→j<f.length)→Mb most step bs start n f rows
 | 0,f,rows,h,_=>by
   simp only [Bv,Ad0.injEq,Prod.mk.injEq]at h;obtain⟨rfl,rfl⟩:=h;exact⟨hm,by simp,rfl,rfl,(fun row h=>by cases h),fun i k row b t x h=>by simp at h⟩
 | n+1,f,rows,h,hlt=>by
   simp only [Bv]at h;cases hp:Bv most step bs start n with
   | none=>rw [hp]at h;cases h
   | some p=>
     obtain⟨f1,rows1⟩:=p;rw [hp]at h;simp only [AdE]at h;cases hx:f1[n]? with
     | none=>
       rw [hx]at h;simp only [Ad0.injEq,Prod.mk.injEq]at h;obtain⟨rfl,rfl⟩:=h;have:=hlt n (by omega);rw [AdS]at hx;omega
     | some x=>
       rw [hx]at h;simp only at h;cases hr:bs.foldl (C3 most step x) (some (f1,[]))with
       | none=>rw [hr]at h;cases h
       | some r=>
         obtain⟨f2,row⟩:=r;rw [hr]at h;simp only [AeL,Ad0.injEq,Prod.mk.injEq]at h;obtain⟨rfl,rfl⟩:=h;have hxl:=(Ab8.1 hx).1;have ih:=Ik hm n f1 rows1 hp fun j hj=>by omega
         obtain⟨g1,g2,g3,g4,g5⟩:=KZ ih.len ih.nd hr;refine⟨g1,g2,EX g3 ih.zero,by simp [ih.rl],fun r hr'=>?_,fun i k r b t y hi hk ht hy=>?_⟩
         ·rcases AbK.1 hr' with hr' | hr'
          ·exact ih.cols r hr'
          ·rw [AaT]at hr';subst hr';exact g4
         ·by_cases hin:i<n
          ·rw [AcP (by rw [ih.rl];exact hin)]at hi;obtain⟨y1,hy1⟩:=Ae (l:=f1) (k:=i) (by omega);have:=EX g3 hy1;rw [hy]at this;injection this with this
           subst this;exact EX g3 (ih.ok i k r b t y hi hk ht hy1)
          ·have hil:=(Ab8.1 hi).1;simp only [AaS,AbH,AbM,ih.rl]at hil;obtain rfl:i=n:=by omega
           rw [AcU (by rw [ih.rl];exact AbX _),ih.rl,AeF]at hi;simp only [AdA,Ad0.injEq]at hi;subst hi;have:=EX g3 hx;rw [hy]at this;injection this with this
           subst this;exact g5 k b t hk ht
theorem Jx{n:Nat}{f:List K}{rows:List (List Nat)}(h:Bv most step bs start n=some (f,rows))(hn:f.length≤n):∀m,n≤m→Bv most step bs start m=some (f,rows):=by
 intro m hm
 induction m with
 | zero=>obtain rfl:n=0:=by omega
         exact h
 | succ m ih=>
   by_cases he:n=m+1
   ·subst he;exact h
   ·have:=ih (by omega);simp only [Bv,this,AdE];rw [Ad3 (by omega)]
theorem Sz{n:Nat}(h:Bv most step bs start n=none):∀m,n≤m→Bv most step bs start m=none:=by
 intro m hm
 induction m with
 | zero=>obtain rfl:n=0:=by omega
         exact h
 | succ m ih=>
   by_cases he:n=m+1
   ·subst he;exact h
   ·have:=ih (by omega);simp only [Bv,this,Option.bind_none]
def Ep(most:Nat)(step:K→Nat→K)(bs:List Nat)(start:K):Option (List K×List (List Nat)):=Bv most step bs start most
theorem NE{n:Nat}{f:List K}{rows:List (List Nat)}(h:Bv most step bs start n=some (f,rows))(hn:f.length=n)(hl:f.length≤most):Ep most step bs start=some (f,rows):=
 Jx h (by omega) most (by omega)
theorem NF{n:Nat}(h:Bv most step bs start (n+1)=none)(hn:n<most):Ep most step bs start=none:=Sz h most hn
end
end Go.Proofs.YtfbghcpdinlmcaaGreatDoor
namespace Go.VC
section
variable{α:Type}{T:Ty α}{e te:TypeId}{nb:Nat}{vs:List Value}{xs:List (List α)}{B:Nat→Prop}{H0 H H1:Aa}{ps:List Pc}
theorem YQ{P:Program}{tt ty q by_ t cap2:Nat}{z:Value}{a:Option Addr}{n cap:Nat}{ds:List Value}{x:List α}{y:α}{K:Value→Aa→Prop}(st:StB B H0 H ps)(i:Nat)(ht:SlT P tt e T.size by_ z)(hp:ps[i]? =some (pT T e te nb vs xs))(hv:vs[t]? =some (.slice a n cap))(hx:xs[t]? =some x)
  (hd:AX H q 0 ds) (hy:T.rep none_ H ds y) (hw:ds.all (·.oneCell')=true) (h63:x.length+1≤34359738368) (hby:by_≤1024)
  (k:∀a' cap' H1,Mid T B H0 H H1 ps i e te nb vs xs t (.slice a' (x.length+1) cap') (x++[y])→Agr (fun k=>k<H.size∧¬slB (.slice a n cap) k) H H1→K (.slice a' (x.length+1) cap') H1):BN P (Builtin.append_ #[tt,tt] ty [.slice a n cap,.slice (some ⟨q,0,none⟩) 1 cap2].toArray) H K:=by
 have tab:=st.tab i hp;have hown:=tab.own t _ _ hv hx;refine CW (T:=T) (S:=none_) (lo:=nb+1) (ys:=[y]) ht hown tab.blk.lt (fun k hk=>hk.elim) hd (Ty.reps_one hy) rfl (fun u hu=>List.all_eq_true.1 hw u hu) (by unfold maxLen;simp only [AaU];omega) (by have:=AeP h63 hby;simp only [AaU];omega) ?_;intro v' H1 hown1 hagr hsz hfr;obtain⟨a',cap',rfl⟩:=hown1.hull;rw [AaS,AaU]at hown1 hfr ⊢;exact k a' cap' H1 ⟨st,hp,hown1,⟨_,hv,hagr,hfr⟩,hsz⟩ hagr
theorem StB.rowNe(st:StB B H0 H ps)(i:Nat)(hp:ps[i]? =some (pT T e te nb vs xs)){t:Nat}{v:Value}{x:List α}(hv:vs[t]? =some v)(hx:xs[t]? =some x):¬slB v nb:=fun h=>by
 have hown:=(st.tab i hp).own t _ _ hv hx;have:=(hown.lt h).1;omega
end
end Go.VC
namespace Go.Proofs.YtfbghcpdinlmcaaGreatDoor
open Go.VC
section
variable{β:Type}
def grp(n:Nat)(key:EdM→Option (Nat×β))(l:List EdM):List (List β):=(Ad9 n).map fun q=>l.filterMap fun e=>(key e).bind fun p=>if p.1=q then some p.2 else none
theorem Dv(n:Nat)(key:EdM→Option (Nat×β))(l:List EdM):(grp n key l).length=n:=by simp [grp]
theorem Hg{n q:Nat}(key:EdM→Option (Nat×β))(l:List EdM)(h:q<n):(grp n key l)[q]? =some (l.filterMap fun e=>(key e).bind fun p=>if p.1=q then some p.2 else none):=by
 unfold grp;rw [AcQ,List.getElem?_range h];rfl
theorem Pg(n:Nat)(key:EdM→Option (Nat×β)):grp n key []=AcN n []:=by
 unfold grp;simp [List.map_const']
theorem FN{n:Nat}{key:EdM→Option (Nat×β)}{l:List EdM}{e:EdM}(h:key e=none):grp n key (l++[e])=grp n key l:=by
 unfold grp;refine AeC fun q _=>?_;rw [Ae5];simp [h]
theorem M3{n q:Nat}{key:EdM→Option (Nat×β)}{l:List EdM}{e:EdM}{y:β}{row:List β}(h:key e=some (q,y))(hr:(grp n key l)[q]? =some row):grp n key (l++[e])=(grp n key l).set q (row++[y]):=by
 have hq:q<n:=by have:=(Ab8.1 hr).1;rwa [Dv]at this
 rw [Hg key l hq]at hr;injection hr with hr
 apply List.ext_getElem?;intro j;by_cases hj:j<n
 ·rw [Hg key _ hj,Ae5,List.getElem?_set,Dv,Hg key _ hj];by_cases hjq:q=j
  ·subst hjq;rw [if_pos rfl,if_pos hj,←hr];simp [h]
  ·rw [if_neg hjq];simp [h,hjq]
 ·rw [Ad3 (by rw [Dv];omega),Ad3 (by rw [List.length_set,Dv];omega)]
end
def Fj(a:NfM):Nat:=if 0≤a.st∧a.st≤65536 then a.st.toNat else 0
theorem Pz(a:NfM):Fj a≤65536:=by unfold Fj;split<;>omega
theorem Qy(a:NfM)(q:Int):a.has q=(decide (0≤q)&&decide (q<(Fj a:Int))):=by
 rw [Bool.eq_iff_iff,NfM.has_iff];unfold Fj;simp only [AcM,decide_eq_true_eq];split<;>omega
def okE(a:NfM)(e:EdM):Bool:=a.has e.fr&&a.has e.to
def keyS(a:NfM)(e:EdM):Option (Nat×Int):=if okE a e&&e.sil then some (e.fr.toNat,e.to)else none
def Jm(a:NfM)(e:EdM):Option (Nat×EdM):=if okE a e&& !e.sil then some (e.fr.toNat,e)else none
def Aa5(a:NfM):List (List Int):=grp (Fj a) (keyS a) a.edges
def Nm(a:NfM):List (List EdM):=grp (Fj a) (Jm a) a.edges
abbrev tNt:TypeId:=172
def ntL(sv tv:Value)(n:Nat):List Value:=[sv,tv,.int .i64 (n:Int)]
def Lr(S:Nat→Prop)(H:Aa)(v:Value)(a:NfM):Prop:=∃nb sa sc ta tc,v= .pointer (some ⟨nb,0,none⟩)∧S nb∧AX H nb 0 (ntL (.slice sa (Fj a) sc) (.slice ta (Fj a) tc) (Fj a))∧SlD (tSl tIk) S H sa sc (Aa5 a)∧SlD (tSl tEd) S H ta tc (Nm a)
theorem Lr.frame{S:Nat→Prop}{H H':Aa}{v:Value}{a:NfM}(h:Lr S H v a)(k:Agr S H H'):Lr S H' v a:=by
 obtain⟨nb,sa,sc,ta,tc,h1,h2,h3,h4,h5⟩:=h;exact⟨nb,sa,sc,ta,tc,h1,h2,h3.eq (k nb h2),h4.frame k,h5.frame k⟩
theorem Lr.mono{S S':Nat→Prop}{H:Aa}{v:Value}{a:NfM}(h:Lr S H v a)(k:∀i,S i→S' i):Lr S' H v a:=by
 obtain⟨nb,sa,sc,ta,tc,h1,h2,h3,h4,h5⟩:=h;exact⟨nb,sa,sc,ta,tc,h1,k _ h2,h3,h4.mono k,h5.mono k⟩
theorem Sj{H:Aa}{nb:Nat}{sv tv:Value}{a:NfM}{q:Int}(h:AX H nb 0 (ntL sv tv (Fj a))):BX Tryz.prog 88 #[.pointer (some ⟨nb,0,none⟩),.int .i64 q] H (.bool (a.has q)):=by
 refine Al.of_vc Tryz.func88 rfl (Tryz.call88 _) ?_;by_cases h0:0≤q
 ·have d0:decide ((0:Int)≤q)=true:=decide_eq_true h0;(conv=>whnf);rw [d0];refine fa LE (ld1 (v:=.int .i64 (Fj a:Int)) ct3 (h 2 _ rfl) trivial ?_);(conv=>whnf);exact⟨by rw [Qy,d0,AdQ],Agr.refl _ _⟩
 ·have d0:decide ((0:Int)≤q)=false:=decide_eq_false h0;(conv=>whnf);rw [d0];(conv=>whnf);exact⟨by rw [Qy,d0,AcR],Agr.refl _ _⟩
theorem nt_z:(Tryz.prog.info? 172).bind (·.zero)=some (.agg #[.slice none 0 0,.slice none 0 0,.int .i64 0]):=rfl
theorem Yx{S:Nat→Prop}{H:Aa}{v:Value}{a:NfM}(hS:∀k,S k→k<H.size)(h:NfV S H v a):
  Al Tryz.prog 87 #[v] H fun r H'=>Agr (Old H) H H'∧Lr (Old H') H' r a:=by
 have hr:=h.1;have hl:=h.2.1;refine Al.of_vc Tryz.func87 rfl (Tryz.call87 _) (Py h fun ea ec he0 h1=>?_);subst he0;intro p H1 hp hs1 hb1 ha1;have st1:=(St.nil H).box hp hs1 hb1 ha1;refine Aw Tryz.underlying172 rfl _ nt_z (ntL (.slice none 0 0) (.slice none 0 0) 0) rfl (Cq (ntL (.slice none 0 0) (.slice none 0 0) 0) rfl ?_);intro nb H2 hnb hs2 hb2 ha2;have st2:=st1.box hnb hs2 hb2 ha2;have hnle:=Pz a;obtain⟨n,hn⟩:∃n,n=Fj a:=⟨_,rfl⟩;rw [←hn]at hnle;have hp2:=st2.blk 0 rfl;have cond:∀c:Bool,c=(decide ((0:Int)≤a.st)&&decide (a.st≤65536))→(c=true→(n:Int)=a.st)∧(c=false→n=0):=by
  intro c hc;rw [hc,hn];unfold Fj;constructor
  ·intro h;simp only [AcM,decide_eq_true_eq]at h;rw [if_pos h];omega
  ·intro h;rw [if_neg fun h2=>by simp [h2.1,h2.2]at h]
 (conv=>whnf);refine Av.cut (α:=Unit) [] (fun _=>[]) (fun _ H3=>St H H3 [pB 76 p (nfL a (.slice ea a.edges.length ec)),pB tNt nb (ntL (.slice none 0 0) (.slice none 0 0) n)]) ?_ ?_
 ·refine fa Du ?_;refine ld1 (v:=.int .i64 a.st) ct3 (by rw [hp2.cell];rfl) trivial ?_;by_cases h0:0≤a.st
  ·have d0:decide ((0:Int)≤a.st)=true:=decide_eq_true h0;(conv=>whnf);rw [d0];refine fa Du ?_;refine ld1 (v:=.int .i64 a.st) ct3 (by rw [hp2.cell];rfl) trivial ?_;by_cases h6:a.st≤65536
   ·have d6:decide (a.st≤(65536:Int))=true:=decide_eq_true h6;have hns:(n:Int)=a.st:=(cond true (by rw [d0,d6];rfl)).1 rfl;(conv=>whnf);rw [d6];refine fa Du ?_;refine ld1 (v:=.int .i64 a.st) ct3 (by rw [hp2.cell];rfl) trivial ?_;refine fa LE (AZ st2 1 ct3 rfl (show 2<3 by decide) rfl fun H3 st3=>(⟨rfl,(),rfl,?_⟩));unfold ntL;rw [hns];exact st3
   ·have d6:decide (a.st≤(65536:Int))=false:=decide_eq_false h6;obtain rfl:n=0:=(cond false (by rw [d0,d6];rfl)).2 rfl;(conv=>whnf);rw [d6];(conv=>whnf);exact⟨rfl,(),rfl,st2⟩
  ·have d0:decide ((0:Int)≤a.st)=false:=decide_eq_false h0;obtain rfl:n=0:=(cond false (by rw [d0];rfl)).2 rfl;(conv=>whnf);rw [d0];(conv=>whnf);exact⟨rfl,(),rfl,st2⟩
 ·rintro⟨⟩ H3 junk3 st3;refine fa LE ?_;refine ld1 (v:=.int .i64 (n:Int)) ct3 (by rw [(st3.blk 1 rfl).cell];rfl) trivial ?_;refine FY FC rfl (by omega) (by omega) (by omega) (by omega) ?_;intro sb H4 hsb hs4 hb4 ha4;rw [AbV]at hb4 ⊢;have st4:=st3.tabNew tIk 3 hsb hs4 hb4 ha4;refine fa LD (AZ st4 1 Lt rfl (show 0<3 by decide) rfl fun H5 st5=>(fa LE ?_));refine ld1 (v:=.int .i64 (n:Int)) ct3 (by rw [(st5.blk 1 rfl).cell];rfl) trivial ?_;refine FY Rg rfl (by omega) (by omega) (by omega) (by omega) ?_;intro tb H6 htb hs6 hb6 ha6;rw [AbV]at hb6 ⊢;have st6:=st5.tabNew tEd 174 htb hs6 hb6 ha6;refine fa JR (AZ st6 1 Qm rfl (show 1<3 by decide) rfl fun H7 st7=>?_);have hp7:=st7.blk 0 rfl;refine fa D4 ?_;refine ld1 (v:=.slice ea a.edges.length ec) Gy (by rw [hp7.cell];rfl) trivial ?_;(conv=>whnf);refine AK.mk [40] (fun i:Nat=>[.int .i64 (i:Int)]) (fun i H8=>i≤a.edges.length∧∃vs vt,St H H8 [pB 76 p (nfL a (.slice ea a.edges.length ec)),pB tNt nb (ntL (.slice (some ⟨sb,0,none⟩) n n) (.slice (some ⟨tb,0,none⟩) n n) n),pT tIk 3 41 sb vs (grp n (keyS a) (a.edges.take i)),pT tEd 174 74 tb vt (grp n (Jm a) (a.edges.take i))]) (fun i _=>a.edges.length - i) ?_ ?_
  ·(conv=>whnf);refine⟨0,rfl,AcZ _,AcN n (.slice none 0 0),AcN n (.slice none 0 0),?_⟩;rw [Ae4,Pg,Pg];exact st7
  ·rintro i H8 junk8 ⟨hi,vs,vt,st8⟩;refine AN.mk (fun hz=>?_) (fun hz=>?_)<;>simp only [decide_eq_true_eq,decide_eq_false_iff_not]at hz
   ·obtain⟨e,he⟩:=Ae (l:=a.edges) (k:=i) (by omega);refine Av.run (ixr (i:=i) GE (h1.frame (st8.old.mono hS)) he rfl ?_);rintro b6 o6 c6 hS6 hc6 ⟨rfl,hok⟩;refine ldN (cs:=edL e) Mf hc6 trivial (An _ [.int .i64 0,.int .i64 0,.bool false,.int .u64 0,.int .u64 0,.int .u64 0,.int .u64 0] Jf rfl ?_);intro x H9 hx hs9 hb9 ha9;have st9':=st8.box hx hs9 hb9 ha9;refine AI (cs:=edL e) st9' 4 rfl rfl (AbX _) rfl fun H10 st10=>?_;rw [Ax (show(edL e).length=7 from rfl)]at st10;clear st9' hs9 hb9 ha9;obtain⟨H9,rfl⟩:∃H9,H9=H10:=⟨_,rfl⟩;have st9:=st10;have hX:=st9.blk 4 rfl;have hcells:AX H9 nb 0 (ntL (.slice (some ⟨sb,0,none⟩) n n) (.slice (some ⟨tb,0,none⟩) n n) (Fj a)):=by
     rw [←hn];exact(st9.blk 1 rfl).cells fun j v hv=>by rw [AaV];exact hv
    refine fa Gj ?_;refine ld1 (v:=.int .i64 e.fr) ct3 (by rw [hX.cell];rfl) trivial ?_;refine Am (Sj hcells) fun H14 ha14=>?_;have st14:=st9.call ha14;cases hf:a.has e.fr with
    | false=>
      have k1:keyS a e=none:=by unfold keyS okE;rw [hf,AcR,AcR];rfl
      have k2:Jm a e=none:=by unfold Jm okE;rw [hf,AcR,AcR];rfl
      have g1:=FN (n:=n) (l:=a.edges.take i) k1;have g2:=FN (n:=n) (l:=a.edges.take i) k2;rw [←Af he]at g1 g2;(conv=>whnf);rw [w64 (x:=(i:Int)+1) (by omega) (by omega)];refine⟨rfl,i+1,by simp,⟨by omega,vs,vt,?_⟩,by omega⟩;rw [g1,g2];exact st14.pick [0,1,2,3] (by decide)
    | true=>
      refine fa I6 ?_;refine ld1 (v:=.int .i64 e.to) ct3 (by rw [(st14.blk 4 rfl).cell];rfl) trivial ?_;refine Am (Sj (hcells.eq (ha14 nb (st9.in_ 1 rfl rfl).2))) fun Hq ha15=>?_;have stq:=st14.call ha15;cases ht:a.has e.to with
      | false=>
        have k1:keyS a e=none:=by unfold keyS okE;rw [hf,ht,Ae6,AcR];rfl
        have k2:Jm a e=none:=by unfold Jm okE;rw [hf,ht,Ae6,AcR];rfl
        have g1:=FN (n:=n) (l:=a.edges.take i) k1;have g2:=FN (n:=n) (l:=a.edges.take i) k2;rw [←Af he]at g1 g2;(conv=>whnf);rw [w64 (x:=(i:Int)+1) (by omega) (by omega)];refine⟨rfl,i+1,by simp,⟨by omega,vs,vt,?_⟩,by omega⟩;rw [g1,g2];exact stq.pick [0,1,2,3] (by decide)
      | true=>
        have hfr:=NfM.has_iff.1 hf;have hfn:0≤e.fr∧e.fr<(n:Int):=by
         have:=Qy a e.fr;rw [hf,←hn]at this;simpa using this.symm
        have htn:e.fr.toNat<n:=by omega
        refine fa Th ?_;refine ld1 (v:=.bool e.sil) ct4 (by rw [(stq.blk 4 rfl).cell];rfl) trivial ?_;cases hsl:e.sil with
        | true=>
          (conv=>whnf);obtain⟨row,hrow⟩:=Ae (l:=grp n (keyS a) (a.edges.take i)) (k:=e.fr.toNat) (by rw [Dv];omega);have hrl:row.length≤i:=by
           rw [Hg _ _ (show e.fr.toNat<n by omega)]at hrow;injection hrow with hrow
           rw [←hrow];exact AdJ (Ad6 _ _) (AeD _ _)
          obtain⟨ra,rc,hvr,-⟩:=stq.row 2 rfl hrow;have hne:=stq.rowNe 2 rfl hvr hrow;have foot:∀k,slB (.slice ra row.length rc) k→(pT tIk 3 41 sb vs (grp n (keyS a) (a.edges.take i))).foot k:=fun k hk=>.inr ⟨e.fr.toNat,_,hvr,hk⟩;have d1:=stq.apart2 (i:=1) (j:=2) rfl rfl (by decide);have d4:=stq.apart2 (i:=4) (j:=2) rfl rfl (by decide);have qn:nb<Hq.size∧¬slB (.slice ra row.length rc) nb:=⟨(stq.in_ 1 rfl rfl).2,fun h=>d1 nb rfl (foot nb h)⟩;have qx:x<Hq.size∧¬slB (.slice ra row.length rc) x:=⟨(stq.in_ 4 rfl rfl).2,fun h=>d4 x rfl (foot x h)⟩;have qt:sb<Hq.size∧¬slB (.slice ra row.length rc) sb:=⟨(stq.in_ 2 rfl (.inl rfl)).2,hne⟩;have hbq:=stq.blk 1 rfl;have hxq:=stq.blk 4 rfl;refine Ar.heldZ (fun k=>k<Hq.size∧¬slB (.slice ra row.length rc) k) [19] (sq [0,1,2,3,4,5,6,7,8,9,10,11,12,13,14,15] (.f 16 (.f 17 (sq [18] (.f 19 .e))))) rfl (by kernel_rfl) (fa LD ?_);refine ld1 (v:=.slice (some ⟨sb,0,none⟩) n n) Lt (by rw [hbq.cell];rfl) qn ?_;refine fa Gj ?_;refine ld1 (v:=.int .i64 e.fr) ct3 (by rw [hxq.cell];rfl) qx ?_;refine fa LD ?_;refine ld1 (v:=.slice (some ⟨sb,0,none⟩) n n) Lt (by rw [hbq.cell];rfl) qn ?_;refine fa Gj ?_;refine ld1 (v:=.int .i64 e.fr) ct3 (by rw [hxq.cell];rfl) qx ?_;refine ix FC (by omega) (by omega) (ld1 F4 (stq.tcell 2 rfl hvr (by rw [AaV,Ae3])) qt (fa I6 ?_));refine ld1 (v:=.int .i64 e.to) ct3 (by rw [hxq.cell];rfl) qx ?_;refine AG AW [.int .i64 e.to] rfl rfl (by decide) (by decide) ?_;intro q11 H11 hq11 hs11 hb11 ha11;have st11:=stq.skip hq11 ha11;refine⟨ha11.mono fun k hk=>by have:=hk.1;omega,?_⟩;refine YQ (ds:=[.int .i64 e.to]) (y:=e.to) st11 2 AW rfl hvr hrow (hb11.cells fun j v hv=>by rw [AaV];exact hv) ⟨rfl,hok.2⟩ rfl (by omega) (by decide) fun wa wc H12 mid ha12=>?_;refine⟨(ha11.mono fun k hk=>by have:=hk.1;omega).trans (ha12.mono fun k hk=>⟨by have:=hk.1;omega,hk.2⟩),?_⟩;refine ix FC (by omega) (by omega) (stT mid F4 (by rw [AaV,Ae3]) fun H13 st13=>?_);have hk1:keyS a e=some (e.fr.toNat,e.to):=by unfold keyS okE;rw [hf,ht,hsl];rfl
          have hk2:Jm a e=none:=by unfold Jm okE;rw [hf,ht,hsl];rfl
          have g1:=M3 hk1 hrow;have g2:=FN (n:=n) (l:=a.edges.take i) hk2;rw [←Af he]at g1 g2;(conv=>whnf);rw [w64 (x:=(i:Int)+1) (by omega) (by omega)];refine⟨rfl,i+1,by simp,⟨by omega,vs.set e.fr.toNat (.slice wa (row.length+1) wc),vt,?_⟩,by omega⟩;rw [g1,g2];exact st13.pick [0,1,2,3] (by decide)
        | false=>
          (conv=>whnf);obtain⟨row,hrow⟩:=Ae (l:=grp n (Jm a) (a.edges.take i)) (k:=e.fr.toNat) (by rw [Dv];omega);have hrl:row.length≤i:=by
           rw [Hg _ _ (show e.fr.toNat<n by omega)]at hrow;injection hrow with hrow
           rw [←hrow];exact AdJ (Ad6 _ _) (AeD _ _)
          obtain⟨ra,rc,hvr,-⟩:=stq.row 3 rfl hrow;have hne:=stq.rowNe 3 rfl hvr hrow;have foot:∀k,slB (.slice ra row.length rc) k→(pT tEd 174 74 tb vt (grp n (Jm a) (a.edges.take i))).foot k:=fun k hk=>.inr ⟨e.fr.toNat,_,hvr,hk⟩;have d1:=stq.apart2 (i:=1) (j:=3) rfl rfl (by decide);have d4:=stq.apart2 (i:=4) (j:=3) rfl rfl (by decide);have qn:nb<Hq.size∧¬slB (.slice ra row.length rc) nb:=⟨(stq.in_ 1 rfl rfl).2,fun h=>d1 nb rfl (foot nb h)⟩;have qx:x<Hq.size∧¬slB (.slice ra row.length rc) x:=⟨(stq.in_ 4 rfl rfl).2,fun h=>d4 x rfl (foot x h)⟩;have qt:tb<Hq.size∧¬slB (.slice ra row.length rc) tb:=⟨(stq.in_ 3 rfl (.inl rfl)).2,hne⟩;have hbq:=stq.blk 1 rfl;have hxq:=stq.blk 4 rfl;refine Ar.heldZ (fun k=>k<Hq.size∧¬slB (.slice ra row.length rc) k) [18] (sq [0,1,2,3,4,5,6,7,8,9,10,11,12,13,14] (.f 15 (.f 16 (sq [17] (.f 18 .e))))) rfl (by kernel_rfl) (fa JR ?_);refine ld1 (v:=.slice (some ⟨tb,0,none⟩) n n) Qm (by rw [hbq.cell];rfl) qn ?_;refine fa Gj ?_;refine ld1 (v:=.int .i64 e.fr) ct3 (by rw [hxq.cell];rfl) qx ?_;refine fa JR ?_;refine ld1 (v:=.slice (some ⟨tb,0,none⟩) n n) Qm (by rw [hbq.cell];rfl) qn ?_;refine fa Gj ?_;refine ld1 (v:=.int .i64 e.fr) ct3 (by rw [hxq.cell];rfl) qx ?_;refine ix Rg (by omega) (by omega) (ld1 Gy (stq.tcell 3 rfl hvr (by rw [AaV,Ae3])) qt ?_);refine ldN (cs:=edL e) Mf (hxq.cells fun j v hv=>by rw [AaV];exact hv) qx ?_;refine AG GE (edL e) rfl rfl (by decide) (by decide) ?_;intro q11 H11 hq11 hs11 hb11 ha11;have st11:=stq.skip hq11 ha11;refine⟨ha11.mono fun k hk=>by have:=hk.1;omega,?_⟩;refine YQ (ds:=edL e) (y:=e) st11 3 GE rfl hvr hrow (hb11.cells fun j v hv=>by rw [AaV];exact hv) ⟨rfl,hok⟩ (Ge e) (by omega) (by decide) fun wa wc H12 mid ha12=>?_;refine⟨(ha11.mono fun k hk=>by have:=hk.1;omega).trans (ha12.mono fun k hk=>⟨by have:=hk.1;omega,hk.2⟩),?_⟩;refine ix Rg (by omega) (by omega) (stT mid Gy (by rw [AaV,Ae3]) fun H13 st13=>?_);have hk1:Jm a e=some (e.fr.toNat,e):=by unfold Jm okE;rw [hf,ht,hsl];rfl
          have hk2:keyS a e=none:=by unfold keyS okE;rw [hf,ht,hsl];rfl
          have g1:=M3 hk1 hrow;have g2:=FN (n:=n) (l:=a.edges.take i) hk2;rw [←Af he]at g1 g2;(conv=>whnf);rw [w64 (x:=(i:Int)+1) (by omega) (by omega)];refine⟨rfl,i+1,by simp,⟨by omega,vs,vt.set e.fr.toNat (.slice wa (row.length+1) wc),?_⟩,by omega⟩;rw [g1,g2];exact st13.pick [0,1,2,3] (by decide)
   ·obtain rfl:i=a.edges.length:=by omega
    rw [AbW]at st8;(conv=>whnf);refine⟨st8.old,nb,some ⟨sb,0,none⟩,n,some ⟨tb,0,none⟩,n,rfl,(st8.in_ 1 rfl rfl).2,?_,?_,?_⟩
    ·rw [←hn];exact(st8.blk 1 rfl).cells fun j v hv=>by rw [AaV];exact hv
    ·have:=st8.tview 2 rfl (by rw [Dv];unfold maxLen;omega);unfold Aa5;rw [←hn];rw [Dv]at this;exact this
    ·have:=st8.tview 3 rfl (by rw [Dv];unfold maxLen;omega);unfold Nm;rw [←hn];rw [Dv]at this;exact this
theorem N7{S:Nat→Prop}{H:Aa}:∀xs:List Bool,Cn.reps S H (xs.map Value.bool) xs
 | []=>rfl
 | x::xs=>⟨[.bool x],xs.map Value.bool,rfl,rfl,N7 xs⟩
abbrev tI:Ty Int:=Gb .i64
abbrev It:Ty (List Int):=tSl tI
theorem Y3(ca na fa:Option Addr)(cc nc fc fl:Nat)(cells:List (BitVec 256))(next:List (List Int))(S:Nat→Prop)(H:Aa)(hS:∀k,S k→k<H.size)
  (hc:SlD C7 S H ca cc cells) (hn:SlD It S H na nc next) (hfl:fl≤9223372036854775807):
  BX Tryz.prog 115 #[.slice ca cells.length cc,.slice na next.length nc,.slice fa fl fc] H (.bool (B8 cells next fl)):=by
 have lc:=hc.le;have ln:=hn.le;unfold maxLen at lc ln;refine Al.of_vc Tryz.func115 rfl (Tryz.call115 _) (An (Bt 0) (Ac 0) rfl rfl ?_);intro p H1 hp hs1 hb1 ha1;(conv=>whnf);refine AK.mk [16] (fun k:Nat=>[.int .i64 k]) (fun k H2=>k≤cells.length∧Agr (Old H) H H2∧p<H2.size∧∃all,DN 0#256 (cells.take k)=some all∧Blk H2 p 101 (Ac all)) (fun k _=>cells.length - k) ?_ ?_
 ·(conv=>whnf);exact⟨0,rfl,by omega,ha1.mono (fun k hk=>by unfold Old at hk;omega),by omega,0,rfl,hb1⟩
 ·rintro k H2 junk ⟨hk,ha2,hp2,all,hall,hb2⟩;(conv=>whnf);refine AN.mk (fun h=>?_) (fun h=>?_)<;>simp only [decide_eq_true_eq,decide_eq_false_iff_not]at h
  ·obtain⟨c,hck⟩:=Ae (l:=cells) (k:=k) (by omega);refine ixr CK (hc.frame (ha2.mono hS)) hck rfl ?_;rintro b o cs hSb hcells rfl;refine ldN (cs:=Ac c) AP hcells trivial (An (Bt 0) (Ac 0) rfl rfl ?_);intro q H3 hq hs3 hb3 ha3;refine stN rfl hb3 (show 0+4≤4 by decide) rfl ?_;intro H4 hb4 ha4 hs4;have hb4':Blk H4 q 101 (Ac c):=hb4;have hb2':Blk H4 p 101 (Ac all):=(hb2.agr ha3 (show p<q by omega)).agr ha4 (show p≠q by omega);refine ldN (cs:=Ac all) AP (hb2'.cells (fun j v hv=>by simpa using hv)) trivial (ldN (cs:=Ac c) AP (hb4'.cells (fun j v hv=>by simpa using hv)) trivial (Am (Sf all c H4) ?_));intro H5 ha5;refine Ct Cc (Bt 0) rfl (Ac 0) rfl (LQ (all &&& c) 0#256 ?_);have hA:Agr (Old H) H H5:=(ha2.trans ((ha3.mono (fun k hk=>by unfold Old at hk;omega)).trans (ha4.mono (fun k hk=>by unfold Old at hk;omega)))).trans (ha5.mono (fun k hk=>by unfold Old at*;omega));by_cases hm:all &&& c=0#256
   ·rw [show decide (all &&& c=0#256)=true by simpa using hm];have hb5:=hb2'.agr ha5 (show p<H4.size by omega);have hb5':=hb4'.agr ha5 (show q<H4.size by omega);refine ldN (cs:=Ac all) AP (hb5.cells (fun j v hv=>by simpa using hv)) trivial (ldN (cs:=Ac c) AP (hb5'.cells (fun j v hv=>by simpa using hv)) trivial (Am (FD all c H5) ?_));intro H6 ha6;refine stN rfl (hb5.agr ha6 hb5.lt) (show 0+4≤4 by decide) rfl ?_;intro H7 hb7 ha7 hs7;(conv=>whnf);rw [w64 (x:=(k:Int)+1) (by omega) (by omega)];have h56:=Bl ha6;have h45:=Bl ha5;refine⟨rfl,k+1,by simp,⟨by omega,?_,by omega,all ||| c,?_,hb7⟩,by omega⟩
    ·exact(hA.trans (ha6.mono (fun k hk=>by unfold Old at*;omega))).trans (ha7.mono (fun k hk=>by unfold Old at hk;omega))
    ·rw [Af hck,KX hall,if_pos hm]
   ·rw [show decide (all &&& c=0#256)=false by simpa using hm];(conv=>whnf);refine⟨?_,hA⟩;have:DN 0#256 cells=none:=by
     rw [←AdH (k+1) cells,IR,Af hck,KX hall,if_neg hm];rfl
    simp [B8,this]
  ·have hkc:k=cells.length:=by omega
   subst hkc;rw [AbW]at hall;(conv=>whnf);refine Ar.quiet (Old H2) rfl (by kernel_rfl) ?_;have hOld:∀{H':Aa},Agr (Old H2) H2 H'→Agr (fun k=>k<H.size) H H':=fun h=>ha2.trans (h.mono (fun k hk=>by unfold Old at*;omega));refine ldN (cs:=Ac all) AP (hb2.cells (fun j v hv=>by simpa using hv)) hp2 (Ac2 (fun H' _=>FV 0 255 (by decide) (by decide) H') (LQ all (A8 0 255) ?_));rw [J6];refine AN.mk (fun h1=>?_) (fun h1=>?_)<;>simp only [AeH,Bool.not_eq_false',decide_eq_true_eq,decide_eq_false_iff_not]at h1
   ·(conv=>whnf);intro H5 ha5;(conv=>whnf);exact⟨by
     have e:(all==AcO 256)=false:=beq_eq_false_iff_ne.2 h1;rw [B8,hall];simp only [e,AcR],hOld ha5⟩
   refine AN.mk (fun h2=>?_) (fun h2=>?_)<;>simp only [decide_eq_true_eq,decide_eq_false_iff_not]at h2
   ·(conv=>whnf);intro H5 ha5;(conv=>whnf);exact⟨by simp [B8,hall,show¬1≤next.length by omega],hOld ha5⟩
   refine AN.mk (fun h3=>?_) (fun h3=>?_)<;>simp only [decide_eq_true_eq,decide_eq_false_iff_not]at h3
   ·(conv=>whnf);intro H5 ha5;(conv=>whnf);exact⟨by simp [B8,hall,show¬next.length≤65536 by omega],hOld ha5⟩
   (conv=>whnf);intro H5 ha5;refine AN.mk (fun h4=>?_) (fun h4=>?_)<;>simp only [bne_iff_ne,ne_eq,bne_eq_false_iff_eq]at h4
   ·(conv=>whnf);exact⟨by simp [B8,hall,show¬next.length=fl by omega],hOld ha5⟩
   have h4':next.length=fl:=by omega
   have hsound:B8 cells next fl=next.all (GU next.length cells.length):=by
    have e:(all==AcO 256)=true:=beq_iff_eq.2 h1;rw [B8,hall];simp only [e,decide_eq_true (show 1≤next.length by omega),decide_eq_true (show next.length≤65536 by omega),beq_iff_eq.2 h4',Bool.and_self,AdQ]
   rw [hsound];have bad:∀{k:Nat} {row:List Int},next[k]? =some row→GU next.length cells.length row=false→next.all (GU next.length cells.length)=false:=by
    intro k row h1 h2;rw [AdR];exact⟨row,AbD h1,by simp [h2]⟩
   have hn5:=hn.frame ((hOld ha5).mono hS);(conv=>whnf);refine AK.mk [51] (fun k:Nat=>[.int .i64 k]) (fun k H'=>H'=H5∧k≤next.length∧(next.take k).all (GU next.length cells.length)=true) (fun k _=>next.length - k) ?_ ?_
   ·(conv=>whnf);exact⟨0,rfl,rfl,by omega,rfl⟩
   ·rintro k H6 junk2 ⟨rfl,hk2,hall2⟩;(conv=>whnf);refine AN.mk (fun h=>?_) (fun h=>?_)<;>simp only [decide_eq_true_eq,decide_eq_false_iff_not]at h
    ·obtain⟨row,hrow⟩:=Ae (l:=next) (k:=k) (by omega);refine ixr FC hn5 hrow rfl ?_;rintro b o cs hSb hcells ⟨ra,rc,rfl,hr⟩;have lr:=hr.le;unfold maxLen at lr;refine ld1 F4 hcells.one trivial ?_;refine AN.mk (fun h5=>?_) (fun h5=>?_)<;>simp only [bne_iff_ne,ne_eq,bne_eq_false_iff_eq]at h5
     ·(conv=>whnf);exact⟨by rw [bad hrow (by simp [GU];intro h;omega)],hOld ha5⟩
     (conv=>whnf);refine AK.mk [62] (fun j:Nat=>[.int .i64 j]) (fun j H'=>H'=H6∧j≤row.length∧(row.take j).all (fun q=>decide (0≤q)&&decide (q<(next.length:Int)))=true) (fun j _=>row.length - j) ?_ ?_
     ·(conv=>whnf);exact⟨0,rfl,rfl,by omega,rfl⟩
     ·rintro j H7 junk3 ⟨rfl,hj,hall3⟩;(conv=>whnf);refine AN.mk (fun h=>?_) (fun h=>?_)<;>simp only [decide_eq_true_eq,decide_eq_false_iff_not]at h
      ·obtain⟨q,hq⟩:=Ae (l:=row) (k:=j) (by omega);have badq:¬(0≤q∧q<(next.length:Int))→GU next.length cells.length row=false:=by
        intro hb;have:(row.all fun q=>decide (0≤q)&&decide (q<(next.length:Int)))=false:=by
         rw [AdR];exact⟨q,AbD hq,by simpa using hb⟩
        simp only [GU,this,Ae6]
       refine ixr AW hr hq rfl ?_;rintro b2 o2 cs2 hSb2 hcells2 ⟨rfl,hqk⟩;refine ld1 ct3 hcells2.one trivial ?_;refine AN.mk (fun h6=>?_) (fun h6=>?_)<;>simp only [decide_eq_true_eq,decide_eq_false_iff_not]at h6
       ·(conv=>whnf);exact⟨by rw [bad hrow (badq (by omega))],hOld ha5⟩
       refine AN.mk (fun h7=>?_) (fun h7=>?_)<;>simp only [decide_eq_true_eq,decide_eq_false_iff_not]at h7
       ·(conv=>whnf);exact⟨by rw [bad hrow (badq (by omega))],hOld ha5⟩
       (conv=>whnf);rw [w64 (x:=(j:Int)+1) (by omega) (by omega)];refine⟨rfl,j+1,by simp,⟨rfl,by omega,?_⟩,by omega⟩;rw [Af hq,AdZ,hall3];simp;omega
      ·have hj':j=row.length:=by omega
       subst hj';rw [AbW]at hall3;(conv=>whnf);rw [w64 (x:=(k:Int)+1) (by omega) (by omega)];refine⟨rfl,k+1,by simp,⟨rfl,by omega,?_⟩,by omega⟩;rw [Af hrow,AdZ,hall2];simp only [List.all_cons,List.all_nil,Bool.and_true,AdQ,GU,hall3,beq_iff_eq];omega
    ·have hk':k=next.length:=by omega
     subst hk';rw [AbW]at hall2;(conv=>whnf);exact⟨by rw [hall2],hOld ha5⟩
theorem Xp(na:Option Addr)(nc c d m:Nat)(next:List (List Int))(S:Nat→Prop)(H:Aa)(hn:SlD It S H na nc next)(hm:∀row∈next,row.length=m)(hc:c<m)(hd:d<m)(hm64:m≤9223372036854775807):
  BX Tryz.prog 163 #[.slice na next.length nc,.int .i64 c,.int .i64 d] H (.bool (EH next c d)):=by
 have ln:=hn.le;unfold maxLen at ln;refine Al.of_vc Tryz.func163 rfl (Tryz.call163 _) ?_;refine AN.mk (fun h=>?_) (fun h=>?_)<;>simp only [beq_iff_eq,beq_eq_false_iff_ne,Int.natCast_inj,ne_eq]at h
 ·(conv=>whnf);exact⟨by simp [EH,h],Agr.refl _ _⟩
 have hcd:(c==d)=false:=by simpa using h
 (conv=>whnf);refine AK.mk [14] (fun k:Nat=>[.int .i64 k]) (fun k H'=>H'=H∧k≤next.length∧(next.take k).all (fun row=>row[c]? ==row[d]?)=true) (fun k _=>next.length - k) ?_ ?_
 ·(conv=>whnf);exact⟨0,rfl,rfl,by omega,rfl⟩
 ·rintro k H1 junk ⟨rfl,hk,hall⟩;refine AN.mk (fun h=>?_) (fun h=>?_)<;>simp only [decide_eq_true_eq,decide_eq_false_iff_not]at h
  ·obtain⟨row,hrow⟩:=Ae (l:=next) (k:=k) (by omega);have hlen:=hm row (AbD hrow);refine ixr FC hn hrow rfl ?_;rintro b o cs hSb hcells ⟨ra,rc,rfl,hr⟩;refine ld1 F4 hcells.one trivial (Ar.lex rfl (by kernel_rfl) ?_);obtain⟨x,hx⟩:=Ae (l:=row) (k:=c) (by omega);obtain⟨y,hy⟩:=Ae (l:=row) (k:=d) (by omega);refine ixr AW hr hx rfl ?_;rintro b2 o2 cs2 hSb2 hcells2 ⟨rfl,hxk⟩;refine ld1 ct3 hcells2.one trivial (ixr AW hr hy rfl ?_);rintro b3 o3 cs3 hSb3 hcells3 ⟨rfl,hyk⟩;refine ld1 ct3 hcells3.one trivial ?_;refine AN.mk (fun h=>?_) (fun h=>?_)<;>simp only [bne_iff_ne,ne_eq,bne_eq_false_iff_eq]at h
   ·(conv=>whnf);refine⟨?_,Agr.refl _ _⟩;have:(next.all fun row=>row[c]? ==row[d]?)=false:=by
     rw [AdR];exact⟨row,AbD hrow,by simp [hx,hy,h]⟩
    simp only [EH,hcd,this,Bool.or_false]
   ·(conv=>whnf);rw [w64 (x:=(k:Int)+1) (by omega) (by omega)];refine⟨rfl,k+1,by simp,⟨rfl,by omega,?_⟩,by omega⟩;rw [Af hrow,AdZ,hall];simp [hx,hy,h]
  ·have hk':k=next.length:=by omega
   subst hk';rw [AbW]at hall;(conv=>whnf);exact⟨by simp only [EH,hcd,hall,Bool.false_or],Agr.refl _ _⟩
def Cg(cv:Value)(cell:List Nat)(nv fv av:Value):List Value:=
 cv::(cell.map (fun n:Nat=>Value.int .u8 (n:Int))++AcN (256 - cell.length) (.int .u8 0))++[nv,fv,av]
section
variable{cv nv fv av x:Value}{cell:List Nat}
theorem I1(h:cell.length≤256):(Cg cv cell nv fv av).length=260:=by simp [Cg];omega
theorem L3:(Cg cv cell nv fv av)[0]? =some cv:=by simp [Cg]
theorem R4:(Cg cv cell nv fv av).set 0 x=Cg x cell nv fv av:=by simp [Cg]
theorem Ky(h:cell.length≤256)(j:Nat):(Cg cv cell nv fv av)[257+j]? =[nv,fv,av][j]? :=by
 unfold Cg;rw [AdF,show 257+j=(256+j)+1 by omega,AdW,AcU (by simp;omega)]
 congr 1
 simp;omega
theorem FF(h:cell.length≤256):(Cg cv cell nv fv av)[257]? =some nv:=Ky h 0
theorem Kw(h:cell.length≤256):(Cg cv cell nv fv av)[258]? =some fv:=Ky h 1
theorem Kx(h:cell.length≤256):(Cg cv cell nv fv av)[259]? =some av:=Ky h 2
theorem Mm(h:cell.length≤256)(j:Nat):(Cg cv cell nv fv av).set (257+j) x=cv::(cell.map (fun n:Nat=>Value.int .u8 (n:Int))++AcN (256 - cell.length) (.int .u8 0))++[nv,fv,av].set j x:=by
 unfold Cg;rw [AdF,show 257+j=(256+j)+1 by omega,AdO,Ae7 (h:=by simp;omega)];have e:256+j - (List.map (fun n:Nat=>Value.int .u8 (n:Int)) cell++AcN (256 - cell.length) (Value.int .u8 0)).length=j:=by simp;omega
 rw [e];rfl
theorem OF(h:cell.length≤256):(Cg cv cell nv fv av).set 257 x=Cg cv cell x fv av:=Mm h 0
theorem OG(h:cell.length≤256):(Cg cv cell nv fv av).set 259 x=Cg cv cell nv fv x:=Mm h 2
theorem R3(h:cell.length<256)(p:Nat):(Cg cv cell nv fv av).set (1+cell.length) (.int .u8 (p:Int))=Cg cv (cell++[p]) nv fv av:=by
 unfold Cg;rw [AdF,show 1+cell.length=cell.length+1 by omega,AdO,Ad1,Ae7 (h:=by simp)];have e:cell.length - (List.map (fun n:Nat=>Value.int .u8 (n:Int)) cell).length=0:=by simp
 rw [e,show 256 - cell.length=(256 - (cell.length+1))+1 by omega,List.replicate_succ];simp
end
def FU(cols:List Nat)(row:List Int):List Int:=cols.map fun c=>row.getD c 0
theorem Yh(pb:Nat)(fv av:Value)(ca na:Option Addr)(cc nc:Nat)(cells:List (BitVec 256))(next:List (List Int))(fl:Nat)(S:Nat→Prop)(H:Aa)(hS:∀k,S k→k<H.size∧k≠pb)
  (hb:Blk H pb 109 (Cg (.slice none 0 0) [] (.slice none 0 0) fv av)) (hc:SlD C7 S H ca cc cells) (hn:SlD It S H na nc next) (hs:B8 cells next fl=true):
  Al Tryz.prog 116 #[.pointer (some ⟨pb,0,none⟩),.slice ca cells.length cc,.slice na next.length nc] H fun v H'=>
   let st:=Bo next cells (fun b=>A8 b b) 256
   Agr (fun k=>k<H.size∧k≠pb) H H'∧H.size≤H'.size∧∃ac capc an capn,Blk H' pb 109 (Cg (.slice ac st.sets.length capc) st.cell (.slice an next.length capn) fv av)∧
    SlD C7 (fun k=>H.size≤k∧k<H'.size) H' ac capc st.sets∧SlD It (fun k=>H.size≤k∧k<H'.size) H' an capn (next.map (FU st.cols)):=by
 have lc:=hc.le;have ln:=hn.le;unfold maxLen at lc ln;obtain⟨n1,n2,n3,hrows⟩:=Em hs;refine Al.of_vc Tryz.func116 rfl (Tryz.call116 _) ?_;have hpb:=hb.lt;generalize hsp:(fun b=>A8 b b)=sp;have hcell:∀b,b<256→AT cells b<cells.length:=fun b hb=>(BT hs hb).1;refine FY FC rfl (by omega) (by omega) (by omega) (by omega) ?_;intro nb H1 hnb hs1 hb1 ha1;refine fa Gf ?_;refine st1 Lt (hb.agr ha1 (show pb<nb by omega)) (by rw [I1 (by simp)];omega) rfl ?_;intro H2 hb2 ha2 hs2;rw [AaV,OF (by simp)]at hb2;replace hb1:=hb1.agr ha2 (show nb≠pb by omega);rw [AbV]at hb1;have hA2:Agr (fun k=>k<H.size∧k≠pb) H H2:=(ha1.mono fun k hk=>by omega).trans (ha2.mono fun k hk=>hk.2);(conv=>whnf);refine AK.mk [6,22] (fun x:Nat×Value=>[x.2,.int .i64 x.1]) (fun x H3=>x.1≤256∧Agr (fun k=>k<H.size∧k≠pb) H H3∧H2.size≤H3.size∧
  SlO tI (fun _=>False) H3 (nb+1) 3 x.2 ((Bo next cells sp x.1).cols.map AdV)∧Blk H3 nb 41 (AcN next.length (.slice none 0 0))∧
  ∃cv,SlO C7 (fun _=>False) H3 (nb+1) 101 cv (Bo next cells sp x.1).sets∧(∀k,slB x.2 k→¬slB cv k)∧
   Blk H3 pb 109 (Cg cv (Bo next cells sp x.1).cell (.slice (some ⟨nb,0,none⟩) next.length next.length) fv av)) (fun x _=>256 - x.1) ?_ ?_
 ·(conv=>whnf);exact⟨(0,_),rfl,by omega,hA2,AbX _,SlO.nil,hb1,_,SlO.nil,(by rintro k ⟨o,n,c,h⟩;cases h),hb2⟩
 ·rintro⟨b,v6⟩ H3 junk ⟨hb256,hA3,hs3,hcols,hb3n,cv,hsets,hdis,hb3⟩;dsimp only at hb256 hcols hsets hdis hb3;obtain⟨ac,capc,rfl,-,-⟩:=hcols.view (S':=fun k=>slB v6 k) (fun k hk=>hk) (fun k hk=>hk.elim);refine AN.mk (fun h=>?_) (fun h=>?_)<;>simp only [decide_eq_true_eq,decide_eq_false_iff_not]at h
  ·have hok:=F8 (next:=next) (sp:=sp) hcell b (by omega);generalize hst:Bo next cells sp b=st at*
   obtain⟨hfb,hfhas⟩:=BT hs (b:=b) (by omega);(conv=>whnf);refine AK.mk [8] (fun f:Nat=>[.int .i64 f]) (fun f H4=>Agr (Old H3) H3 H4∧f≤AT cells b) (fun f _=>cells.length - f) ?_ ?_
   ·(conv=>whnf);exact⟨0,rfl,Agr.refl _ _,by omega⟩
   ·rintro f H4 junk2 ⟨ha4,hf⟩;have hA4:Agr (fun k=>k<H.size∧k≠pb) H H4:=hA3.trans (ha4.mono fun k hk=>by unfold Old;omega);obtain⟨c,hcf⟩:=Ae (l:=cells) (k:=f) (by omega);refine ixr CK (hc.frame (hA4.mono fun k hk=>hS k hk)) hcf rfl ?_;rintro b' o cs hSb hcells rfl;refine ldN (cs:=Ac c) AP hcells trivial ?_;(conv=>whnf);rw [w8 (x:=(b:Int)) (by omega) (by omega)];refine Am (VV c b (by omega) H4) ?_;intro H5 ha5;have hs34:=Bl ha4;have ha35:Agr (Old H3) H3 H5:=ha4.trans (ha5.mono fun k hk=>by unfold Old at*;omega);by_cases hfeq:f=AT cells b
    ·have hbit:c.getLsbD b=true:=hfhas c (hfeq ▸ hcf);rw [hbit];(conv=>whnf);subst hfeq;generalize hfr:AT cells b=fr at*;have hcols5:=hcols.agr ha35 (fun k hk=>(hcols.lt hk).2) (fun k hk=>hk.elim);have hs35:=Bl ha35;refine Av.cut [9] (fun pl:Option Nat=>[.int .i64 (match pl with | none=> -1 | some i=>(i:Int))]) (fun pl H6=>pl=JX next st.cols fr∧Agr (Old H5) H5 H6) ?_ ?_
     ·obtain⟨ac',capc',he,hview,hblk⟩:=hcols5.view (S':=Old H5) (fun k hk=>(hcols5.lt hk).2) (fun k hk=>hk.elim);cases he;have hrl:∀row∈next,row.length=cells.length:=fun row hr=>(hrows row hr).1
      (conv=>whnf);refine AK.mk [9,37] (fun k:Nat=>[.int .i64 (-1),.int .i64 k]) (fun k H6=>Agr (Old H5) H5 H6∧k≤st.cols.length∧(st.cols.take k).findIdx? (fun c=>EH next c fr)=none) (fun k _=>st.cols.length - k) ?_ ?_
      ·(conv=>whnf);exact⟨0,rfl,Agr.refl _ _,by omega,rfl⟩
      ·rintro k H6 junk3 ⟨ha6,hk,hnone⟩;have hle:=hok.le;(conv=>whnf);rw [Ac5];refine AN.mk (fun h=>?_) (fun h=>?_)<;>simp only [decide_eq_true_eq,decide_eq_false_iff_not]at h
       ·obtain⟨c0,hc0⟩:=Ae (l:=st.cols) (k:=k) (by omega);have hc0m:=hok.cols c0 (AbD hc0);refine Lv (x:=(c0:Int)) AW (hview.frame ha6) (by simp) (by simp [hc0]) rfl ?_;rintro b2 o2 cs2 hSb2 hcells2 ⟨rfl,-⟩;refine ld1 ct3 hcells2.one trivial ?_;have hn6:SlD It S H6 na nc next:=hn.frame ((hA3.trans ((ha35.trans (ha6.mono fun k hk=>by unfold Old at*;omega)).mono fun k hk=>by unfold Old;omega)).mono fun k hk=>hS k hk)
        refine Am (Xp na nc c0 fr cells.length next S H6 hn6 hrl hc0m hfb (by omega)) ?_;intro H7 ha7;have hs56:=Bl ha6;have ha57:Agr (Old H5) H5 H7:=ha6.trans (ha7.mono fun k hk=>by unfold Old at*;omega);refine AN.mk (fun h7=>?_) (fun h7=>?_)
        ·(conv=>whnf);refine⟨rfl,some k,rfl,?_,ha57⟩;unfold JX;rw [←AdH k st.cols,AeA,hnone];have:st.cols.drop k=c0::st.cols.drop (k+1):=by
          rw [Ab8]at hc0;obtain⟨h1,h2⟩:=hc0;rw [List.drop_eq_getElem_cons h1,h2]
         rw [this,List.findIdx?_cons,h7];simp;omega
        ·(conv=>whnf);rw [w64 (x:=(k:Int)+1) (by omega) (by omega)];refine⟨rfl,k+1,by simp,⟨ha57,by omega,?_⟩,by omega⟩;rw [Af hc0,AeA,hnone];simp [h7]
       ·(conv=>whnf);refine⟨rfl,none,rfl,?_,ha6⟩;have:k=st.cols.length:=by omega
        subst this;rw [AbW]at hnone;exact hnone.symm
     ·rintro pl H6 junk3 ⟨hpl,ha6⟩;have ha36:Agr (Old H3) H3 H6:=ha35.trans (ha6.mono fun k hk=>by unfold Old at*;omega);have hs36:=Bl ha36;have hcols6:=hcols.agr ha36 (fun k hk=>(hcols.lt hk).2) (fun k hk=>hk.elim);have hsets6:=hsets.agr ha36 (fun k hk=>(hsets.lt hk).2) (fun k hk=>hk.elim);have hb6n:=hb3n.agr ha36 hb3n.lt;have hb6:=hb3.agr ha36 hb3.lt;have hA6:Agr (fun k=>k<H.size∧k≠pb) H H6:=hA3.trans (ha36.mono fun k hk=>by unfold Old;omega);have hcl:st.cell.length≤256:=by rw [hok.cell];omega
      (conv=>whnf);refine Av.cut [6,9] (fun x:Value×Nat=>[x.1,.int .i64 x.2]) (fun x H7=>Agr (fun k=>k<H.size∧k≠pb) H H7∧H2.size≤H7.size∧x.2=(GB next st.cols st.sets fr).2.2∧
       SlO tI (fun _=>False) H7 (nb+1) 3 x.1 ((GB next st.cols st.sets fr).1.map AdV)∧Blk H7 nb 41 (AcN next.length (.slice none 0 0))∧
       ∃cv,SlO C7 (fun _=>False) H7 (nb+1) 101 cv (GB next st.cols st.sets fr).2.1∧(∀k,slB x.1 k→¬slB cv k)∧
        Blk H7 pb 109 (Cg cv st.cell (.slice (some ⟨nb,0,none⟩) next.length next.length) fv av)) ?_ ?_
      ·cases hf:JX next st.cols fr with
       | some i=>
         rw [hpl,hf];have hm:GB next st.cols st.sets fr=(st.cols,st.sets,i):=by unfold GB;rw [hf]
         rw [hm];(conv=>whnf);exact⟨rfl,(_,i),rfl,hA6,by omega,rfl,hcols6,hb6n,cv,hsets6,hdis,hb6⟩
       | none=>
         rw [hpl,hf];have hm:GB next st.cols st.sets fr=(st.cols++[fr],st.sets++[0#256],st.cols.length):=by unfold GB;rw [hf]
         rw [hm];(conv=>whnf);rw [Ac5];refine AG AW [.int .i64 (fr:Int)] rfl rfl (by decide) (by decide) ?_;intro q H7 hq hs7 hb7 ha7;have hle:=hok.le;have hcols7:=hcols6.agr ha7 (fun k hk=>by have:=(hcols6.lt hk).2;omega) (fun k hk=>hk.elim);refine CW (T:=tI) (S:=fun _=>False) (ys:=[(fr:Int)]) (ds:=[.int .i64 (fr:Int)]) (lo:=nb+1) (xs:=st.cols.map AdV) AW (by simpa using hcols7) (by omega) (fun k hk=>hk.elim)
          (hb7.cells (fun j v hv=>by simpa using hv)) (Ty.reps_one ⟨rfl,BH (by omega)⟩) rfl (by intro u hu;cases AaT.1 hu;rfl) (by simp only [maxLen,Ac5,AaU];omega) (by simp only [Ac5,AaU];omega) ?_
         intro v8 H8 hcols8 ha8 hs8 hfresh8;have hold8:∀k,k<H6.size→¬slB (.slice ac (st.cols.map (AdV:Nat→Int)).length capc) k→H8[k]? =H6[k]? :=fun k h1 h2=>by
          rw [ha8 k ⟨by omega,by simpa using h2⟩,ha7 k (by omega)]
         have hsets8:SlO C7 (fun _=>False) H8 (nb+1) 101 cv st.sets:=hsets6.agr (S':=fun k=>k<H6.size∧¬slB (.slice ac (st.cols.map (AdV:Nat→Int)).length capc) k) (fun k hk=>hold8 k hk.1 hk.2)
          (fun k hk=>⟨(hsets6.lt hk).2,fun h=>hdis k h hk⟩) (fun k hk=>hk.elim)
         have hnlt:∀k,k≤nb→¬slB (.slice ac (st.cols.map (AdV:Nat→Int)).length capc) k:=fun k hk h=>by have:=(hcols6.lt h).1;omega
         have hb8n:=hb6n.eq (hold8 nb hb6n.lt (hnlt nb (by omega)));have hb8:=hb6.eq (hold8 pb hb6.lt (hnlt pb (by omega)));refine fa JQ ?_;refine ld1 (v:=cv) Ql (by rw [hb8.cell];exact L3) trivial ?_;refine Ct Cc (Bt 0) rfl (Ac 0) rfl (AG CK (Ac 0) rfl rfl (by decide) (by decide) ?_);intro q2 H9 hq2 hs9 hb9 ha9;have hlt8:=hb8.lt;have hlt8n:=hb8n.lt;refine CW (T:=C7) (S:=fun _=>False) (ys:=[0#256]) (ds:=Ac 0) (lo:=nb+1) (xs:=st.sets) CK (hsets8.agr ha9 (fun k hk=>by have:=(hsets8.lt hk).2;omega) (fun k hk=>hk.elim)) (by omega) (fun k hk=>hk.elim)
          (hb9.cells (fun j v hv=>by simpa using hv)) (Ty.reps_one rfl) rfl (by intro u hu;simp only [Ac,AeB,List.not_mem_nil,or_false]at hu;rcases hu with rfl | rfl | rfl | rfl<;>rfl)
          (by have:=hok.len;simp only [maxLen,AaU];omega) (by have:=hok.len;simp only [AaU];omega) ?_
         intro v9 H10 hsets10 ha10 hs10 hfresh10;have hdcv:∀k,k≤nb→¬slB cv k:=fun k hk h=>by have:=(hsets6.lt h).1;omega
         have hb10:=(hb8.agr ha9 (by omega)).agr ha10 ⟨by omega,hdcv pb (by omega)⟩;refine fa JQ ?_;refine st1 Ql hb10 (by rw [I1 hcl];omega) hsets10.one ?_;intro H11 hb11 ha11 hs11;(conv=>whnf);have hcols8lt:∀k,slB v8 k→k<H8.size∧nb+1≤k:=fun k hk=>⟨(hcols8.lt hk).2,(hcols8.lt hk).1⟩;have hdis8:∀k,slB v8 k→¬slB cv k:=fun k hk hc=>by
          rcases hfresh8 k hk with h | h
          ·exact hdis k (by simpa using h) hc
          ·have:=(hsets6.lt hc).2;omega
         have hcols10:=(hcols8.agr ha9 (fun k hk=>by have:=hcols8lt k hk;omega) (fun k hk=>hk.elim)).agr ha10 (fun k hk=>⟨by have:=hcols8lt k hk;omega,hdis8 k hk⟩) (fun k hk=>hk.elim);have hb10n:=(hb8n.agr ha9 (by omega)).agr ha10 ⟨by omega,hdcv nb (by omega)⟩;refine⟨rfl,(v8,st.cols.length),rfl,?_,by omega,rfl,?_,hb10n.agr ha11 (by omega),v9,hsets10.agr ha11 (fun k hk=>by have:=(hsets10.lt hk).1;omega) (fun k hk=>hk.elim),?_,?_⟩
         ·intro k hk;rw [ha11 k hk.2,ha10 k ⟨by omega,hdcv k (by omega)⟩,ha9 k (by omega),hold8 k (by omega) (hnlt k (by omega)),hA6 k hk]
         ·have:=hcols10.agr ha11 (fun k hk=>by have:=hcols8lt k hk;omega) (fun k hk=>hk.elim);simpa using this
         ·intro k hk hk9;rcases hfresh10 k hk9 with h | h
          ·exact hdis8 k hk h
          ·have:=hcols8lt k hk;omega
         ·rw [Nat.add_zero,R4]at hb11;exact hb11
      ·rintro⟨v7,p⟩ H7 junk4 ⟨hA7,hs7,hp,hcols7,hb7n,cv7,hsets7,hdis7,hb7⟩;dsimp only at hp hcols7 hdis7;have hok2:=Ps (next:=next) hok.len hok.le hok.cols hfb;have hmr:Bo next cells sp (b+1)=MB next cells st b (sp b):=by rw [←hst];rfl
       generalize hr:GB next st.cols st.sets fr=r at*
       obtain⟨cols',sets',p'⟩:=r;dsimp only at hp hcols7 hsets7 hok2;subst hp;obtain⟨h21,h22,h23,h24,h25⟩:=hok2;have hmr2:Bo next cells sp (b+1)=⟨cols',sets'.set p (sets'.getD p 0#256 ||| sp b),st.cell++[p]⟩:=by
        rw [hmr];unfold MB;rw [hfr,hr]
       obtain⟨bq,capq,lq,csq,rfl,hloq,hblkq,hlenq,hgetq,hrepsq,hputq⟩:=hsets7.place (i:=p) (by omega);have hpb7:=hb7.lt;refine fa Te (ixa YR (by omega) (by omega) ?_);rw [w8 (x:=(p:Int)) (by omega) (by omega)];refine st1 ct5 hb7 (by rw [I1 hcl];omega) rfl ?_;intro H8 hb8 ha8 hs8;rw [show 0+1+(b:Int).toNat*1=1+st.cell.length by rw [hok.cell];omega,R3 (by rw [hok.cell];omega)]at hb8;(conv=>whnf);refine Ar.held (Old H8) 19 (sq [0,1,2,3,4,5,6,7,8,9,10,11,12,13,14,15] (.f 16 (.f 17 (sq [18] (.f 19 .e))))) rfl (by kernel_rfl) (fa JQ ?_);refine ld1 (v:=.slice (some ⟨bq,0,none⟩) sets'.length capq) Ql (by rw [hb8.cell];exact L3) (show pb<H8.size by omega) ?_;refine fa JQ ?_;refine ld1 (v:=.slice (some ⟨bq,0,none⟩) sets'.length capq) Ql (by rw [hb8.cell];exact L3) (show pb<H8.size by omega) ?_;refine ix CK (by omega) (by omega) ?_;obtain⟨x0,hx0⟩:=Ae (l:=sets') (k:=p) (by omega);obtain⟨c0,hc0,rfl⟩:=hgetq x0 hx0;have hbqb:bq≠pb:=by omega
       refine ldN (cs:=Ac x0) AP (by rw [AaV,AbV];exact hc0.eq (ha8 bq hbqb)) (show bq<H8.size by have:=hblkq.lt;omega) ?_;(conv=>whnf);rw [w8 (x:=(b:Int)) (by omega) (by omega)];refine Am (FV b b (by omega) (by omega) H8) ?_;intro H9 ha9;refine⟨ha9,?_⟩;refine Am (FD x0 (A8 b b) H9) ?_;intro H10 ha10;have hs89:=Bl ha9;have ha810:Agr (Old H8) H8 H10:=ha9.trans (ha10.mono fun k hk=>by unfold Old at*;omega);refine⟨ha810,?_⟩;refine ix CK (by omega) (by omega) ?_;have hs810:=Bl ha810;have hblk10:=(hblkq.agr ha8 hbqb).agr ha810 (show bq<H8.size by have:=hblkq.lt;omega);refine stN rfl hblk10 (by rw [AaV,AbV];exact hlenq) rfl ?_;intro H11 hb11 ha11 hs11;(conv=>whnf);rw [w64 (x:=(b:Int)+1) (by omega) (by omega)];have hlt7:∀k,slB v7 k→nb+1≤k∧k<H7.size:=fun k hk=>hcols7.lt hk;have hcols11:=((hcols7.agr ha8 (fun k hk=>by have:=hlt7 k hk;omega) (fun k hk=>hk.elim)).agr ha810 (fun k hk=>by have:=hlt7 k hk;unfold Old;omega) (fun k hk=>hk.elim)).agr ha11
        (fun k hk hkb=>by subst hkb;exact hdis7 _ hk ⟨0,_,_,rfl⟩) (fun k hk=>hk.elim)
       have hb11n:=(((hb7n.agr ha8 (show nb≠pb by omega)).agr ha810 (show nb<H8.size by have:=hb7n.lt;omega)).agr ha11 (show nb≠bq by omega));have hb11p:=(hb8.agr ha810 (show pb<H8.size by omega)).agr ha11 (show pb≠bq from Ne.symm hbqb);refine⟨rfl,(b+1,v7),by simp,⟨by omega,?_,by omega,?_,hb11n,.slice (some ⟨bq,0,none⟩) sets'.length capq,?_,hdis7,?_⟩,by omega⟩
       ·intro k hk;rw [ha11 k (by omega),ha810 k (by unfold Old;omega),ha8 k hk.2,hA7 k hk]
       ·rw [hmr2];exact hcols11
       ·rw [hmr2];have hg:sets'.getD p 0#256=x0:=by rw [AcV,hx0];rfl
        rw [hg,←hsp];rw [AaV,AbV]at hb11;have:=hputq H11 (Ac (x0 ||| A8 b b)) (x0 ||| A8 b b) hb11 (fun k hk=>hk.elim) rfl;exact this
       ·rw [hmr2];exact hb11p
    ·have hbit:c.getLsbD b=false:=Nv (by omega) hcf;rw [hbit];(conv=>whnf);rw [w64 (x:=(f:Int)+1) (by omega) (by omega)];exact⟨rfl,f+1,by simp,⟨ha35,by omega⟩,by omega⟩
  ·have hb':b=256:=by omega
   subst hb';have hok:=F8 (next:=next) (sp:=sp) hcell 256 (by omega);generalize hst:Bo next cells sp 256=st at*
   have hlec:=hok.le;have hlen:=hok.len;(conv=>whnf);refine AK.mk [95] (fun q:Nat=>[.int .i64 q]) (fun q H4=>q≤next.length∧Agr (fun k=>k<H3.size∧k≠nb) H3 H4∧H3.size≤H4.size∧∃vs:List Value,vs.length=next.length∧Blk H4 nb 41 vs∧
    (∀i,q≤i→i<next.length→vs[i]? =some (.slice none 0 0))∧∀i v row,i<q→vs[i]? =some v→next[i]? =some row→SlO tI (fun _=>False) H4 H3.size 3 v (FU st.cols row)) (fun q _=>next.length - q) ?_ ?_
   ·(conv=>whnf);refine⟨0,rfl,by omega,Agr.refl _ _,AbX _,_,by simp,hb3n,fun i _ hi=>by simp [hi],fun i v row hi=>by omega⟩
   ·rintro q H4 junk2 ⟨hq,ha4,hs4,vs,hvl,hb4n,hnil,hdone⟩;have hnb3:=hb3n.lt;have hpb3:=hb3.lt;have hA4:Agr (fun k=>k<H.size∧k≠pb) H H4:=hA3.trans (ha4.mono fun k hk=>by omega);refine AN.mk (fun h=>?_) (fun h=>?_)<;>simp only [decide_eq_true_eq,decide_eq_false_iff_not]at h
    ·obtain⟨row,hrow⟩:=Ae (l:=next) (k:=q) (by omega);obtain⟨hrl,hrq⟩:=hrows row (AbD hrow);have hn4:=hn.frame (hA4.mono fun k hk=>hS k hk);refine ixr FC hn4 hrow rfl ?_;rintro b2 o2 cs2 hSb2 hcells2 ⟨ra,rc,rfl,hr⟩;refine ld1 F4 hcells2.one trivial ?_;(conv=>whnf);rw [Ac5];refine AK.mk [102] (fun j:Nat=>[.int .i64 j]) (fun j H5=>j≤st.cols.length∧Agr (fun k=>k<H4.size∧k≠nb) H4 H5∧H4.size≤H5.size∧∃vcur,Blk H5 nb 41 (vs.set q vcur)∧
      SlO tI (fun _=>False) H5 H4.size 3 vcur (FU (st.cols.take j) row)) (fun j _=>st.cols.length - j) ?_ ?_
     ·(conv=>whnf);refine⟨0,rfl,by omega,Agr.refl _ _,AbX _,.slice none 0 0,?_,SlO.nil⟩;have:vs.set q (.slice none 0 0)=vs:=by
       have h1:=hnil q (AbX _) (by omega);rw [Ab8]at h1;obtain⟨h2,h3⟩:=h1;rw [←h3];exact List.set_getElem_self h2
      rw [this];exact hb4n
     ·rintro j H5 junk3 ⟨hj,ha5,hs5,vcur,hb5n,hcur⟩;have hA35:Agr (fun k=>k<H3.size∧k≠nb) H3 H5:=ha4.trans (ha5.mono fun k hk=>by omega);have hb5:=hb3.agr hA35 ⟨hpb3,by omega⟩;have hcols5:=hcols.agr hA35 (fun k hk=>by have:=hcols.lt hk;omega) (fun k hk=>hk.elim);obtain⟨av5,capv5,he5,hview,hblk⟩:=hcols5.view (S':=fun k=>k<H3.size) (fun k hk=>(hcols.lt hk).2) (fun k hk=>hk.elim);cases he5;refine AN.mk (fun h=>?_) (fun h=>?_)<;>simp only [decide_eq_true_eq,decide_eq_false_iff_not]at h
      ·obtain⟨c0,hc0⟩:=Ae (l:=st.cols) (k:=j) (by omega);have hc0m:=hok.cols c0 (AbD hc0);refine Lv (x:=(c0:Int)) AW hview (by simp) (by simp [hc0]) rfl ?_;rintro b3 o3 cs3 hSb3 hcells3 ⟨rfl,-⟩;refine ld1 ct3 hcells3.one trivial ?_;obtain⟨acu,capcu,rfl,-,-⟩:=hcur.view (S':=fun k=>slB vcur k) (fun k hk=>hk) (fun k hk=>hk.elim);(conv=>whnf);refine Ar.held (fun k=>k<H4.size) 19 (sq [0,1,2,3,4,5,6,7,8,9,10,11,12,13,14,15] (.f 16 (.f 17 (sq [18] (.f 19 .e))))) rfl (by kernel_rfl) ?_;have hb5nq:cell H5 nb (0+(q:Int).toNat*1)=some (.slice acu (FU (st.cols.take j) row).length capcu):=by
        rw [hb5n.cell,show 0+(q:Int).toNat*1=q by omega,AbY (by omega)]
       have hr5:=hr.frame (ha5.mono fun k hk=>by have:=hS k hk;omega);have hv257:cell H5 pb (0+257)=some (.slice (some ⟨nb,0,none⟩) next.length next.length):=by
        rw [hb5.cell,AaV];exact FF (by rw [hok.cell];omega)
       refine fa Gf (ld1 Lt hv257 (show pb<H4.size by omega) (fa Gf (ld1 Lt hv257 (show pb<H4.size by omega) (ix FC (by omega) (by omega) (ld1 F4 hb5nq (show nb<H4.size by omega) ?_)))));obtain⟨x0,hx0⟩:=Ae (l:=row) (k:=c0) (by omega);refine ixr AW hr5 hx0 rfl ?_;rintro b4 o4 cs4 hSb4 hcells4 ⟨rfl,hx0k⟩;refine ld1 ct3 hcells4.one (show b4<H4.size by have:=hS b4 hSb4;omega) ?_;refine AG AW [.int .i64 x0] rfl rfl (by decide) (by decide) ?_;intro q6 H6 hq6 hs6 hb6 ha6;refine⟨ha6.mono fun k hk=>by omega,?_⟩;have hcur6:=hcur.agr ha6 (fun k hk=>by have:=(hcur.lt hk).2;omega) (fun k hk=>hk.elim);have hrl2:(FU (st.cols.take j) row).length≤256:=by simp [FU];omega
       refine CW (T:=tI) (S:=fun _=>False) (ys:=[x0]) (ds:=[.int .i64 x0]) (lo:=H4.size) (xs:=FU (st.cols.take j) row) AW hcur6 (by omega) (fun k hk=>hk.elim)
         (hb6.cells (fun j v hv=>by simpa using hv)) (Ty.reps_one ⟨rfl,hx0k⟩) rfl (by intro u hu;cases AaT.1 hu;rfl) (by simp only [maxLen,AaU];omega) (by simp only [AaU];omega) ?_
       intro v7 H7 hcur7 ha7 hs7 hfresh7;refine⟨fun k hk=>?_,?_⟩
       ·rw [ha7 k ⟨by omega,fun h=>by have:=(hcur.lt h).1;omega⟩,ha6 k (by omega)]
       have hb7n:=(hb5n.agr ha6 (by omega)).agr ha7 ⟨by omega,fun h=>by have:=(hcur.lt h).1;omega⟩;refine ix FC (by omega) (by omega) ?_;refine st1 F4 hb7n (by simp;omega) hcur7.one ?_;intro H8 hb8 ha8 hs8;(conv=>whnf);rw [w64 (x:=(j:Int)+1) (by omega) (by omega)];refine⟨rfl,j+1,by simp,⟨by omega,?_,by omega,v7,?_,?_⟩,by omega⟩
       ·intro k hk;rw [ha8 k hk.2,ha7 k ⟨by omega,fun h=>by have:=(hcur.lt h).1;omega⟩,ha6 k (by omega),ha5 k hk]
       ·rw [show 0+(q:Int).toNat*1=q by omega,List.set_set]at hb8;exact hb8
       ·have:=hcur7.agr ha8 (fun k hk=>by have:=(hcur7.lt hk).1;omega) (fun k hk=>hk.elim);have e1:FU (st.cols.take (j+1)) row=FU (st.cols.take j) row++[x0]:=by
         unfold FU;rw [Af hc0,AcT];simp [hx0]
        rw [e1];exact this
      ·have hj':j=st.cols.length:=by omega
       subst hj';rw [AbW]at hcur;(conv=>whnf);rw [w64 (x:=(q:Int)+1) (by omega) (by omega)];refine⟨rfl,q+1,by simp,⟨by omega,hA35,by omega,vs.set q vcur,by simp [hvl],hb5n,?_,?_⟩,by omega⟩
       ·intro i h1 h2;rw [Ac3 (by omega)];exact hnil i (by omega) h2
       ·intro i v row' hi hv hrow';by_cases hiq:i=q
        ·subst hiq;rw [AbY (by omega)]at hv;rw [hrow]at hrow';cases hv;cases hrow';exact hcur.lower (by omega)
        ·rw [Ac3 (by omega)]at hv;have hd:=hdone i v row' (by omega) hv hrow';exact hd.agr ha5 (fun k hk=>by have:=hd.lt hk;omega) (fun k hk=>hk.elim)
    ·have hq':q=next.length:=by omega
     subst hq';(conv=>whnf);have hs23:H2.size≤H3.size:=hs3;obtain⟨ac9,capc9,he9,hview9,-⟩:=(hsets.agr ha4 (fun k hk=>by have:=hsets.lt hk;omega) (fun k hk=>hk.elim)).view (S':=fun k=>H.size≤k∧k<H4.size)
      (fun k hk=>by have:=hsets.lt hk;omega) (fun k hk=>hk.elim)
     subst he9;refine⟨hA4,by omega,ac9,capc9,some ⟨nb,0,none⟩,next.length,hb3.agr ha4 ⟨hpb3,by omega⟩,hview9,SlD.intro (show H.size≤nb∧nb<H4.size by omega) (by simp) (by simp [maxLen];omega) (hb4n.cells (cs:=vs) (fun j v hv=>by simpa using hv)) ?_⟩;refine E5 (by simp [hvl]) fun i v x hv hx=>?_;rw [AcQ]at hx;obtain⟨row,hrow,rfl⟩:=Option.map_eq_some_iff.1 hx;have hd:=hdone i v row (Ab8.1 hrow).1 hv hrow;obtain⟨a0,cap0,rfl,hv0,-⟩:=hd.view (S':=fun k=>H.size≤k∧k<H4.size) (fun k hk=>by have:=hd.lt hk;omega) (fun k hk=>hk.elim);exact⟨a0,cap0,rfl,hv0⟩
inductive Et(rows:List (List Int))(fin:List Bool):Nat→Prop
 | fin {q:Nat}:fin[q]? =some true→Et rows fin q
 | step {q t:Nat} {row:List Int}:rows[q]? =some row→(t:Int)∈row→Et rows fin t→Et rows fin q
def LY(rows:List (List Int))(q j t:Nat)(p:Int):Prop:=∃(q':Nat) (row:List Int),p=(q':Int)∧rows[q']? =some row∧(q'<q∧(t:Int)∈row∨q'=q∧(t:Int)∈row.take j)
def nF(al:List Bool):Nat:=al.count false
theorem Si{al:List Bool}{p:Nat}(h:al[p]? =some false):nF (al.set p true)+1=nF al:=by
 unfold nF
 induction al generalizing p with
 | nil=>simp at h
 | cons a al ih=>
   cases p with
   | zero=>simp at h;subst h;simp [AeM]
   | succ p=>simp at h;simp only [AdO,AeM];have:=ih h;omega
structure WI(rows:List (List Int))(final:List Bool)(bk:List (List Int))(al:List Bool)(td:List Int)(ex:Option (Nat×Nat)):Prop where
 len:al.length=rows.length
 sound:∀q:Nat,al[q]? =some true→Et rows final q
 fin:∀q:Nat,final[q]? =some true→al[q]? =some true
 tdok:∀x∈td,∃q:Nat,x=(q:Int)∧al[q]? =some true
 cnt:td.length+nF al≤rows.length
 closed:∀(q:Nat) (x:List Int),al[q]? =some true→bk[q]? =some x→(q:Int)∈td∨(∀p∈x,al[p.toNat]? =some true)∨∃j,ex=some (q,j)∧∀p∈x.take j,al[p.toNat]? =some true
def Zr(rows:List (List Int))(bk:List (List Int)):Prop:=bk.length=rows.length∧∀(t:Nat) (x:List Int),bk[t]? =some x→∀p,p∈x↔∃(q':Nat) (row:List Int),p=(q':Int)∧rows[q']? =some row∧(t:Int)∈row
section
variable{rows:List (List Int)}{final:List Bool}{bk:List (List Int)}{al:List Bool}{td:List Int}
theorem WI.pop{q:Nat}(h:WI rows final bk al (td++[(q:Int)]) none):WI rows final bk al td (some (q,0)):=by
 refine⟨h.len,h.sound,h.fin,fun x hx=>h.tdok x (Ac4 _ hx),by have:=h.cnt;simp at this;omega,fun q' x hq' hx=>?_⟩;rcases h.closed q' x hq' hx with h1 | h1 | ⟨j,h1,_⟩
 ·rcases AbK.1 h1 with h1 | h1
  ·exact .inl h1
  ·rw [AaT]at h1;have:q'=q:=by omega
   subst this;exact .inr (.inr ⟨0,rfl,by simp⟩)
 ·exact .inr (.inl h1)
 ·cases h1
theorem WI.skip{q j pn:Nat}{x:List Int}(h:WI rows final bk al td (some (q,j)))(hx:bk[q]? =some x)(hj:x[j]? =some (pn:Int))(hp:al[pn]? =some true):WI rows final bk al td (some (q,j+1)):=by
 refine⟨h.len,h.sound,h.fin,h.tdok,h.cnt,fun q' x' hq' hx'=>?_⟩;rcases h.closed q' x' hq' hx' with h1 | h1 | ⟨j',h1,h2⟩
 ·exact .inl h1
 ·exact .inr (.inl h1)
 ·cases h1;rw [hx]at hx';cases hx';refine .inr (.inr ⟨j+1,rfl,fun p hp'=>?_⟩);rw [Af hj,AbK,AaT]at hp';rcases hp' with hp' | rfl
  ·exact h2 p hp'
  ·simpa using hp
theorem WI.mark{q j pn:Nat}{x:List Int}(hbk:Zr rows bk)(h:WI rows final bk al td (some (q,j)))(hq:al[q]? =some true)(hx:bk[q]? =some x)(hj:x[j]? =some (pn:Int))(hp:al[pn]? =some false):
  WI rows final bk (al.set pn true) (td++[(pn:Int)]) (some (q,j+1)):=by
 have hlt:pn<al.length:=(Ab8.1 hp).1;have keep:∀i,al[i]? =some true→(al.set pn true)[i]? =some true:=fun i hi=>by
  by_cases h1:pn=i
  ·subst h1;rw [AbY hlt]
  ·rw [Ac3 h1];exact hi
 have live:Et rows final pn:=by
  obtain⟨q',row,h1,h2,h3⟩:=(hbk.2 q x hx (pn:Int)).1 (AbD hj);have:pn=q':=by omega
  subst this;exact .step h2 h3 (h.sound q hq)
 refine⟨by simp [h.len],fun i hi=>?_,fun i hi=>keep i (h.fin i hi),fun y hy=>?_,?_,fun q' x' hq' hx'=>?_⟩
 ·by_cases h1:pn=i
  ·subst h1;exact live
  ·rw [Ac3 h1]at hi;exact h.sound i hi
 ·rcases AbK.1 hy with hy | hy
  ·obtain⟨i,h1,h2⟩:=h.tdok y hy;exact⟨i,h1,keep i h2⟩
  ·rw [AaT]at hy;exact⟨pn,hy,by rw [AbY hlt]⟩
 ·have h1:=Si hp;have h2:=h.cnt;simp only [AaS,AaU];omega
 ·by_cases h1:pn=q'
  ·subst h1;exact .inl (Ad2 _ (AaT.2 rfl))
  ·rw [Ac3 h1]at hq';rcases h.closed q' x' hq' hx' with h2 | h2 | ⟨j',h2,h3⟩
   ·exact .inl (Ac4 _ h2)
   ·exact .inr (.inl fun p hp'=>keep _ (h2 p hp'))
   ·cases h2;rw [hx]at hx';cases hx';refine .inr (.inr ⟨j+1,rfl,fun p hp'=>?_⟩);rw [Af hj,AbK,AaT]at hp';rcases hp' with hp' | rfl
    ·exact keep _ (h3 p hp')
    ·rw [AbV,AbY hlt]
theorem WI.done{q:Nat}{x:List Int}(h:WI rows final bk al td (some (q,x.length)))(hx:bk[q]? =some x):WI rows final bk al td none:=by
 refine⟨h.len,h.sound,h.fin,h.tdok,h.cnt,fun q' x' hq' hx'=>?_⟩;rcases h.closed q' x' hq' hx' with h1 | h1 | ⟨j',h1,h2⟩
 ·exact .inl h1
 ·exact .inr (.inl h1)
 ·cases h1;rw [hx]at hx';cases hx';rw [AbW]at h2;exact .inr (.inl h2)
theorem WI.finish(hbk:Zr rows bk)(hr:∀row∈rows,∀t∈row,0≤t∧t<(rows.length:Int))(h:WI rows final bk al [] none)(q:Nat):al[q]? =some true↔Et rows final q:=by
 refine⟨h.sound q,fun hl=>?_⟩
 induction hl with
 | fin hf=>exact h.fin _ hf
 | @step q t row h1 h2 _ ih=>
   have ht:=hr row (AbD h1) _ h2;obtain⟨x,hx⟩:=Ae (l:=bk) (k:=t) (by rw [hbk.1];omega);have hm:(q:Int)∈x:=(hbk.2 t x hx (q:Int)).2 ⟨q,row,rfl,h1,h2⟩;rcases h.closed t x ih hx with h3 | h3 | ⟨_,h3,_⟩
   ·cases h3
   ·simpa using h3 _ hm
   ·cases h3
end
theorem AaM(pb:Nat)(cv av:Value)(cell:List Nat)(an af:Option Addr)(capn capf:Nat)(rows:List (List Int))(final:List Bool)(S:Nat→Prop)(H:Aa)(hS:∀k,S k→k<H.size∧k≠pb)
  (hb:Blk H pb 109 (Cg cv cell (.slice an rows.length capn) (.slice af final.length capf) av)) (hcl:cell.length≤256) (hn:SlD It S H an capn rows) (hf:SlD Cn S H af capf final)
  (hr1:rows.length≤65536) (hfl:final.length=rows.length) (hrows:∀row∈rows,row.length≤256∧∀t∈row,0≤t∧t<(rows.length:Int)):
  Al Tryz.prog 117 #[.pointer (some ⟨pb,0,none⟩)] H fun v H'=>Agr (fun k=>k<H.size∧k≠pb) H H'∧H.size≤H'.size∧
   ∃(al:List Bool) (aa:Option Addr) (capa:Nat),al.length=rows.length∧(∀q,q<rows.length→(al[q]? =some true↔Et rows final q))∧
    Blk H' pb 109 (Cg cv cell (.slice an rows.length capn) (.slice af final.length capf) (.slice aa al.length capa))∧SlD Cn (fun k=>H.size≤k∧k<H'.size) H' aa capa al:=by
 have hpb:=hb.lt;refine Al.of_vc Tryz.func117 rfl (Tryz.call117 _) (fa Gf ?_);refine ld1 Lt (by rw [hb.cell,AaV];exact FF hcl) trivial ?_;refine FY FC rfl (by omega) (by omega) (by omega) (by omega) ?_;intro nb H1 hnb hs1 hb1n ha1;rw [AbV]at hb1n;have hb1:=hb.agr ha1 (show pb<nb by omega);refine fa Gf ?_;refine ld1 Lt (by rw [hb1.cell,AaV];exact FF hcl) trivial ?_;(conv=>whnf);refine AK.mk [24] (fun q:Nat=>[.int .i64 q]) (fun q H2=>q≤rows.length∧Agr (fun k=>k<H1.size∧k≠nb) H1 H2∧H1.size≤H2.size∧∃vs bk,Tab tI (fun _=>False) H2 (nb+1) 3 nb 41 vs bk∧bk.length=rows.length∧
  (∀(t:Nat) (x:List Int),bk[t]? =some x→x.length≤q*256∧∀p,p∈x↔LY rows q 0 t p)) (fun q _=>rows.length - q) ?_ ?_
 ·(conv=>whnf);refine⟨0,rfl,by omega,Agr.refl _ _,AbX _,_,_,Tab.new hb1n (by omega),by simp,fun t x hx=>?_⟩;rw [AdB]at hx;split at hx
  ·cases hx;refine⟨by simp,fun p=>⟨(fun h=>by cases h),?_⟩⟩;rintro⟨q',row,_,_,⟨h,_⟩ | ⟨_,h⟩⟩
   ·omega
   ·simp at h
  ·cases hx
 ·rintro q H2 junk ⟨hq,ha2,hs2,vs,bk,htab,hbkl,hbk⟩;have hA2:Agr (fun k=>k<H.size∧k≠pb) H H2:=(ha1.mono fun k hk=>by omega).trans (ha2.mono fun k hk=>by omega);have hb2:=hb1.agr ha2 ⟨by omega,by omega⟩;refine AN.mk (fun h=>?_) (fun h=>?_)<;>simp only [decide_eq_true_eq,decide_eq_false_iff_not]at h
  ·obtain⟨row,hrow⟩:=Ae (l:=rows) (k:=q) (by omega);obtain⟨hrl,hrt⟩:=hrows row (AbD hrow);refine ixr FC (hn.frame (hA2.mono fun k hk=>hS k hk)) hrow rfl ?_;rintro b2 o2 cs2 hSb2 hcells2 ⟨ra,rc,rfl,hr⟩;refine ld1 F4 hcells2.one trivial ?_;(conv=>whnf);refine AK.mk [31] (fun j:Nat=>[.int .i64 j]) (fun j H3=>j≤row.length∧Agr (fun k=>k<H1.size∧k≠nb) H2 H3∧H1.size≤H3.size∧∃vs bk,Tab tI (fun _=>False) H3 (nb+1) 3 nb 41 vs bk∧bk.length=rows.length∧
    (∀(t:Nat) (x:List Int),bk[t]? =some x→x.length≤q*256+j∧∀p,p∈x↔LY rows q j t p)) (fun j _=>row.length - j) ?_ ?_
   ·(conv=>whnf);exact⟨0,rfl,by omega,Agr.refl _ _,hs2,vs,bk,htab,hbkl,hbk⟩
   ·clear htab hbkl hbk vs bk;rintro j H3 junk2 ⟨hj,ha3,hs3,vs,bk,htab,hbkl,hbk⟩;have hr3:=hr.frame (ha3.mono fun k hk=>by have:=hS k hk;omega);refine AN.mk (fun h=>?_) (fun h=>?_)<;>simp only [decide_eq_true_eq,decide_eq_false_iff_not]at h
    ·obtain⟨ti,hti⟩:=Ae (l:=row) (k:=j) (by omega);obtain⟨ht0,ht1⟩:=hrt ti (AbD hti);obtain⟨t,rfl⟩:=AdX ht0;refine ixr AW hr3 hti rfl ?_;rintro b3 o3 cs3 hSb3 hcells3 ⟨rfl,htk⟩;refine ld1 ct3 hcells3.one trivial ?_;obtain⟨v,x,hv,hx,hsl⟩:=htab.get (i:=t) (by omega);obtain⟨hxl,hxm⟩:=hbk t x hx;obtain⟨av3,capv3,rfl,-,-⟩:=hsl.view (S':=fun k=>slB v k) (fun k hk=>hk) (fun k hk=>hk.elim);have htlt:t<vs.length:=(Ab8.1 hv).1;refine ix FC (by omega) (by omega) ?_;refine ld1 F4 (by rw [htab.blk.cell,show 0+(t:Int).toNat*1=t by omega];exact hv) trivial ?_;refine AG AW [.int .i64 (q:Int)] rfl rfl (by decide) (by decide) ?_;intro q4 H4 hq4 hs4 hb4 ha4;have hnb3:=htab.blk.lt;have htab4:=htab.agr ha4 (by omega) (fun b _ hb=>by omega) (fun k hk=>hk.elim);refine CW (T:=tI) (S:=fun _=>False) (ys:=[(q:Int)]) (ds:=[.int .i64 (q:Int)]) (lo:=nb+1) (xs:=x) AW (htab4.own t _ x hv hx) (by omega) (fun k hk=>hk.elim)
      (hb4.cells (fun j v hv=>by simpa using hv)) (Ty.reps_one ⟨rfl,BH (by omega)⟩) rfl (by intro u hu;cases AaT.1 hu;rfl) (by simp only [maxLen,AaU];omega) (by simp only [AaU];omega) ?_
     intro v5 H5 hown5 ha5 hs5 hfresh5;have hb5n:=htab4.blk.agr ha5 ⟨by omega,fun hk=>by have:=((htab4.own t _ x hv hx).lt hk).1;omega⟩;refine ix FC (by omega) (by omega) (st1 F4 hb5n (by omega) hown5.one ?_);intro H6 hb6 ha6 hs6;rw [show 0+(t:Int).toNat*1=t by omega]at hb6;(conv=>whnf);rw [w64 (x:=(j:Int)+1) (by omega) (by omega)];refine⟨rfl,j+1,by simp,⟨by omega,?_,by omega,_,_,htab4.push hv hown5 ha5 hfresh5 hb6 ha6 (fun k hk=>hk.elim),by simp [hbkl],?_⟩,by omega⟩
     ·intro k hk;rw [ha6 k hk.2,ha5 k ⟨by omega,fun hb=>by have:=((htab4.own t _ x hv hx).lt hb).1;omega⟩,ha4 k (by omega),ha3 k hk]
     ·intro t' x' hx';have hmem:∀p,LY rows q (j+1) t' p↔LY rows q j t' p∨(t'=t∧p=(q:Int)):=by
       intro p;unfold LY;constructor
       ·rintro⟨q',row',h1,h2,⟨h3,h4⟩ | ⟨h3,h4⟩⟩
        ·exact .inl ⟨q',row',h1,h2,.inl ⟨h3,h4⟩⟩
        ·subst h3;rw [hrow]at h2;cases h2;rw [Af hti,AbK,AaT]at h4;rcases h4 with h4 | h4
         ·exact .inl ⟨_,_,h1,hrow,.inr ⟨rfl,h4⟩⟩
         ·exact .inr ⟨by omega,h1⟩
       ·rintro(⟨q',row',h1,h2,⟨h3,h4⟩ | ⟨h3,h4⟩⟩ | ⟨rfl,rfl⟩)
        ·exact⟨q',row',h1,h2,.inl ⟨h3,h4⟩⟩
        ·subst h3;rw [hrow]at h2;cases h2;exact⟨_,_,h1,hrow,.inr ⟨rfl,by rw [Af hti,AbK];exact .inl h4⟩⟩
        ·exact⟨q,row,rfl,hrow,.inr ⟨rfl,by rw [Af hti,AbK];exact .inr (AaT.2 rfl)⟩⟩
      by_cases htt:t'=t
      ·subst htt;rw [AbY (by omega)]at hx';cases hx';refine⟨by simp only [AaS,AaU];omega,fun p=>?_⟩;rw [hmem p,AbK,hxm p,AaT];simp
      ·rw [Ac3 (Ne.symm htt)]at hx';obtain⟨h1,h2⟩:=hbk t' x' hx';refine⟨by omega,fun p=>?_⟩;rw [hmem p,h2 p];simp [htt]
    ·have hj':j=row.length:=by omega
     subst hj';(conv=>whnf);rw [w64 (x:=(q:Int)+1) (by omega) (by omega)];refine⟨rfl,q+1,by simp,⟨by omega,ha2.trans ha3,by omega,vs,bk,htab,hbkl,fun t x hx=>?_⟩,by omega⟩;obtain⟨g1,g2⟩:=hbk t x hx;refine⟨by rw [Nat.succ_mul];omega,fun p=>?_⟩;rw [g2 p];unfold LY;constructor
     ·rintro⟨q',row',h1,h2,⟨h3,h4⟩ | ⟨h3,h4⟩⟩
      ·exact⟨q',row',h1,h2,.inl ⟨by omega,h4⟩⟩
      ·exact⟨q',row',h1,h2,.inl ⟨by omega,AdI h4⟩⟩
     ·rintro⟨q',row',h1,h2,⟨h3,h4⟩ | ⟨h3,h4⟩⟩
      ·by_cases hqq:q'=q
       ·rw [hqq,hrow]at h2;cases h2;exact⟨q',_,h1,by rw [hqq];exact hrow,.inr ⟨hqq,by rw [AbW];exact h4⟩⟩
       ·exact⟨q',row',h1,h2,.inl ⟨by omega,h4⟩⟩
      ·simp at h4
  ·have hq':q=rows.length:=by omega
   subst hq';have hbko:Zr rows bk:=⟨hbkl,fun t x hx p=>by
    rw [(hbk t x hx).2 p];unfold LY;constructor
    ·rintro⟨q',row,h1,h2,⟨h3,h4⟩ | ⟨_,h4⟩⟩
     ·exact⟨q',row,h1,h2,h4⟩
     ·simp at h4
    ·rintro⟨q',row,h1,h2,h4⟩;exact⟨q',row,h1,h2,.inl ⟨(Ab8.1 h2).1,h4⟩⟩⟩
   have hnb2:=htab.blk.lt;have hback:=htab.view (S':=fun k=>nb≤k∧k<H2.size) hbkl.symm (by simp [maxLen];omega) (fun k h1 h2=>⟨h1,h2⟩) (fun k hk=>hk.elim);clear hbk;refine fa Gf ?_;refine ld1 Lt (by rw [hb2.cell,AaV];exact FF hcl) trivial ?_;refine FY Hu rfl (by omega) (by omega) (by omega) (by omega) ?_;intro ab H3 hab hs3 hb3a ha3;rw [AbV]at hb3a;have hb3:=hb2.agr ha3 (show pb<ab by omega);refine fa L8 ?_;refine st1 RI hb3 (by rw [I1 hcl];omega) rfl ?_;intro H4 hb4 ha4 hs4;rw [AaV,OG hcl]at hb4;replace hb3a:=hb3a.agr ha4 (show ab≠pb by omega);have hA24:Agr (fun k=>k<H2.size∧k≠pb) H2 H4:=(ha3.mono fun k hk=>by omega).trans (ha4.mono fun k hk=>hk.2);refine fa Pa ?_;refine ld1 RI (by rw [hb4.cell,AaV];exact Kw hcl) trivial ?_;(conv=>whnf);refine AK.mk [7,61] (fun x:Nat×Value=>[x.2,.int .i64 x.1]) (fun x H5=>x.1≤rows.length∧Agr (fun k=>k<H2.size∧k≠pb) H2 H5∧H4.size≤H5.size∧
    Blk H5 pb 109 (Cg cv cell (.slice an rows.length capn) (.slice af final.length capf) (.slice (some ⟨ab,0,none⟩) (rows.length:Int).toNat (rows.length:Int).toNat))∧
    ∃al td,al.length=rows.length∧Blk H5 ab 4 (al.map .bool)∧SlO tI (fun _=>False) H5 (ab+1) 3 x.2 td∧
     (∀q,al[q]? =some true↔q<x.1∧final[q]? =some true)∧(∀q:Nat,al[q]? =some true→(q:Int)∈td)∧(∀y∈td,∃q:Nat,y=(q:Int)∧al[q]? =some true)∧td.length+nF al=rows.length) (fun x _=>rows.length - x.1) ?_ ?_
   ·(conv=>whnf);refine⟨(0,_),rfl,by omega,hA24,AbX _,hb4,AcN rows.length false,[],by simp,by simpa using hb3a,SlO.nil,fun q=>⟨fun h=>?_,fun h=>by omega⟩,fun q h=>?_,(fun y hy=>by cases hy),by simp [nF,List.count_replicate]⟩
    ·rw [AdB]at h;split at h<;>simp at h
    ·rw [AdB]at h;split at h<;>simp at h
   ·rintro⟨i,v7⟩ H5 junk2 ⟨hi,hA5,hs5,hb5,al,td,hall,hb5a,htd,hal1,hal2,hal3,hal4⟩;dsimp only at hi htd hal1;refine AN.mk (fun h=>?_) (fun h=>?_)<;>simp only [decide_eq_true_eq,decide_eq_false_iff_not]at h
    ·have hA25:=hA2.trans (hA5.mono fun k hk=>by omega);obtain⟨f,hfi⟩:=Ae (l:=final) (k:=i) (by omega);refine Av.run (ixr Hu (hf.frame (hA25.mono fun k hk=>hS k hk)) hfi rfl ?_);rintro b3 o3 cs3 hSb3 hcells3 rfl;refine ld1 ct4 hcells3.one trivial (AN.mk (fun h2=>?_) (fun h2=>?_))
     ·subst h2;have hfal:al[i]? =some false:=by
       cases hx:al[i]? with
       | none=>rw [AdS]at hx;omega
       | some b=>
         cases b with
         | false=>rfl
         | true=>have:=((hal1 i).1 hx).1;omega
      refine fa L8 ?_;refine ld1 RI (by rw [hb5.cell,AaV];exact Kx hcl) trivial ?_;refine ix Hu (by omega) (by omega) ?_;refine st1 ct4 hb5a (by simp;omega) rfl ?_;intro H6 hb6a ha6 hs6;rw [show 0+(i:Int).toNat*1=i by omega]at hb6a;refine AG AW [.int .i64 (i:Int)] rfl rfl (by decide) (by decide) ?_;intro q7 H7 hq7 hs7 hb7 ha7;have hl5:=hb5.lt;have hl5a:=hb5a.lt;have htd7:SlO tI (fun _=>False) H7 (ab+1) 3 v7 td:=(htd.agr ha6 (fun b hb=>by have:=htd.lt hb;omega) (fun k hk=>hk.elim)).agr ha7 (fun b hb=>by have:=htd.lt hb;omega) (fun k hk=>hk.elim);have hnf:=Si hfal;refine CW (T:=tI) (S:=fun _=>False) (ys:=[(i:Int)]) (ds:=[.int .i64 (i:Int)]) (lo:=ab+1) (xs:=td) AW htd7 (by omega) (fun k hk=>hk.elim)
       (hb7.cells (fun j v hv=>by simpa using hv)) (Ty.reps_one ⟨rfl,BH (by omega)⟩) rfl (by intro u hu;cases AaT.1 hu;rfl) (by simp only [maxLen,AaU];omega) (by simp only [AaU];omega) ?_
      intro v8 H8 hown8 ha8 hs8 hfresh8;(conv=>whnf);rw [w64 (x:=(i:Int)+1) (by omega) (by omega)];have hsb:∀k,slB v7 k→ab+1≤k:=fun k hk=>(htd.lt hk).1;refine⟨rfl,(i+1,v8),rfl,⟨by dsimp only;omega,?_,by omega,?_,al.set i true,td++[(i:Int)],by simp [hall],?_,hown8,fun q=>?_,fun q hq=>?_,fun y hy=>?_,?_⟩,by dsimp only;omega⟩
      ·intro k hk;rw [ha8 k ⟨by omega,fun hb=>by have:=hsb k hb;omega⟩,ha7 k (by omega),ha6 k (by omega),hA5 k hk]
      ·exact((hb5.agr ha6 (by omega)).agr ha7 (by omega)).agr ha8 ⟨by omega,fun hb=>by have:=hsb _ hb;omega⟩
      ·rw [List.map_set];exact(hb6a.agr ha7 (by omega)).agr ha8 ⟨by omega,fun hb=>by have:=hsb _ hb;omega⟩
      ·dsimp only;by_cases hqi:i=q
       ·subst hqi;rw [AbY (by omega)];exact⟨fun _=>⟨by omega,hfi⟩,fun _=>rfl⟩
       ·rw [Ac3 hqi,hal1 q];constructor
        ·rintro⟨h1,h2⟩;exact⟨by omega,h2⟩
        ·rintro⟨h1,h2⟩;exact⟨by omega,h2⟩
      ·by_cases hqi:i=q
       ·subst hqi;exact Ad2 _ (AaT.2 rfl)
       ·rw [Ac3 hqi]at hq;exact Ac4 _ (hal2 q hq)
      ·rcases AbK.1 hy with hy | hy
       ·obtain⟨q,h1,h2⟩:=hal3 y hy;refine⟨q,h1,?_⟩;by_cases hqi:i=q
        ·subst hqi;rw [AbY (by omega)]
        ·rw [Ac3 hqi];exact h2
       ·rw [AaT]at hy;exact⟨i,hy,by rw [AbY (by omega)]⟩
      ·simp only [AaS,AaU];omega
     ·subst h2;(conv=>whnf);rw [w64 (x:=(i:Int)+1) (by omega) (by omega)];refine⟨rfl,(i+1,v7),rfl,⟨by dsimp only;omega,hA5,hs5,hb5,al,td,hall,hb5a,htd,fun q=>?_,hal2,hal3,hal4⟩,by dsimp only;omega⟩;rw [hal1 q];dsimp only;constructor
      ·rintro⟨h1,h2⟩;exact⟨by omega,h2⟩
      ·rintro⟨h1,h2⟩;refine⟨?_,h2⟩;by_cases hqi:q=i
       ·subst hqi;rw [hfi]at h2;cases h2
       ·omega
    ·have hi':i=rows.length:=by omega
     subst hi';have hwi:WI rows final bk al td none:=by
      refine⟨hall,fun q hq=>.fin ((hal1 q).1 hq).2,fun q hq=>(hal1 q).2 ⟨?_,hq⟩,hal3,by omega,fun q x hq hx=>.inl (hal2 q hq)⟩;rw [←hfl];exact(Ab8.1 hq).1
     clear hal1 hal2 hal3 hal4;(conv=>whnf);refine AK.mk [7] (fun x:Value×List Bool×List Int=>[x.1]) (fun x H6=>Agr (fun k=>k<H2.size∧k≠pb) H2 H6∧H5.size≤H6.size∧
      Blk H6 pb 109 (Cg cv cell (.slice an rows.length capn) (.slice af final.length capf) (.slice (some ⟨ab,0,none⟩) (rows.length:Int).toNat (rows.length:Int).toNat))∧
      Blk H6 ab 4 (x.2.1.map .bool)∧SlO tI (fun _=>False) H6 (ab+1) 3 x.1 x.2.2∧WI rows final bk x.2.1 x.2.2 none) (fun x _=>2*nF x.2.1+x.2.2.length) ?_ ?_
     ·(conv=>whnf);exact⟨(v7,al,td),rfl,hA5,AbX _,hb5,hb5a,htd,hwi⟩
     ·clear htd hwi hb5a hb5 hA5 hall;rintro⟨v7,al,td⟩ H6 junk3 ⟨hA6,hs6,hb6,hb6a,htd,hwi⟩;dsimp only at htd hb6a hwi;obtain⟨at7,cap7,rfl,hv7,hsb7⟩:=htd.view (S':=fun k=>ab+1≤k∧k<H6.size) (fun k hk=>htd.lt hk) (fun k hk=>hk.elim);refine AN.mk (fun h=>?_) (fun h=>?_)<;>simp only [decide_eq_true_eq,decide_eq_false_iff_not]at h
      ·obtain⟨td0,y,rfl⟩:∃td0 y,td=td0++[y]:=⟨td.dropLast,td.getLast (by intro h2;subst h2;simp at h),(AdN _).symm⟩;obtain⟨q,rfl,hqt⟩:=hwi.tdok y (by simp);have hql:q<rows.length:=by have:=(Ab8.1 hqt).1;have:=hwi.len;omega
       have htl:(td0++[(q:Int)]).length=td0.length+1:=by simp
       have hcnt:=hwi.cnt;refine ixr (i:=td0.length) (x:=(q:Int)) AW hv7 (by simp) (by rw [w64 (by omega) (by omega)];omega) ?_;rintro b3 o3 cs3 hSb3 hcells3 ⟨rfl,-⟩;refine ld1 ct3 hcells3.one trivial ?_;(conv=>whnf);rw [w64 (x:=((td0++[(q:Int)]).length:Int) - 1) (by omega) (by omega)];refine TO AW (by omega) (by have:=hv7.le;omega) ?_;rw [show(((td0++[(q:Int)]).length:Int) - 1).toNat=td0.length by omega];have htd0:=htd.pop;clear htd hv7;obtain⟨xb,hxb⟩:=Ae (l:=bk) (k:=q) (by omega);have hback6:=hback.frame (hA6.mono fun k hk=>by omega);refine Lv FC hback6 (by omega) hxb rfl ?_;rintro b4 o4 cs4 hSb4 hcells4 ⟨xa,xc,rfl,hxa⟩;refine ld1 F4 hcells4.one trivial ?_;(conv=>whnf);refine AK.mk [7,97] (fun x:Nat×Value×List Bool×List Int=>[x.2.1,.int .i64 x.1]) (fun x H7=>x.1≤xb.length∧Agr (fun k=>k<H2.size∧k≠pb) H6 H7∧H6.size≤H7.size∧
        Blk H7 pb 109 (Cg cv cell (.slice an rows.length capn) (.slice af final.length capf) (.slice (some ⟨ab,0,none⟩) (rows.length:Int).toNat (rows.length:Int).toNat))∧
        Blk H7 ab 4 (x.2.2.1.map .bool)∧SlO tI (fun _=>False) H7 (ab+1) 3 x.2.1 x.2.2.2∧WI rows final bk x.2.2.1 x.2.2.2 (some (q,x.1))∧x.2.2.1[q]? =some true∧2*nF x.2.2.1+x.2.2.2.length≤2*nF al+td0.length)
        (fun x _=>xb.length - x.1) ?_ ?_
       ·(conv=>whnf);exact⟨(0,_,al,td0),rfl,by dsimp only;omega,Agr.refl _ _,AbX _,hb6,hb6a,htd0,hwi.pop,hqt,AbX _⟩
       ·clear hb6 hb6a htd0;rintro⟨j,v7,al2,td⟩ H7 junk4 ⟨hj,hA7,hs7,hb7,hb7a,htd,hwi2,hqt2,hmeas⟩;dsimp only at hj htd hb7a hwi2 hqt2 hmeas;refine AN.mk (fun h2=>?_) (fun h2=>?_)<;>simp only [decide_eq_true_eq,decide_eq_false_iff_not]at h2
        ·obtain⟨p,hpj⟩:=Ae (l:=xb) (k:=j) (by omega);obtain⟨pn,prow,rfl,hprow,-⟩:=(hbko.2 q xb hxb p).1 (AbD hpj);have hpl:pn<rows.length:=(Ab8.1 hprow).1;have hall:=hwi2.len;have hcnt2:=hwi2.cnt;obtain⟨f,hpf⟩:=Ae (l:=al2) (k:=pn) (by omega);have hl7:=hb7.lt;have hl7a:=hb7a.lt;refine Av.run (ixr AW (hxa.frame (hA7.mono fun k hk=>by omega)) hpj rfl ?_);rintro b5 o5 cs5 hSb5 hcells5 ⟨rfl,-⟩;refine ld1 ct3 hcells5.one trivial (fa L8 ?_);refine ld1 RI (by rw [hb7.cell,AaV];exact Kx hcl) trivial ?_;refine ix Hu (by omega) (by omega) ?_;refine ld1 (v:=.bool f) ct4 (by rw [hb7a.cell,show 0+(pn:Int).toNat*1=pn by omega,AcQ,hpf];rfl) trivial ?_;refine AN.mk (fun h3=>?_) (fun h3=>?_)
         ·obtain rfl:f=false:=by simpa using h3
          have hnf:=Si hpf;refine fa L8 ?_;refine ld1 RI (by rw [hb7.cell,AaV];exact Kx hcl) trivial ?_;refine ix Hu (by omega) (by omega) ?_;refine st1 ct4 hb7a (by simp;omega) rfl ?_;intro H8 hb8a ha8 hs8;rw [show 0+(pn:Int).toNat*1=pn by omega]at hb8a;refine AG AW [.int .i64 (pn:Int)] rfl rfl (by decide) (by decide) ?_;intro q9 H9 hq9 hs9 hb9 ha9;have htd9:SlO tI (fun _=>False) H9 (ab+1) 3 v7 td:=(htd.agr ha8 (fun b hb=>by have:=htd.lt hb;omega) (fun k hk=>hk.elim)).agr ha9 (fun b hb=>by have:=htd.lt hb;omega) (fun k hk=>hk.elim);refine CW (T:=tI) (S:=fun _=>False) (ys:=[(pn:Int)]) (ds:=[.int .i64 (pn:Int)]) (lo:=ab+1) (xs:=td) AW htd9 (by omega) (fun k hk=>hk.elim)
           (hb9.cells (fun j v hv=>by simpa using hv)) (Ty.reps_one ⟨rfl,BH (by omega)⟩) rfl (by intro u hu;cases AaT.1 hu;rfl) (by simp only [maxLen,AaU];omega) (by simp only [AaU];omega) ?_
          intro v10 H10 hown10 ha10 hs10 hfresh10;(conv=>whnf);rw [w64 (x:=(j:Int)+1) (by have:=hxa.le;simp only [maxLen]at this;omega) (by have:=hxa.le;simp only [maxLen]at this;omega)];have hsb:∀k,slB v7 k→ab+1≤k:=fun k hk=>(htd.lt hk).1;refine⟨rfl,(j+1,v10,al2.set pn true,td++[(pn:Int)]),rfl,⟨by dsimp only;omega,?_,by omega,?_,?_,hown10,hwi2.mark hbko hqt2 hxb hpj hpf,?_,?_⟩,by dsimp only;omega⟩
          ·intro k hk;rw [ha10 k ⟨by omega,fun hb=>by have:=hsb k hb;omega⟩,ha9 k (by omega),ha8 k (by omega),hA7 k hk]
          ·exact((hb7.agr ha8 (by omega)).agr ha9 (by omega)).agr ha10 ⟨by omega,fun hb=>by have:=hsb _ hb;omega⟩
          ·dsimp only;rw [List.map_set];exact(hb8a.agr ha9 (by omega)).agr ha10 ⟨by omega,fun hb=>by have:=hsb _ hb;omega⟩
          ·dsimp only;by_cases hpq:pn=q
           ·subst hpq;rw [AbY (by omega)]
           ·rw [Ac3 hpq];exact hqt2
          ·simp only [AaS,AaU];omega
         ·obtain rfl:f=true:=by simpa using h3
          (conv=>whnf);rw [w64 (x:=(j:Int)+1) (by have:=hxa.le;simp only [maxLen]at this;omega) (by have:=hxa.le;simp only [maxLen]at this;omega)];exact⟨rfl,(j+1,v7,al2,td),rfl,⟨by dsimp only;omega,hA7,hs7,hb7,hb7a,htd,hwi2.skip hxb hpj hpf,hqt2,hmeas⟩,by dsimp only;omega⟩
        ·have hj':j=xb.length:=by omega
         subst hj';(conv=>whnf);exact⟨rfl,(v7,al2,td),rfl,⟨hA6.trans hA7,by omega,hb7,hb7a,htd,hwi2.done hxb⟩,by dsimp only;omega⟩
      ·have htd0:td=[]:=AdL (by omega);subst htd0;(conv=>whnf);have hall:=hwi.len;have hl6:=hb6.lt;refine⟨hA2.trans (hA6.mono fun k hk=>by omega),by omega,al,some ⟨ab,0,none⟩,rows.length,hall,fun q _=>hwi.finish hbko (fun row hrow=>(hrows row hrow).2) q,?_,?_⟩
       ·rw [hall];exact hb6
       ·have hl6a:=hb6a.lt;refine SlD.intro (show H.size≤ab∧ab<H6.size by omega) (by omega) (by simp only [maxLen];omega) (hb6a.cells (cs:=al.map .bool) (fun j v hv=>by rw [AaV];exact hv)) (E5 (by simp) fun i v x hv hx=>?_);rw [AcQ,hx]at hv;cases hv;rfl
end Go.Proofs.YtfbghcpdinlmcaaGreatDoor
namespace Go.Proofs.YtfbghcpdinlmcaaGreatDoor
open Go.VC
attribute [local irreducible] Bo
structure AM where
 sets:List (BitVec 256)
 cell:List Nat
 next:List (List Int)
 final:List Bool
def BP(cells:List (BitVec 256))(next:List (List Int))(final:List Bool):AM:=
 ⟨(Bo next cells (fun b=>A8 b b) 256).sets,(Bo next cells (fun b=>A8 b b) 256).cell,next.map (FU (Bo next cells (fun b=>A8 b b) 256).cols),final⟩
structure AM.Ok(A:AM):Prop where
 n1:1≤A.next.length
 n2:A.next.length≤65536
 fl:A.final.length=A.next.length
 cell:A.cell.length=256
 places:∀p∈A.cell,p<A.sets.length
 sl:A.sets.length≤256
 rows:∀row∈A.next,row.length=A.sets.length∧∀t∈row,0≤t∧t<(A.next.length:Int)
structure LU(S:Nat→Prop)(H:Aa)(pb:Nat)(A:AM):Prop where
 own:S pb
 ok:A.Ok
 rep:∃ac cc an cn af cf aa ca al,Blk H pb 109 (Cg (.slice ac A.sets.length cc) A.cell (.slice an A.next.length cn) (.slice af A.final.length cf) (.slice aa al.length ca))∧
  SlD C7 S H ac cc A.sets∧SlD It S H an cn A.next∧SlD Cn S H af cf A.final∧SlD Cn S H aa ca al∧al.length=A.next.length∧∀q:Nat,q<A.next.length→(al[q]? =some true↔Et A.next A.final q)
theorem LU.frame{S:Nat→Prop}{H H':Aa}{pb:Nat}{A:AM}(h:LU S H pb A)(k:Agr S H H'):LU S H' pb A:=by
 obtain⟨h1,h2,ac,cc,an,cn,af,cf,aa,ca,al,h3,h4,h5,h6,h7,h8⟩:=h;exact⟨h1,h2,ac,cc,an,cn,af,cf,aa,ca,al,h3.agr k h1,h4.frame k,h5.frame k,h6.frame k,h7.frame k,h8⟩
theorem LU.mono{S S':Nat→Prop}{H:Aa}{pb:Nat}{A:AM}(h:LU S H pb A)(k:∀b,S b→S' b):LU S' H pb A:=by
 obtain⟨h1,h2,ac,cc,an,cn,af,cf,aa,ca,al,h3,h4,h5,h6,h7,h8⟩:=h;exact⟨k _ h1,h2,ac,cc,an,cn,af,cf,aa,ca,al,h3,h4.mono k,h5.mono k,h6.mono k,h7.mono k,h8⟩
def Ba(S:Nat→Prop)(H:Aa)(v:Value):Option AM→Prop
 | none=>v= .pointer none
 | some A=>∃pb,v= .pointer (some ⟨pb,0,none⟩)∧LU S H pb A
theorem Ba.frame{S:Nat→Prop}{H H':Aa}{v:Value}{o:Option AM}(h:Ba S H v o)(k:Agr S H H'):Ba S H' v o:=by
 cases o with
 | none=>exact h
 | some A=>obtain⟨pb,h1,h2⟩:=h;exact⟨pb,h1,h2.frame k⟩
theorem Ba.mono{S S':Nat→Prop}{H:Aa}{v:Value}{o:Option AM}(h:Ba S H v o)(k:∀b,S b→S' b):Ba S' H v o:=by
 cases o with
 | none=>exact h
 | some A=>obtain⟨pb,h1,h2⟩:=h;exact⟨pb,h1,h2.mono k⟩
theorem QD{cells:List (BitVec 256)}{next:List (List Int)}{final:List Bool}(h:B8 cells next final.length=true):(BP cells next final).Ok:=by
 obtain⟨n1,n2,n3,hrows⟩:=Em h;have hm:=F8 (next:=next) (sp:=fun b=>A8 b b) (fun b hb=>(BT h hb).1) 256 (AbX _);have hlen:=hm.len;have hle:=hm.le;have hce:=hm.cell;refine⟨by simpa [BP]using n1,by simpa [BP]using n2,by simp [BP,n3],?_,?_,?_,?_⟩
 ·exact hce
 ·intro p hp;have:=hm.places p hp;simp only [BP];omega
 ·simp only [BP];omega
 ·intro row hrow;simp only [BP,List.mem_map]at hrow;obtain⟨r,hr,rfl⟩:=hrow;refine⟨by simp only [FU,BP,Ac5];omega,fun t ht=>?_⟩;obtain⟨c,hc,rfl⟩:=List.mem_map.1 ht;have hc':=hm.cols c hc;have:=hrows r hr;simp only [BP,Ac5];rw [AcV,AcW (by omega),AeJ];exact this.2 _ (List.getElem_mem _)
theorem Zl(ca na fa:Option Addr)(cc nc fc:Nat)(cells:List (BitVec 256))(next:List (List Int))(final:List Bool)(S:Nat→Prop)(H:Aa)(hS:∀k,S k→k<H.size)
  (hc:SlD C7 S H ca cc cells) (hn:SlD It S H na nc next) (hf:SlD Cn S H fa fc final):
  Al Tryz.prog 51 #[.slice ca cells.length cc,.slice na next.length nc,.slice fa final.length fc] H fun v H'=>
   Agr (Old H) H H'∧H.size≤H'.size∧Ba (fun k=>H.size≤k∧k<H'.size) H' v (if B8 cells next final.length then some (BP cells next final)else none):=by
 have lf:=hf.le;unfold maxLen at lf;refine Al.of_vc Tryz.func51 rfl (Tryz.call51 _) (Am (Y3 ca na fa cc nc fc final.length cells next S H hS hc hn (by omega)) fun H1 ha1=>?_);have hs1:H.size≤H1.size:=by
  rcases Nat.eq_zero_or_pos H.size with h | h
  ·omega
  ·have:=Aj ha1 (k:=H.size - 1) (by unfold Old;omega);omega
 refine AN.mk (fun h=>?_) (fun h=>?_)
 ·(conv=>whnf);have hb:B8 cells next final.length=false:=by simpa using h
  rw [hb];exact⟨ha1,hs1,rfl⟩
 ·have hb:B8 cells next final.length=true:=by simpa using h
  rw [hb];obtain⟨n1,n2,n3,hrows⟩:=Em hb;refine Nr (T:=Cn) (S:=S) (lo:=H1.size) (xs:=[]) Hu S6 SlO.nil (AbX _) (fun k hk=>⟨by have:=hS k hk;omega,?_⟩) (hf.frame (ha1.mono hS)) (by simp only [maxLen,AbM];omega) (by simp only [AbM];omega) ?_
  ·rintro⟨o,n,c,h⟩;cases h
  intro v2 H2 hown2 ha2 hs2 _;rw [AeN]at hown2;have hown2':SlO Cn (fun _=>False) H2 H1.size 4 v2 final:=hown2.free S5;obtain⟨af,capf,rfl,hfin,-⟩:=hown2'.view (S':=fun k=>H1.size≤k∧k<H2.size) (fun k hk=>hown2.lt hk) (fun k hk=>hk.elim);refine Aw rfl rfl _ rfl (Cg (.slice none 0 0) [] (.slice none 0 0) (.slice af final.length capf) (.slice none 0 0)) (by rfl) (Cq (Cg (.slice none 0 0) [] (.slice none 0 0) (.slice af final.length capf) (.slice none 0 0)) rfl ?_);intro pb H3 hpb hs3 hb3 ha3;have hsz2:H2.size=pb:=by omega
  have hsO:∀k,Old H k→k<H1.size:=fun k hk=>by unfold Old at hk;omega
  have hA3:Agr (fun k=>k<H.size) H H3:=(ha1.trans (ha2.mono fun k hk=>⟨hsO k hk,fun hb=>by obtain⟨o,n,c,h⟩:=hb;cases h⟩)).trans (ha3.mono fun k hk=>by unfold Old at hk;omega);have hSO:∀k,S k→k<H3.size∧k≠pb:=fun k hk=>by have:=hS k hk;omega
  refine Ad.mk (Yh pb (.slice af final.length capf) (.slice none 0 0) ca na cc nc cells next final.length S H3 hSO hb3 (hc.frame (hA3.mono hS)) (hn.frame (hA3.mono hS)) hb) ?_;rintro v4 H4 ⟨ha4,hs4,ac,capc,an,capn,hb4,hsets,hrows4⟩;have hfin3:SlD Cn (fun k=>H1.size≤k∧k<H2.size) H4 af capf final:=(hfin.frame (ha3.mono fun k hk=>by omega)).frame (ha4.mono fun k hk=>by omega);have hmok:=QD hb;(conv=>whnf);refine Ad.mk (AaM pb (.slice ac (Bo next cells (fun b=>A8 b b) 256).sets.length capc) (.slice none 0 0) (Bo next cells (fun b=>A8 b b) 256).cell an af capn capf (next.map (FU (Bo next cells (fun b=>A8 b b) 256).cols)) final
   (fun k=>H1.size≤k∧k<H4.size∧k≠pb) H4 (fun k hk=>by omega) (by rw [Ac5];exact hb4) (Ad7 hmok.cell) (hrows4.mono fun k hk=>by omega) (hfin3.mono fun k hk=>by omega)
   (by simpa using n2) (by simp [n3]) (fun row hrow=>?_)) ?_
  ·have:=hmok.rows row hrow;have h2:=hmok.sl;exact⟨by omega,this.2⟩
  rintro v5 H5 ⟨ha5,hs5,al,aa,capa,hall,hlive,hb5,hal⟩;(conv=>whnf);refine⟨?_,by omega,pb,rfl,⟨by omega,by omega⟩,hmok,ac,capc,an,capn,af,capf,aa,capa,al,hb5,?_,?_,?_,?_,hall,hlive⟩
  ·exact(hA3.trans (ha4.mono fun k hk=>by omega)).trans (ha5.mono fun k hk=>by omega)
  ·exact(hsets.frame (ha5.mono fun k hk=>by omega)).mono fun k hk=>by omega
  ·exact(hrows4.frame (ha5.mono fun k hk=>by omega)).mono fun k hk=>by omega
  ·exact(hfin3.frame (ha5.mono fun k hk=>by omega)).mono fun k hk=>by omega
  ·exact hal.mono fun k hk=>by omega
def stN:Option AM→Nat
 | none=>1
 | some A=>A.next.length
theorem P4:Tryz.prog.underlying 23=some (.pointer 109):=rfl
theorem Dl{S:Nat→Prop}{H:Aa}{v:Value}{o:Option AM}(h:Ba S H v o):BX Tryz.prog 16 #[v] H (.int .i64 (stN o:Int)):=by
 cases o with
 | none=>
   obtain rfl:=h;refine Al.of_vc Tryz.func16 rfl (Tryz.call16 _) (ZY P4 ?_);(conv=>whnf);exact⟨rfl,Agr.refl _ _⟩
 | some A=>
   obtain⟨pb,rfl,hown,hok,ac,cc,an,cn,af,cf,aa,ca,al,hb,hsets,hnext,hfin,hal,hall,hlive⟩:=h;have hcl:A.cell.length≤256:=Ad7 hok.cell;refine Al.of_vc Tryz.func16 rfl (Tryz.call16 _) (ZZ P4 (fa Gf ?_));refine ld1 Lt (by rw [hb.cell,AaV];exact FF hcl) trivial ?_;(conv=>whnf);exact⟨rfl,Agr.refl _ _⟩
def BV:Option AM→Int→Bool
 | none,_=>false
 | some A,q=>decide (0≤q)&&(A.final[q.toNat]?).getD false
theorem JP{S:Nat→Prop}{H:Aa}{v:Value}{o:Option AM}{q:Int}(h:Ba S H v o):BX Tryz.prog 50 #[v,.int .i64 q] H (.bool (BV o q)):=by
 cases o with
 | none=>
   obtain rfl:=h;refine Al.of_vc Tryz.func50 rfl (Tryz.call50 _) (AbZ P4 ?_);(conv=>whnf);exact⟨rfl,Agr.refl _ _⟩
 | some A=>
   obtain⟨pb,rfl,hown,hok,ac,cc,an,cn,af,cf,aa,ca,al,hb,hsets,hnext,hfin,hal,hall,hlive⟩:=h;have hcl:A.cell.length≤256:=Ad7 hok.cell;have hfl:=hok.fl;have hn2:=hok.n2;refine Al.of_vc Tryz.func50 rfl (Tryz.call50 _) ?_;cases q with
   | negSucc n=>
     refine Wr P4 ?_;(conv=>whnf);exact⟨rfl,Agr.refl _ _⟩
   | ofNat n=>
     refine Wr P4 (fa Pa ?_);refine ld1 RI (by rw [hb.cell,AaV];exact Kw hcl) trivial ?_;by_cases hnl:n<A.final.length
     ·obtain⟨f,hf⟩:=Ae hnl;have hd:decide (Ae0 n<(A.final.length:Int))=true:=decide_eq_true (by simpa using hnl);(conv=>whnf);rw [hd];refine fa Pa ?_;refine ld1 RI (by rw [hb.cell,AaV];exact Kw hcl) trivial ?_;refine ixr Hu hfin hf rfl ?_;rintro b3 o3 cs3 hSb3 hcells3 rfl;refine ld1 ct4 hcells3.one trivial ?_;(conv=>whnf);exact⟨by simp [BV,hf],Agr.refl _ _⟩
     ·have hd:decide (Ae0 n<(A.final.length:Int))=false:=decide_eq_false (by simpa using hnl);(conv=>whnf);rw [hd];(conv=>whnf);exact⟨by simp [BV,Ad3 (Nat.le_of_not_lt hnl)],Agr.refl _ _⟩
theorem Vs{cv nv fv av:Value}{cell:List Nat}{b c:Nat}(h:cell[b]? =some c):(Cg cv cell nv fv av)[1+b]? =some (.int .u8 (c:Int)):=by
 have hlt:=(Ab8.1 h).1;unfold Cg;rw [AdF,Nat.add_comm,AdW,Ad1,AcP (by simpa using hlt),AcQ,h];rfl
def Bs(o:Option AM)(q:Int)(b:Nat):Int:=
 if q<0∨(stN o:Int)≤q then -1 else match o with
  | none=>0
  | some A=>((A.next[q.toNat]?).getD []).getD (A.cell.getD b 0) 0
theorem WH{S:Nat→Prop}{H:Aa}{v:Value}{o:Option AM}(h:Ba S H v o):1≤stN o∧stN o≤65536:=by
 cases o with
 | none=>simp [stN]
 | some A=>obtain⟨pb,rfl,hown,hok,_⟩:=h;exact⟨hok.n1,hok.n2⟩
theorem Nl{S:Nat→Prop}{H:Aa}{v:Value}{o:Option AM}{q:Int}{b:Nat}(hS:∀k,S k→k<H.size)(h:Ba S H v o)(hb8:b<256):
  BX Tryz.prog 49 #[v,.int .i64 q,.int .u8 (b:Int)] H (.int .i64 (Bs o q b)):=by
 refine Al.of_vc Tryz.func49 rfl (Tryz.call49 _) ?_;cases q with
 | negSucc n=>
   have hd:decide (Int.negSucc n<0)=true:=decide_eq_true (AeE n);(conv=>whnf);rw [hd];(conv=>whnf);exact⟨by simp [Bs,AeE],Agr.refl _ _⟩
 | ofNat n=>
   refine Am (Dl h) fun H1 ha1=>?_;have h1:=h.frame (ha1.mono hS);by_cases hn:stN o≤n
   ·have hd:decide ((stN o:Int)≤Ae0 n)=true:=decide_eq_true (by simpa using hn);(conv=>whnf);rw [hd];(conv=>whnf);exact⟨by simp [Bs,hn],ha1⟩
   ·have hd:decide ((stN o:Int)≤Ae0 n)=false:=decide_eq_false (by simpa using hn);(conv=>whnf);rw [hd];have hst:∀x,x=(match o with | none=>(0:Int) | some A=>((A.next[n]?).getD []).getD (A.cell.getD b 0) 0)→Bs o (Ae0 n) b=x:=by
     intro x hx;subst hx;unfold Bs;rw [if_neg (by simp;omega)];cases o<;>rfl
    cases o with
    | none=>
      obtain rfl:=h1;refine ZY P4 ?_;(conv=>whnf);exact⟨by rw [hst 0 rfl],ha1⟩
    | some A=>
      obtain⟨pb,rfl,hown,hok,ac,cc,an,cn,af,cf,aa,ca,al,hb,hsets,hnext,hfin,hal,hall,hlive⟩:=h1;have hcl:A.cell.length≤256:=Ad7 hok.cell;simp only [stN]at hn;obtain⟨row,hrow⟩:=Ae (l:=A.next) (k:=n) (by omega);obtain⟨c,hc⟩:=Ae (l:=A.cell) (k:=b) (by rw [hok.cell];exact hb8);have hrl:=(hok.rows row (AbD hrow)).1;have hcp:=hok.places c (AbD hc);obtain⟨t,ht⟩:=Ae (l:=row) (k:=c) (by omega);refine ZZ P4 (Ar.lex rfl (by kernel_rfl) (fa Gf ?_));refine ld1 Lt (by rw [hb.cell,AaV];exact FF hcl) trivial ?_;refine ixr FC hnext hrow rfl ?_;rintro b2 o2 cs2 hSb2 hcells2 ⟨ra,rc,rfl,hr⟩;refine ld1 F4 hcells2.one trivial (fa Te (ixa YR (by omega) (by omega) ?_));refine ld1 (v:=.int .u8 (c:Int)) ct5 (by rw [hb.cell,show 0+1+(b:Int).toNat*1=1+b by omega];exact Vs hc) trivial ?_;refine ixr AW hr ht rfl ?_;rintro b3 o3 cs3 hSb3 hcells3 ⟨rfl,-⟩;refine ld1 ct3 hcells3.one trivial ?_;(conv=>whnf);exact⟨by rw [hst t (by simp [hrow,hc,ht,AcV])],ha1⟩
def QY(o:Option AM)(s:ByteArray)(k:Nat):Int:=(s.data.toList.take k).foldl (fun q b=>Bs o q b.toNat) 0
theorem UE{o:Option AM}{s:ByteArray}{k:Nat}{b:UInt8}(h:s.data[k]? =some b):QY o s (k+1)=Bs o (QY o s k) b.toNat:=by
 unfold QY;rw [Af (x:=b) (by rw [Array.getElem?_toList];exact h),AcL];rfl
theorem strT:Tryz.prog.underlying 9=some .string:=rfl
theorem VT{s:ByteArray}{k:Nat}(h:k<s.size):∃b,s.data[k]? =some b:=⟨s.data[k]'h,AdT h⟩
def D0(o:Option AM)(s:ByteArray):Bool:=BV o (QY o s s.size)
theorem Eg{S:Nat→Prop}{H:Aa}{v:Value}{o:Option AM}{s:ByteArray}(hS:∀k,S k→k<H.size)(h:Ba S H v o)(hs:s.size≤maxLen):
  BX Tryz.prog 17 #[v,.string s] H (.bool (D0 o s)):=by
 unfold maxLen at hs;refine Al.of_vc Tryz.func17 rfl (Tryz.call17 _) ?_;(conv=>whnf);refine AK.mk [5,9] (fun k:Nat=>[.int .i64 (QY o s k),.int .i64 k]) (fun k H2=>k≤s.size∧Agr (Old H) H H2) (fun k _=>s.size - k) ?_ ?_
 ·(conv=>whnf);exact⟨0,rfl,by omega,Agr.refl _ _⟩
 ·rintro k H2 junk ⟨hk,ha2⟩;have h2:=h.frame (ha2.mono hS);refine AN.mk (fun h=>?_) (fun h=>?_)<;>simp only [decide_eq_true_eq,decide_eq_false_iff_not]at h
  ·obtain⟨b,hb⟩:=VT (s:=s) (k:=k) (by omega);refine DJ strT rfl hb (Am (Nl (fun k hk=>Aj ha2 (hS k hk)) h2 (UInt8.toNat_lt b)) fun H3 ha3=>?_);(conv=>whnf);rw [w64 (x:=(k:Int)+1) (by omega) (by omega)];exact⟨rfl,k+1,by rw [UE hb];simp,⟨by omega,ha2.trans (ha3.mono fun k hk=>Aj ha2 hk)⟩,by omega⟩
  ·obtain rfl:k=s.size:=by omega
   refine Am (JP h2) fun H3 ha3=>?_;(conv=>whnf);exact⟨rfl,ha2.trans (ha3.mono fun k hk=>Aj ha2 hk)⟩
open Classical in
noncomputable def OE:Option AM→Int→Bool
 | none,_=>false
 | some A,q=>decide (Et A.next A.final q.toNat)
theorem Rk{A:AM}(hok:A.Ok){q:Int}{b:Nat}(h0:0≤q)(h1:q<A.next.length)(hb:b<256):0≤Bs (some A) q b∧Bs (some A) q b<A.next.length:=by
 obtain⟨n,rfl⟩:=AdX h0;obtain⟨row,hrow⟩:=Ae (l:=A.next) (k:=n) (by omega);obtain⟨c,hc⟩:=Ae (l:=A.cell) (k:=b) (by rw [hok.cell];exact hb);have hrl:=hok.rows row (AbD hrow);have hcp:=hok.places c (AbD hc);obtain⟨t,ht⟩:=Ae (l:=row) (k:=c) (by omega);unfold Bs;rw [if_neg (by simp [stN];omega)];simp only [AbV,hrow,AcV,hc,AeJ,ht];exact hrl.2 t (AbD ht)
theorem O0:C7.Ones:=by
 intro S H cs x h u hu;obtain rfl:=h;simp [Ac]at hu;rcases hu with rfl | rfl | rfl | rfl<;>rfl
theorem UO:C7.Free:=fun S S' H H' cs x h=>h
def Au:Option AM→List (BitVec 256)
 | none=>[AcO 256]
 | some A=>A.sets
theorem OP{S:Nat→Prop}{H:Aa}{v:Value}{o:Option AM}(hS:∀k,S k→k<H.size)(h:Ba S H v o):
  Al Tryz.prog 66 #[v] H fun v' H'=>Agr (Old H) H H'∧H.size≤H'.size∧SlO C7 (fun _=>False) H' H.size 101 v' (Au o):=by
 refine Al.of_vc Tryz.func66 rfl (Tryz.call66 _) ?_;cases o with
 | none=>
   obtain rfl:=h;refine ZY P4 (Am (FV 0 255 (by decide) (by decide) H) fun H1 ha1=>?_);rw [J6];have hs1:=Bl ha1;refine AG CK (Ac (AcO 256)) rfl rfl (by decide) (by decide) ?_;intro b H2 hb hs2 hb2 ha2;(conv=>whnf);exact⟨ha1.trans (ha2.mono fun k hk=>by unfold Old at hk;omega),by omega,SlO.ofBlk (by omega) hb2 (Ty.reps_one rfl) rfl (by decide)⟩
 | some A=>
   obtain⟨pb,rfl,hown,hok,ac,cc,an,cn,af,cf,aa,ca,al,hb,hsets,hnext,hfin,hal,hall,hlive⟩:=h;have hcl:A.cell.length≤256:=Ad7 hok.cell;have hsl:=hok.sl;refine ZZ P4 (VC.fa JQ ?_);refine ld1 Ql (by rw [hb.cell];exact L3) trivial ?_;refine Nr (T:=C7) (S:=S) (lo:=H.size) (xs:=[]) CK O0 SlO.nil (AbX _) (fun k hk=>⟨hS k hk,?_⟩) hsets (by simp only [maxLen,AbM];omega) (by simp only [AbM];omega) ?_
   ·rintro⟨o,n,c,h⟩;cases h
   intro v2 H2 hown2 ha2 hs2 _;rw [AeN]at hown2;(conv=>whnf);exact⟨ha2.mono fun k hk=>⟨hk,fun hb=>by obtain⟨o,n,c,h⟩:=hb;cases h⟩,hs2,hown2.free UO⟩
end Go.Proofs.YtfbghcpdinlmcaaGreatDoor
namespace Go.Proofs.YtfbghcpdinlmcaaGreatDoor
open Go.VC
def Jd(s b:BitVec 256):List (BitVec 256):=[b &&& s,b &&& ~~~s].filter fun x=> !decide (x=0)
def Lc(bl:List (BitVec 256))(s:BitVec 256):List (BitVec 256):=bl.flatMap (Jd s)
def CM(sets:List (BitVec 256)):List (BitVec 256):=sets.foldl Lc [AcO 256]
def Cr(bl:List (BitVec 256))(b:Nat):List (BitVec 256):=bl.filter fun s=>(Be s 0).1==b
def BB(sets:List (BitVec 256)):List (BitVec 256):=(Ad9 256).flatMap (Cr (CM sets))
def E4(sets:List (BitVec 256)):List Nat:=(BB sets).map fun c=>(Be c 0).1
theorem TW(x:BitVec 256)(h:∀b,b<256→x.getLsbD b=false):x=0:=by
 apply BitVec.eq_of_getLsbD_eq;intro i hi;rw [h i hi];simp
theorem GQ{x:BitVec 256}(h:x≠0):x.getLsbD (Be x 0).1=true∧∀b,b<(Be x 0).1→x.getLsbD b=false:=by
 unfold Be;cases hf:(Ad9 256).find? fun b=>decide (0≤b)&&x.getLsbD b with
 | none=>
   exfalso;apply h;apply TW;intro b hb;have:=List.find?_eq_none.1 hf b (Ae8.2 hb);simpa using this
 | some c=>
   have h1:=List.find?_some hf;simp only [AcZ,decide_true,AdQ]at h1;refine⟨h1,fun b hb=>?_⟩;have hc:c<256:=by simpa using List.mem_of_find?_eq_some hf
   obtain⟨_,i,hi,hge,hbef⟩:=List.find?_eq_some_iff_getElem.1 hf;simp only [List.getElem_range]at hge;subst hge;have:=hbef b hb;simpa using this
theorem ZA(s b:BitVec 256):∀x∈Jd s b,x≠0:=fun x hx=>by
 have:=(AcY.1 hx).2;simpa using this
theorem Z9(s b:BitVec 256){c:Nat}(h:b.getLsbD c=true):∃x∈Jd s b,x.getLsbD c=true:=by
 have hc:c<256:=by
  apply Classical.byContradiction;intro hn;rw [BitVec.getLsbD_of_ge _ _ (by omega)]at h;cases h
 have key:∀x:BitVec 256,x.getLsbD c=true→x≠0:=fun x hx h0=>by rw [h0]at hx;simp at hx
 cases hs:s.getLsbD c with
 | true=>
   have h1:(b &&& s).getLsbD c=true:=by rw [AcF,h,hs];rfl
   exact⟨b &&& s,AcY.2 ⟨by simp,by rw [decide_eq_false (key _ h1)];rfl⟩,h1⟩
 | false=>
   have h1:(b &&& ~~~s).getLsbD c=true:=by rw [AcF,AdP,h,hs];simp [hc]
   exact⟨b &&& ~~~s,AcY.2 ⟨by simp,by rw [decide_eq_false (key _ h1)];rfl⟩,h1⟩
theorem SS(s b:BitVec 256){x:BitVec 256}(hx:x∈Jd s b){c:Nat}(h:x.getLsbD c=true):b.getLsbD c=true:=by
 have:=(AcY.1 hx).1;rcases AeB.1 this with rfl | this
 ·rw [AcF,AcM]at h;exact h.1
 ·rw [AaT]at this;subst this;rw [AcF,AcM]at h;exact h.1
theorem V6(s b:BitVec 256){x:BitVec 256}(hx:x∈Jd s b){c d:Nat}(h:x.getLsbD c=true)(k:x.getLsbD d=true):s.getLsbD c=s.getLsbD d:=by
 have:=(AcY.1 hx).1;rcases AeB.1 this with rfl | this
 ·rw [AcF,AcM]at h k;rw [h.2,k.2]
 ·rw [AaT]at this;subst this;rw [AcF,AcM,AdP]at h k;have h2:=h.2;have k2:=k.2;simp only [AcM,AeH]at h2 k2;rw [h2.2,k2.2]
theorem Ub{x:BitVec 256}(h:x≠0):1≤Dt x:=by
 have h1:=(GQ h).1;have h2:=D7 x 0;unfold Dt;exact List.length_pos_of_mem (a:=(Be x 0).1) (AcY.2 ⟨Ae8.2 h2,h1⟩)
theorem M0(p q r:Nat→Bool):∀l:List Nat,(∀c∈l,(p c=true∧q c=false∧r c=true)∨(p c=false∧q c=true∧r c=true)∨(p c=false∧q c=false∧r c=false))→(l.filter p).length+(l.filter q).length=(l.filter r).length
 | [],_=>rfl
 | c::l,h=>by
   have ih:=M0 p q r l fun d hd=>h d (AcK _ hd);rcases h c AcS with⟨h1,h2,h3⟩ | ⟨h1,h2,h3⟩ | ⟨h1,h2,h3⟩<;>simp only [AdG,h1,h2,h3,if_true,Bool.false_eq_true,if_false,AbH]<;>omega
theorem Ua(s b:BitVec 256):Dt (b &&& s)+Dt (b &&& ~~~s)=Dt b:=by
 unfold Dt;refine M0 _ _ _ _ fun c hc=>?_;have hc:=Ae8.1 hc;have e1:(b &&& s).getLsbD c=(b.getLsbD c&&s.getLsbD c):=AcF;have e2:(b &&& ~~~s).getLsbD c=(b.getLsbD c&& !s.getLsbD c):=by rw [AcF,AdP];simp [hc]
 rw [e1,e2];cases b.getLsbD c<;>cases s.getLsbD c<;>simp
theorem RH:Dt 0=0:=by
 unfold Dt;simp
theorem X7(s b:BitVec 256):((Jd s b).map Dt).sum=Dt b:=by
 rw [←Ua s b];unfold Jd;have key:∀x:BitVec 256,(([x].filter fun x=> !decide (x=0)).map Dt).sum=Dt x:=fun x=>by
  by_cases h:x=0
  ·subst h;rw [RH];rfl
  ·rw [AdC (by rw [decide_eq_false h];rfl)];simp
 rw [show [b &&& s,b &&& ~~~s]=[b &&& s]++[b &&& ~~~s]from rfl,Ad8,AcT,AeO,key,key]
structure HL(bl sets:List (BitVec 256)):Prop where
 ne:∀x∈bl,x≠0
 all:∀c,c<256→∃x∈bl,x.getLsbD c=true
 same:∀x∈bl,∀c d,x.getLsbD c=true→x.getLsbD d=true→∀s∈sets,s.getLsbD c=s.getLsbD d
 sum:(bl.map Dt).sum=256
theorem HL.len{bl sets:List (BitVec 256)}(h:HL bl sets):bl.length≤256:=by
 refine AdJ ?_ (Ad7 h.sum);have key:∀l:List (BitVec 256),(∀x∈l,x≠0)→l.length≤(l.map Dt).sum:=by
  intro l
  induction l with
  | nil=>intro _;exact AbX _
  | cons x l ih=>
    intro h;have:=ih fun y hy=>h y (AcK _ hy);have:=Ub (h x AcS);simp only [AbH,Ad4,AeQ];omega
 exact key bl h.ne
theorem HL.cut{bl sets:List (BitVec 256)}(h:HL bl sets)(s:BitVec 256):HL (Lc bl s) (sets++[s]):=by
 refine⟨fun x hx=>?_,fun c hc=>?_,fun x hx c d hxc hxd t ht=>?_,?_⟩
 ·obtain⟨b,hb,hx⟩:=AdD.1 hx;exact ZA s b x hx
 ·obtain⟨b,hb,hbc⟩:=h.all c hc;obtain⟨x,hx,hxc⟩:=Z9 s b hbc;exact⟨x,AdD.2 ⟨b,hb,hx⟩,hxc⟩
 ·obtain⟨b,hb,hx⟩:=AdD.1 hx;rcases AbK.1 ht with ht | ht
  ·exact h.same b hb c d (SS s b hx hxc) (SS s b hx hxd) t ht
  ·rw [AaT]at ht;subst ht;exact V6 t b hx hxc hxd
 ·refine Eq.trans ?_ h.sum;unfold Lc;clear h
  induction bl with
  | nil=>rfl
  | cons b bl ih=>
    rw [Ac8,AcT,AeO,ih,X7,Ad4,AeQ]
theorem IB(sets:List (BitVec 256)):HL (CM sets) sets:=by
 have key:∀(rest done bl:List (BitVec 256)),HL bl done→HL (rest.foldl Lc bl) (done++rest):=by
  intro rest
  induction rest with
  | nil=>intro done bl h;simpa using h
  | cons s rest ih=>
    intro done bl h;have:=ih (done++[s]) (Lc bl s) (h.cut s);simpa using this
 refine key sets [] [AcO 256] ⟨fun x hx=>?_,fun c hc=>⟨_,AaT.2 rfl,by rw [BitVec.getLsbD_allOnes];exact decide_eq_true hc⟩,fun x hx c d _ _ s hs=>(by cases hs),by kernel_rfl⟩;rw [AaT]at hx;subst hx;decide
theorem Mz(k:Nat):∀n,((Ad9 n).filter fun b=>k==b).length=if k<n then 1 else 0
 | 0=>rfl
 | n+1=>by
   rw [Ae1,Ad8,AaS,Mz k n,AdG,List.filter_nil];cases hb:(k==n)with
   | true=>
     have h:=beq_iff_eq.1 hb;subst h;simp
   | false=>
     have h:k≠n:=fun h=>by rw [h]at hb;simp at hb
     rw [if_neg (show¬(false=true) by decide)];by_cases h2:k<n
     ·rw [if_pos h2,if_pos (show k<n+1 by omega)];rfl
     ·rw [if_neg h2,if_neg (show¬k<n+1 by omega)];rfl
theorem reps_len(sets:List (BitVec 256)):(BB sets).length≤256:=by
 have h:=(IB sets).len;have key:∀(bl:List (BitVec 256)),((Ad9 256).flatMap (Cr bl)).length=bl.length:=by
  intro bl
  induction bl with
  | nil=>
    have:∀l:List Nat,l.flatMap (Cr [])=[]:=fun l=>by simp [Cr]
    rw [this]
  | cons x bl ih=>
    have e:∀l:List Nat,(l.flatMap (Cr (x::bl))).length=(l.flatMap (Cr bl)).length+(l.filter fun b=>(Be x 0).1==b).length:=by
     intro l
     induction l with
     | nil=>rfl
     | cons b l ih=>
       rw [Ac8,Ac8,AaS,AaS,ih,AdG];have:(Cr (x::bl) b).length=(Cr bl b).length+if((Be x 0).1==b)=true then 1 else 0:=by
        unfold Cr;rw [AdG];split<;>simp
       rw [this];split<;>simp<;>omega
    rw [e,ih,AbH]
    congr 1
    rw [Mz,if_pos (D7 x 0)]
 unfold BB;rw [key];exact h
end Go.Proofs.YtfbghcpdinlmcaaGreatDoor
namespace Go.VC
theorem StB.newCap{α:Type}{T:Ty α}{e:TypeId}{B:Nat→Prop}{H0 H H':Aa}{ps:List Pc}{b cap:Nat}{l:List Value}(st:StB B H0 H ps)(hb:b=H.size)(hs:H'.size=b+1)(hk:Blk H' b e l)(ha:Agr (fun k=>k<b) H H')(hl:l.length=cap*T.size)(hm:cap≤maxLen):StB B H0 H' (ps++[pS T e (some ⟨b,0,none⟩) 0 cap []]):=by
 subst hb;have h:=Sl.made (sz:=T.size) (n:=0) (cap:=cap) (AcZ _) hk (AcZ _) hm hl;rw [Nat.zero_mul,Ae4]at h;refine st.add (ha.mono fun k hk=>hk) _ ⟨⟨[],h,rfl⟩,fun k hk=>hk.elim⟩ fun k hk=>?_;rcases hk with⟨o,n',c,h⟩ | h
 ·cases h;omega
 ·exact h.elim
end Go.VC
namespace Go.Proofs.YtfbghcpdinlmcaaGreatDoor
open Go.VC
theorem V5(s b:BitVec 256):(Jd s b).length≤2:=AdJ (Ae9 _ _) (AbX 2)
theorem Od(s:BitVec 256):∀bl:List (BitVec 256),(bl.flatMap (Jd s)).length≤2*bl.length
 | []=>AbX _
 | b::bl=>by
   have h1:=Od s bl;have h2:=V5 s b;rw [Ac8,AaS,AbH];omega
theorem UR{α β:Type}(f:α→List β){l:List α}{k:Nat}{x:α}(h:l[k]? =some x):(l.take (k+1)).flatMap f=(l.take k).flatMap f++f x:=by
 rw [Af h,Ad5];simp
theorem Qd{sets:List (BitVec 256)}{k:Nat}{s:BitVec 256}(h:sets[k]? =some s):CM (sets.take (k+1))=(CM (sets.take k)).flatMap (Jd s):=by
 unfold CM;rw [Af h,AcL];rfl
theorem AcG:(Tryz.prog.info? 263).bind (·.zero)=some (.agg #[.int .u64 0,.int .u64 0,.int .u64 0,.int .u64 0,.int .u64 0,.int .u64 0,.int .u64 0,.int .u64 0]):=by kernel_rfl
theorem AbC(x y:BitVec 256):Instr.fill (fun i=>some (i*4,4)) (Value.agg #[.int .u64 0,.int .u64 0,.int .u64 0,.int .u64 0,.int .u64 0,.int .u64 0,.int .u64 0,.int .u64 0]).cells [(0,Bt x),(1,Bt y)]=some (Ac x++Ac y).toArray:=by
 unfold Bt Ac;generalize wd x 0=a0;generalize wd x 1=a1;generalize wd x 2=a2;generalize wd x 3=a3;generalize wd y 0=b0;generalize wd y 1=b1;generalize wd y 2=b2;generalize wd y 3=b3;simp [Instr.fill,Value.cells]
theorem LS(s:BitVec 256):Ai (Ac 0) 0 (Ac s)=Ac s:=by simp [Ai,Ac]
theorem Mr{S:Nat→Prop}{H:Aa}{sa:Option Addr}{sc:Nat}{sets:List (BitVec 256)}(hS:∀k,S k→k<H.size)(h:SlD C7 S H sa sc sets)(hsl:sets.length≤33554432):
  Al Tryz.prog 96 #[.slice sa sets.length sc] H fun v H'=>Agr (Old H) H H'∧∃a cap,v= .slice a (BB sets).length cap∧SlD C7 (Old H') H' a cap (BB sets):=by
 refine Al.of_vc Tryz.func96 rfl (Tryz.call96 _) (Am (FV 0 255 (by decide) (by decide) H) fun H1 ha1=>?_);rw [J6];have st1:=(St.nil H).call ha1;refine AG CK (Ac (AcO 256)) rfl rfl (by decide) (by decide) ?_;intro b2 H2 hb2 hs2 hk2 ha2;have st2:=st1.new (T:=C7) (n:=1) (xs:=[AcO 256]) hb2 hs2 hk2 ha2 (Ty.reps_one rfl) rfl (by decide);(conv=>whnf);refine AK.mk [3,21] (fun x:Nat×List (BitVec 256)×Option Addr×Nat=>match x with | (k,bl,a,c)=>[.slice a bl.length c,.int .i64 (k:Int)])
  (fun x H3=>x.1≤sets.length∧x.2.1=CM (sets.take x.1)∧St H H3 [pS C7 101 x.2.2.1 x.2.1.length x.2.2.2 x.2.1]) (fun x _=>sets.length - x.1) ?_ ?_
 ·(conv=>whnf);exact⟨(0,[AcO 256],some ⟨b2,0,none⟩,1),rfl,by simp,rfl,st2⟩
 ·rintro⟨k,bl,a3,c3⟩ H3 junk ⟨hk,hbl,st3⟩;simp only at hk hbl st3;have hpo:=IB (sets.take k);rw [←hbl]at hpo;have hlen:=hpo.len;refine AN.mk (fun hz=>?_) (fun hz=>?_)<;>simp only [decide_eq_true_eq,decide_eq_false_iff_not]at hz
  ·obtain⟨s,hs⟩:=Ae (l:=sets) (k:=k) (by omega);have hsucc:=Qd hs;rw [←hbl]at hsucc;refine ixr (i:=k) CK (h.frame (st3.old.mono hS)) hs rfl ?_;rintro b4 o4 cs4 hSb4 hcells4 rfl;refine ldN (cs:=Ac s) AP hcells4 trivial (An (Bt 0) (Ac 0) rfl rfl ?_);intro p5 H5 hp5 hs5 hb5 ha5;have st5:=st3.box hp5 hs5 hb5 ha5;refine AI (cs:=Ac s) st5 1 rfl rfl (show 0+4≤4 by decide) rfl fun H6 st6=>?_;rw [LS]at st6;(conv=>whnf);refine AK.mk [6,27] (fun x:Nat×List (BitVec 256)×Option Addr×Nat=>match x with | (j,nx,a,c)=>[.slice a nx.length c,.int .i64 (j:Int)])
    (fun x H7=>x.1≤bl.length∧x.2.1=(bl.take x.1).flatMap (Jd s)∧St H H7 [pS C7 101 a3 bl.length c3 bl,pB 101 p5 (Ac s),pS C7 101 x.2.2.1 x.2.1.length x.2.2.2 x.2.1]) (fun x _=>bl.length - x.1) ?_ ?_
   ·(conv=>whnf);exact⟨(0,[],none,0),rfl,by simp,rfl,StB.nils st6 C7 101⟩
   ·rintro⟨j,nx,a7,c7⟩ H7 junk7 ⟨hj,hnx,st7⟩;simp only at hj hnx st7;refine AN.mk (fun hz2=>?_) (fun hz2=>?_)<;>simp only [decide_eq_true_eq,decide_eq_false_iff_not]at hz2
    ·obtain⟨b,hb⟩:=Ae (l:=bl) (k:=j) (by omega);have hnl:=Od s (bl.take j);rw [←hnx,AeK]at hnl;refine ixO (j:=j) CK st7 0 rfl hb rfl fun b8 o8 cs8 hO8 hc8 hr8=>?_;obtain rfl:=hr8;refine ldN (cs:=Ac b) AP hc8 trivial (An (Bt 0) (Ac 0) rfl rfl ?_);intro p9 H9 hp9 hs9 hb9 ha9;have st9:=st7.box hp9 hs9 hb9 ha9;refine AI (cs:=Ac b) st9 3 rfl rfl (show 0+4≤4 by decide) rfl fun H10 st10=>?_;rw [LS]at st10;refine Ar.held (Old H10) 99 (sq [0,1,3,4,7] (.f 2 (.f 5 (sq [6] .e)))) rfl (by kernel_rfl) ?_;have q5:=st10.blk 1 rfl;have q9:=st10.blk 3 rfl;refine ldN (cs:=Ac b) AP (q9.cells fun j v hv=>by rw [AaV];exact hv) q9.lt ?_;refine ldN (cs:=Ac s) AP (q5.cells fun j v hv=>by rw [AaV];exact hv) q5.lt ?_;refine ldN (cs:=Ac b) AP (q9.cells fun j v hv=>by rw [AaV];exact hv) q9.lt ?_;refine ldN (cs:=Ac s) AP (q5.cells fun j v hv=>by rw [AaV];exact hv) q5.lt ?_;refine Am (Sf b s H10) fun H11 ha11=>?_;have st11:=st10.call ha11;refine⟨ha11,?_⟩;refine Am (Yi b s H11) fun H12 ha12=>?_;have st12:=st11.call ha12;refine⟨ha11.trans (ha12.mono fun k hk=>Aj ha11 hk),?_⟩;refine Ct YS _ AcG (Ac (b &&& s)++Ac (b &&& ~~~s)) (AbC _ _) ?_;have hcut:Jd s b=[b &&& s,b &&& ~~~s].filter fun x=> !decide (x=0):=rfl;generalize b &&& s=x0 at*;generalize b &&& ~~~s=x1 at*;(conv=>whnf);refine AK.mk [6,38] (fun x:Nat×List (BitVec 256)×Option Addr×Nat=>match x with | (i,nx,a,c)=>[.slice a nx.length c,.int .i64 (i:Int)])
      (fun x H13=>x.1≤2∧x.2.1=nx++([x0,x1].take x.1).filter (fun x=> !decide (x=0))∧x.2.1.length≤nx.length+x.1∧St H H13 [pS C7 101 a3 bl.length c3 bl,pB 101 p5 (Ac s),pS C7 101 x.2.2.1 x.2.1.length x.2.2.2 x.2.1,pB 101 p9 (Ac b)]) (fun x _=>2 - x.1) ?_ ?_
     ·(conv=>whnf);exact⟨(0,nx,a7,c7),rfl,by simp,by simp,by simp,st12⟩
     ·rintro⟨i,ny,a13,c13⟩ H13 junk13 ⟨hi,hny,hnyl,st13⟩;simp only at hi hny hnyl st13;refine AN.mk (fun hz3=>?_) (fun hz3=>?_)<;>simp only [decide_eq_true_eq,decide_eq_false_iff_not]at hz3
      ·have hi2:i=0∨i=1:=by omega
       obtain⟨x,hx⟩:∃x,[x0,x1][i]? =some x:=Ae (by simp;omega);have e:Value.agg (((Ac x0++Ac x1).toArray).extract (((i:Nat):Int).toNat*4) (((i:Nat):Int).toNat*4+4))=Bt x:=by
        rcases hi2 with rfl | rfl<;>cases hx<;>rfl
       have hnext:nx++([x0,x1].take (i+1)).filter (fun x=> !decide (x=0))=ny++[x].filter (fun x=> !decide (x=0)):=by
        rw [hny,Af hx,Ad8,Ad1]
       refine Av.run (ixvN (i:=(i:Int)) YS AP (by omega) (show(i:Int)<((2:Nat):Int) by omega) ?_);rw [e];refine An (Bt 0) (Ac 0) rfl rfl ?_;intro p14 H14 hp14 hs14 hb14 ha14;have st14:=st13.box hp14 hs14 hb14 ha14;refine AI (cs:=Ac x) st14 4 rfl rfl (show 0+4≤4 by decide) rfl fun H15 st15=>?_;rw [LS]at st15;have q15:=st15.blk 4 rfl;refine ldN (cs:=Ac x) AP (q15.cells fun j v hv=>by rw [AaV];exact hv) trivial ?_;refine Ct Cc (Bt 0) rfl (Ac 0) rfl (LQ x 0 ?_);by_cases hx0:x=0
       ·have d:(!decide (x=0))=false:=by rw [decide_eq_true hx0];rfl
        rw [d];have hf:[x].filter (fun x=> !decide (x=0))=[]:=AdY (p:=fun x=> !decide (x=0)) (by rw [d];decide);rw [hf,Ae2]at hnext;(conv=>whnf);rw [w64 (x:=(i:Int)+1) (by omega) (by omega)];refine⟨rfl,(i+1,ny,a13,c13),by simp,⟨by simp only;omega,hnext.symm,by simp only;omega,?_⟩,by simp only;omega⟩;exact st15.pick [0,1,2,3] (by decide)
       ·have d:(!decide (x=0))=true:=by rw [decide_eq_false hx0];rfl
        rw [d];have hf:[x].filter (fun x=> !decide (x=0))=[x]:=AdC (p:=fun x=> !decide (x=0)) d;rw [hf]at hnext;refine ldN (cs:=Ac x) AP (q15.cells fun j v hv=>by rw [AaV];exact hv) trivial ?_;refine AG CK (Ac x) rfl rfl (by decide) (by decide) ?_;intro q16 H16 hq16 hs16 hb16 ha16;have st16:=st15.skip hq16 ha16;refine Ml (ys:=[x]) (ds:=Ac x) st16 2 CK rfl (hb16.cells fun j v hv=>by rw [AaV];exact hv) (Ty.reps_one rfl) rfl (by simp [Ac,Value.oneCell']) (by simp only [AaU];omega) (by decide) fun a' c' H17 st17 _=>?_;(conv=>whnf);rw [w64 (x:=(i:Int)+1) (by omega) (by omega)];refine⟨rfl,(i+1,ny++[x],a',c'),by simp,⟨by simp only;omega,hnext.symm,by simp only [AaS,AaU];omega,?_⟩,by simp only;omega⟩;simp only [AaS];exact st17.pick [0,1,2,3] (by decide)
      ·obtain rfl:i=2:=by omega
       have hnb:ny=(bl.take (j+1)).flatMap (Jd s):=by
        rw [UR (Jd s) hb,←hnx,hny,hcut];rfl
       (conv=>whnf);rw [w64 (x:=(j:Int)+1) (by omega) (by omega)];refine⟨rfl,(j+1,ny,a13,c13),by simp,⟨by simp only;omega,hnb,?_⟩,by simp only;omega⟩;exact st13.pick [0,1,2] (by decide)
    ·obtain rfl:j=bl.length:=by omega
     rw [AbW]at hnx;(conv=>whnf);rw [w64 (x:=(k:Int)+1) (by omega) (by omega)];refine⟨rfl,(k+1,nx,a7,c7),by simp,⟨by simp only;omega,by simp only;rw [hsucc,hnx],?_⟩,by simp only;omega⟩;exact st7.pick [2] (by decide)
  ·obtain rfl:k=sets.length:=by omega
   rw [AbW]at hbl hpo;have hone:∀x:BitVec 256,((Be x 0).1:Int)=((Be x 0).1:Int):=fun _=>rfl;refine Xd CK (by omega) (by omega) (by omega) (by omega) ?_;intro p5 H5 hp5 hs5 hb5 ha5;rw [AbV]at hb5;rw [AbV,Int.toNat_zero];have st5:=st3.newCap (T:=C7) (cap:=bl.length) hp5 hs5 hb5 ha5 (by simp [C7]) (by unfold maxLen;omega);have hrl:=reps_len sets;(conv=>whnf);refine AK.mk [11,55] (fun x:Nat×List (BitVec 256)×Option Addr×Nat=>match x with | (b,out,a,c)=>[.slice a out.length c,.int .i64 (b:Int)])
    (fun x H6=>x.1≤256∧x.2.1=(Ad9 x.1).flatMap (Cr bl)∧St H H6 [pS C7 101 a3 bl.length c3 bl,pS C7 101 x.2.2.1 x.2.1.length x.2.2.2 x.2.1]) (fun x _=>256 - x.1) ?_ ?_
   ·(conv=>whnf);exact⟨(0,[],some ⟨p5,0,none⟩,bl.length),rfl,by simp,rfl,st5⟩
   ·rintro⟨b,out,a6,c6⟩ H6 junk6 ⟨hb,hout,st6⟩;simp only at hb hout st6;have hol:out.length≤b*256:=by
     rw [hout];clear hout
     induction b with
     | zero=>simp
     | succ b ih=>
       have h1:=ih (by omega);have h2:(Cr bl b).length≤bl.length:=Ae9 _ _;rw [Ae1,Ad5,AaS];simp only [Ac8,List.flatMap_nil,Ae2];omega
    refine AN.mk (fun hz2=>?_) (fun hz2=>?_)<;>simp only [decide_eq_true_eq,decide_eq_false_iff_not]at hz2
    ·have hnext:(Ad9 (b+1)).flatMap (Cr bl)=out++Cr bl b:=by
      rw [hout,Ae1,Ad5];simp
     (conv=>whnf);refine AK.mk [11,60] (fun x:Nat×List (BitVec 256)×Option Addr×Nat=>match x with | (j,o,a,c)=>[.slice a o.length c,.int .i64 (j:Int)])
      (fun x H7=>x.1≤bl.length∧x.2.1=out++(bl.take x.1).filter (fun s=>(Be s 0).1==b)∧x.2.1.length≤out.length+x.1∧St H H7 [pS C7 101 a3 bl.length c3 bl,pS C7 101 x.2.2.1 x.2.1.length x.2.2.2 x.2.1]) (fun x _=>bl.length - x.1) ?_ ?_
     ·(conv=>whnf);exact⟨(0,out,a6,c6),rfl,by simp,by simp,by simp,st6⟩
     ·rintro⟨j,o,a7,c7⟩ H7 junk7 ⟨hj,ho,hoL,st7⟩;simp only at hj ho hoL st7;refine AN.mk (fun hz3=>?_) (fun hz3=>?_)<;>simp only [decide_eq_true_eq,decide_eq_false_iff_not]at hz3
      ·obtain⟨x,hx⟩:=Ae (l:=bl) (k:=j) (by omega);have hnx:out++(bl.take (j+1)).filter (fun s=>(Be s 0).1==b)=o++[x].filter (fun s=>(Be s 0).1==b):=by
        rw [ho,Af hx,Ad8,Ad1]
       refine Av.run (ixO (j:=j) CK st7 0 rfl hx rfl fun b8 o8 cs8 hO8 hc8 hr8=>?_);obtain rfl:=hr8;refine ldN (cs:=Ac x) AP hc8 trivial (An (Bt 0) (Ac 0) rfl rfl ?_);intro p9 H9 hp9 hs9 hb9 ha9;have st9:=st7.box hp9 hs9 hb9 ha9;refine AI (cs:=Ac x) st9 2 rfl rfl (show 0+4≤4 by decide) rfl fun H10 st10=>?_;rw [LS]at st10;refine ldN (cs:=Ac x) AP ((st10.blk 2 rfl).cells fun j v hv=>by rw [AaV];exact hv) trivial ?_;refine Am (Px x 0 (by decide) H10) fun H11 ha11=>?_;have st11:=st10.call ha11;have q11:=st11.blk 2 rfl;have hn8:=D7 x 0;(conv=>whnf);rw [w64 (x:=((Be x 0).1:Int)) (by omega) (by omega)];cases hd:((Be x 0).1==b)with
       | false=>
         have d:(((Be x 0).1:Int)==(b:Int))=false:=by
          rw [beq_eq_false_iff_ne]at hd ⊢;omega
         have hf:[x].filter (fun s=>(Be s 0).1==b)=[]:=AdY (p:=fun s=>(Be s 0).1==b) (by rw [hd];decide);rw [hf,Ae2]at hnx;(conv=>whnf);rw [d];(conv=>whnf);rw [w64 (x:=(j:Int)+1) (by omega) (by omega)];refine⟨rfl,(j+1,o,a7,c7),by simp,⟨by simp only;omega,hnx.symm,by simp only;omega,?_⟩,by simp only;omega⟩;exact st11.pick [0,1] (by decide)
       | true=>
         have d:(((Be x 0).1:Int)==(b:Int))=true:=by
          rw [beq_iff_eq]at hd ⊢;omega
         have hf:[x].filter (fun s=>(Be s 0).1==b)=[x]:=AdC (p:=fun s=>(Be s 0).1==b) hd;rw [hf]at hnx;(conv=>whnf);rw [d];refine ldN (cs:=Ac x) AP (q11.cells fun j v hv=>by rw [AaV];exact hv) trivial ?_;refine AG CK (Ac x) rfl rfl (by decide) (by decide) ?_;intro q12 H12 hq12 hs12 hb12 ha12;have st12:=st11.skip hq12 ha12;refine Ml (ys:=[x]) (ds:=Ac x) st12 1 CK rfl (hb12.cells fun j v hv=>by rw [AaV];exact hv) (Ty.reps_one rfl) rfl (by simp [Ac,Value.oneCell']) (by simp only [AaU];omega) (by decide) fun a' c' H13 st13 _=>?_;(conv=>whnf);rw [w64 (x:=(j:Int)+1) (by omega) (by omega)];refine⟨rfl,(j+1,o++[x],a',c'),by simp,⟨by simp only;omega,hnx.symm,by simp only [AaS,AaU];omega,?_⟩,by simp only;omega⟩;simp only [AaS];exact st13.pick [0,1] (by decide)
      ·obtain rfl:j=bl.length:=by omega
       rw [AbW]at ho;(conv=>whnf);rw [w64 (x:=(b:Int)+1) (by omega) (by omega)];exact⟨rfl,(b+1,o,a7,c7),by simp,⟨by simp only;omega,by simp only;rw [hnext,ho];rfl,st7⟩,by simp only;omega⟩
    ·obtain rfl:b=256:=by omega
     have hfin:out=BB sets:=by rw [hout,hbl];rfl
     have hv:=st6.view 1 rfl;subst hfin;(conv=>whnf);exact⟨st6.old,_,_,rfl,hv⟩
end Go.Proofs.YtfbghcpdinlmcaaGreatDoor
namespace Go.VC
section
variable{α:Type}{T:Ty α}{e:TypeId}{a:Option Addr}{n cap:Nat}{xs ys:List α}{B S:Nat→Prop}{H0 H:Aa}{ps:List Pc}
theorem Z5{P:Program}{t ty by_:Nat}{z:Value}{a2:Option Addr}{c2:Nat}{K:Value→Aa→Prop}(hf:T.Free)(hone:T.Ones)(st:StB B H0 H ps)(i:Nat)(ht:SlT P t e T.size by_ z)(hp:ps[i]? =some (pS T e a n cap xs))(hSB:∀k,S k→B k)(hy:SlD T S H a2 c2 ys)
  (h63:xs.length+ys.length≤8796093022208) (hby:by_≤16)
  (k:∀a' cap' H',StB B H0 H' (ps.set i (pS T e a' (xs.length+ys.length) cap' (xs++ys)))→K (.slice a' (xs.length+ys.length) cap') H'):
  BN P (Builtin.append_ #[t,t] ty [.slice a n cap,.slice a2 ys.length c2].toArray) H K:=by
 refine Nr (T:=T) (S:=S) (lo:=0) ht hone ((st.at_ i hp).1.free hf) (AcZ _) (fun k hk=>⟨st.up (hSB k hk),fun hb=>(st.in_ i hp (.inl hb)).1 (hSB k hk)⟩) hy (by unfold maxLen;omega) (by have:=AeP h63 hby;omega) ?_;intro v' H' hown hagr hsz hfr;have hown:SlO T none_ H' 0 e v' (xs++ys):=hown.free hf;obtain⟨a',cap',rfl⟩:=hown.hull;rw [AaS]at hown hfr ⊢;refine k a' cap' H' (st.upd i hp (hagr.mono fun k hk=>⟨hk.1,fun hb=>hk.2 (.inl hb)⟩) _ ⟨hown,fun k hk=>hk.elim⟩ (fun k hk=>?_) (fun k hk=>?_) hsz)
 ·rcases hk with hk | hk
  ·rcases hfr k hk with h | h
   ·exact .inl (.inl h)
   ·exact .inr h
  ·exact hk.elim
 ·rcases hk with hk | hk
  ·exact(hown.lt hk).2
  ·exact hk.elim
theorem StB.capI(st:StB B H0 H ps)(i:Nat)(hp:ps[i]? =some (pS T e a n cap xs)):xs.length≤cap:=by
 obtain⟨cs,⟨-,h⟩,-⟩:=(st.at_ i hp).1;rcases h with⟨-,h⟩ | ⟨b,c,l,h1,-,-,h2,-⟩
 ·omega
 ·injection h1 with e1 e2 e3
  omega
theorem StB.popI{x:α}(st:StB B H0 H ps)(i:Nat)(hp:ps[i]? =some (pS T e a n cap (xs++[x]))):StB B H0 H (ps.set i (pS T e a xs.length cap xs)):=by
 have hown:=(st.at_ i hp).1;refine st.say i hp _ ⟨hown.pop,fun k hk=>hk.elim⟩ fun k hk=>?_;rcases hk with⟨o,m,c,hk⟩ | hk
 ·injection hk with e1 e2 e3
  subst e1;exact .inl ⟨o,n,cap,rfl⟩
 ·exact hk.elim
end
theorem AbQ{α:Type}{Ok:α→Prop}{enc:α→Value}{P:Program}{t kt et vt:TypeId}{z:Value}{S:Nat→Prop}{H:Aa}{b N:Nat}{m:α→Option Value}(ht:IP P t kt et z)(h:JC Ok enc H b m)(hb:S b)(hN:∀l:List α,l.Nodup→(∀a∈l,(m a).isSome=true)→l.length≤N){K:Value→Prop}
  (k:∀c:Nat,c≤N→K (.int .i64 (c:Int))):AJ P (Builtin.len_ #[t] vt [.map (some b)].toArray) S H K:=by
 obtain⟨⟨es,clock,h1,h2,h3,h4⟩,hok⟩:=h;have pre:∀k,k≤es.size→∃l:List α,l.length=k∧∀(j:Nat) (a:α),l[j]? =some a→∃x,es[j]? =some x∧x.key=enc a∧m a=some x.val:=by
  intro k
  induction k with
  | zero=>exact fun _=>⟨[],rfl,fun j a h=>by simp at h⟩
  | succ k ih=>
    intro hk;obtain⟨l,hl,hg⟩:=ih (by omega);have hx:es[k]? =some es[k]:=AdT (by omega);obtain⟨a,e1,e2⟩:=h3 k _ hx;refine⟨l++[a],by simp [hl],fun j a' hj=>?_⟩;by_cases hjk:j<k
    ·rw [AcP (by omega)]at hj;exact hg j a' hj
    ·have hjl:=(Ab8.1 hj).1;simp only [AaS,AbH,AbM]at hjl;obtain rfl:j=k:=by omega
     rw [AcU (by omega),hl,AeF]at hj;simp only [AdA,Ad0.injEq]at hj;subst hj;exact⟨_,hx,e1,e2⟩
 obtain⟨l,hl,hg⟩:=pre es.size (AbX _);have hnd:l.Nodup:=by
  unfold List.Nodup;rw [List.pairwise_iff_getElem];intro i j hi hj hij e;obtain⟨x,hx,hkx,-⟩:=hg i _ (AcW hi);obtain⟨y,hy,hky,-⟩:=hg j _ (AcW hj);rw [e]at hkx;have:=Fo h2 hx hy (hkx.trans hky.symm);omega
 have hle:=hN l hnd fun a ha=>by
  obtain⟨j,hj⟩:=List.getElem?_of_mem ha;obtain⟨x,-,-,e⟩:=hg j a hj;rw [e];rfl
 refine AJ.mk _ (fun w hw=>?_) (k es.size (by omega));have hb':=(hw b hb).trans h1;simp [Builtin.len_,run_underlying ht.under,Go.MapKept.run_getObj_map hb',goInt]
end Go.VC
namespace Go.Proofs.YtfbghcpdinlmcaaGreatDoor
open Go.VC
theorem ZS(X:PS):mss X≤65536:=by unfold mss;exact JW _
theorem WD{a:NfM}{q:Int}(h:a.has q=true):∃row,(Aa5 a)[q.toNat]? =some row∧row.length≤a.edges.length∧∀p,p∈row↔∃e∈a.edges,e.sil=true∧e.fr=q∧a.has e.to=true∧p=e.to:=by
 have hn:0≤q∧q<(Fj a:Int):=by
  have:=Qy a q;rw [h]at this;simpa using this.symm
 refine⟨_,Hg _ _ (by omega),Ad6 _ _,fun p=>?_⟩;rw [List.mem_filterMap];constructor
 ·rintro⟨e,he,h1⟩;unfold keyS okE at h1;split at h1
  ·rename_i hk;simp only [AcM]at hk;rw [AdE]at h1;have hfr:=(NfM.has_iff.1 hk.1.1);split at h1
   ·rename_i h2;injection h1 with h1
    exact⟨e,he,hk.2,by simp only at h2;omega,hk.1.2,h1.symm⟩
   ·cases h1
  ·simp at h1
 ·rintro⟨e,he,h1,rfl,h3,rfl⟩;refine⟨e,he,?_⟩;unfold keyS okE;rw [h,h3,h1];simp
structure O9(a:NfM)(X:List Int)(todo:List Int)(mm:Int→Option Value):Prop where
 has:∀q∈todo,a.has q=true
 one:∀p,Dom mm p→mm p=some (.int .i64 1)
 tcl:∀p∈todo,clS a (·∈X) p
 mcl:∀p,Dom mm p→clS a (·∈X) p
 all:∀x∈X,Dom mm x∨x∈todo
 shut:∀p,Dom mm p→∀e∈a.edges,e.sil=true→e.fr=p→a.has e.to=true→Dom mm e.to∨e.to∈todo
 len:todo.length≤X.length+(65536 - mss (Dom mm))*33554432
theorem O9.done{a:NfM}{X:List Int}{mm:Int→Option Value}(h:O9 a X [] mm):∀q,Dom mm q↔clS a (·∈X) q:=fun q=>
 ⟨h.mcl q,Do (Y:=Dom mm) (fun x hx=>(h.all x hx).elim id fun h=>by cases h) (fun e he hs ht hf=>(h.shut e.fr hf e he hs rfl ht).elim id fun h=>by cases h) q⟩
theorem O9.old_{a:NfM}{X todo:List Int}{mm:Int→Option Value}{q:Int}(h:O9 a X (todo++[q]) mm)(hq:Dom mm q):O9 a X todo mm:=by
 refine⟨fun p hp=>h.has p (Ac4 _ hp),h.one,fun p hp=>h.tcl p (Ac4 _ hp),h.mcl,fun x hx=>?_,fun p hp e he h1 h2 h3=>?_,?_⟩
 ·rcases h.all x hx with h1 | h1
  ·exact .inl h1
  ·rcases AbK.1 h1 with h1 | h1
   ·exact .inr h1
   ·rw [AaT]at h1;subst h1;exact .inl hq
 ·rcases h.shut p hp e he h1 h2 h3 with h4 | h4
  ·exact .inl h4
  ·rcases AbK.1 h4 with h4 | h4
   ·exact .inr h4
   ·rw [AaT]at h4;rw [h4];exact .inl hq
 ·have:=h.len;simp only [AaS,AbH,AbM]at this;omega
theorem O9.new_{a:NfM}{X todo row:List Int}{mm:Int→Option Value}{q:Int}(h:O9 a X (todo++[q]) mm)(hq:¬Dom mm q)(hrl:row.length≤33554432)(hrow:∀p,p∈row↔∃e∈a.edges,e.sil=true∧e.fr=q∧a.has e.to=true∧p=e.to):
  O9 a X (todo++row) (put mm q (some (.int .i64 1)))∧mss (Dom (put mm q (some (.int .i64 1))))<mss (Dom mm):=by
 have hqh:=h.has q (by simp);have hqr:=NfM.has_iff.1 hqh;have hqc:=h.tcl q (by simp);have hlt:mss (Dom (put mm q (some (.int .i64 1))))<mss (Dom mm):=ZT (fun p hp=>(F6 p).2 (.inl hp)) hqr.1 (by omega) hq ((F6 q).2 (.inr rfl));refine⟨⟨fun p hp=>?_,fun p hp=>?_,fun p hp=>?_,fun p hp=>?_,fun x hx=>?_,fun p hp e he h1 h2 h3=>?_,?_⟩,hlt⟩
 ·rcases AbK.1 hp with hp | hp
  ·exact h.has p (Ac4 _ hp)
  ·obtain⟨e,-,-,-,h4,rfl⟩:=(hrow p).1 hp;exact h4
 ·by_cases hpq:p=q
  ·subst hpq;unfold put;rw [if_pos rfl]
  ·rcases(F6 p).1 hp with h1 | h1
   ·unfold put;rw [if_neg hpq];exact h.one p h1
   ·exact absurd h1 hpq
 ·rcases AbK.1 hp with hp | hp
  ·exact h.tcl p (Ac4 _ hp)
  ·obtain⟨e,h1,h2,h3,h4,rfl⟩:=(hrow p).1 hp;exact HP a _ e h1 h2 h4 (by rw [h3];exact hqc)
 ·rcases(F6 p).1 hp with h1 | h1
  ·exact h.mcl p h1
  ·rw [h1];exact hqc
 ·rcases h.all x hx with h1 | h1
  ·exact .inl ((F6 x).2 (.inl h1))
  ·rcases AbK.1 h1 with h1 | h1
   ·exact .inr (Ac4 _ h1)
   ·rw [AaT]at h1;exact .inl ((F6 x).2 (.inr h1))
 ·by_cases hpq:p=q
  ·subst hpq;exact .inr (Ad2 _ ((hrow e.to).2 ⟨e,he,h1,h2,h3,rfl⟩))
  ·rcases(F6 p).1 hp with h4 | h4
   ·rcases h.shut p h4 e he h1 h2 h3 with h5 | h5
    ·exact .inl ((F6 _).2 (.inl h5))
    ·rcases AbK.1 h5 with h5 | h5
     ·exact .inr (Ac4 _ h5)
     ·rw [AaT]at h5;exact .inl ((F6 _).2 (.inr h5))
   ·exact absurd h4 hpq
 ·have:=h.len;have hle:=ZS (Dom mm);simp only [AaS,AbH,AbM]at this ⊢;have e1:(65536 - mss (Dom mm))+1≤65536 - mss (Dom (put mm q (some (.int .i64 1)))):=by omega
  have e2:=AdK 33554432 e1;omega
abbrev WL:TypeId:=5
theorem SO{S:Nat→Prop}{H0 H:Aa}{v:Value}{a:NfM}{la:Option Addr}{lc:Nat}{X:List Int}(st:St H0 H [pS tIk 3 la X.length lc X])(hS:∀k,S k→k<H0.size)(hv:Lr S H0 v a)(hX:∀q∈X,a.has q=true)(hXl:X.length≤2199023255552)(hel:a.edges.length≤33554432)(hpow:EF Tryz.prog H0):
  Al Tryz.prog 89 #[v,.slice la X.length lc] H fun r H'=>r= .string (nmB (E9 (clS a (·∈X))))∧Agr (Old H0) H0 H':=by
 obtain⟨nb,sa,sc,ta,tc,rfl,hnb,hcells,hsil,-⟩:=hv;have hnle:=Pz a;refine Al.of_vc Tryz.func89 rfl (Tryz.call89 _) (Sg (Ok:=Mj) (enc:=kI) fun mb H1 hb1 hs1 hm1 ha1=>?_);have st1:=st.mapNewW hb1 hs1 hm1 ha1;(conv=>whnf);refine AK.mk [1] (fun x:List Int×Option Addr×Nat×(Int→Option Value)=>match x with | (todo,a5,c5,mm)=>[.slice a5 todo.length c5])
  (fun x H2=>O9 a X x.1 x.2.2.2∧St H0 H2 [pS tIk 3 x.2.1 x.1.length x.2.2.1 x.1,pMW Mj kI mb x.2.2.2]) (fun x _=>mss (Dom x.2.2.2)*33554434+x.1.length) ?_ ?_
 ·(conv=>whnf);refine⟨(X,la,lc,fun _=>none),rfl,⟨hX,(fun p hp=>by cases hp),fun p hp=>Mq hp,(fun p hp=>by cases hp),fun x hx=>.inr hx,(fun p hp=>by cases hp),Nat.le_add_right _ _⟩,st1⟩
 ·rintro⟨todo,a5,c5,mm⟩ H2 junk2 ⟨hI,st2⟩;simp only at hI st2;have hlen:=hI.len;have htl:todo.length≤4398046511104:=by
   have:(65536 - mss (Dom mm))*33554432≤65536*33554432:=AdK _ (by omega);omega
  refine AN.mk (fun hz=>?_) (fun hz=>?_)<;>simp only [decide_eq_true_eq,decide_eq_false_iff_not]at hz
  ·have hne:todo≠[]:=fun e=>by subst e;simp at hz
   obtain⟨td,q,rfl⟩:∃td q,todo=td++[q]:=⟨todo.dropLast,todo.getLast hne,(AdN hne).symm⟩;have hll:(td++[q]).length=td.length+1:=by simp
   have hqh:=hI.has q (by simp);have hget:(td++[q])[td.length]? =some q:=by simp
   have w1:IntKind.wrap .i64 (((td++[q]).length:Int) - 1)=(td.length:Int):=by rw [hll,w64 (by omega) (by omega)];omega
   (conv=>whnf);rw [w1];refine ixr (i:=td.length) AW (st2.view 0 rfl) hget rfl ?_;rintro b3 o3 c3 hS3 hc3 ⟨rfl,hqk⟩;refine ld1 ct3 hc3.one trivial ?_;(conv=>whnf);rw [w1];refine TO AW (by omega) (by have:=st2.capI 0 rfl;omega) ?_;rw [AbV];have st3:=st2.popI 0 rfl;refine ZP (a:=q) Tx Tv trivial (st3.mapW 1 rfl) trivial ?_;cases hmq:mm q with
   | some w=>
     have hdq:Dom mm q:=by unfold Dom;rw [hmq];rfl
     have hw:=hI.one q hdq;rw [hmq]at hw;injection hw with hw
     subst hw;(conv=>whnf);exact⟨rfl,(td,a5,c5,mm),rfl,⟨hI.old_ hdq,st3⟩,by simp only [AaS,AbH,AbM];omega⟩
   | none=>
     have hnq:¬Dom mm q:=by unfold Dom;rw [hmq];decide
     obtain⟨row,hrow,hrl,hrm⟩:=WD hqh;obtain⟨hI2,hlt⟩:=hI.new_ hnq (AdJ hrl hel) hrm;refine Sh (a:=q) st3 1 Tx Tv trivial rfl rfl fun H4 st4=>(fa LD (ld1 (v:=.slice sa (Fj a) sc) Lt ((hcells.eq (st4.old nb (hS nb hnb))) 0 _ rfl) trivial ?_));refine Lv (i:=q.toNat) FC (hsil.frame (st4.old.mono hS)) (Dv _ _ _).symm hrow (by have:=NfM.has_iff.1 hqh;omega) ?_;rintro b5 o5 cs5 hS5 hc5 ⟨ra,rc,rfl,hrd⟩;refine ld1 F4 hc5.one trivial ?_;refine Z5 (S:=S) (UM .i64) (UN .i64) st4 0 AW rfl hS hrd (by simp only [AaS,AbH,AbM]at htl;omega) (by decide) fun a6 c6 H6 st6=>?_;(conv=>whnf);refine⟨rfl,(td++row,a6,c6,put mm q (some (.int .i64 1))),by simp only [AaS],⟨hI2,?_⟩,?_⟩
     ·simp only [AaS];exact st6
     ·have e2:=AdK 33554434 (Nat.succ_le_of_lt hlt);simp only [AaS,AbH,AbM];omega
  ·obtain rfl:todo=[]:=AdL (by omega);have hdone:=hI.done;have hrng:∀q,Dom mm q→0≤q∧q<65536:=fun q hq=>Ey (I3 (X:=(·∈X)) hX) q ((hdone q).1 hq);refine AbQ (N:=65536) Tx (st2.mapW 1 rfl) trivial (fun l hl hin=>Jq 65536 l hl fun x hx=>hrng x (hin x hx)) fun c hc=>(FY AW rfl (by omega) (by omega) (by omega) (by omega) ?_);intro ab H3 hab hs3 hb3 ha3;rw [AbV]at hb3;rw [AbV,show(0:Int).toNat=0 from rfl];have st3:=st2.newCap (T:=tIk) (cap:=c) hab hs3 hb3 ha3 (by simp [Gb]) (by unfold maxLen;omega);refine Yj st3 1 Tx rfl fun r n3 H4 st4=>?_;(conv=>whnf);refine AK.mk [7] (fun x:List Int×Option Addr×Nat×Nat=>match x with | (ks,a5,c5,n)=>[.slice a5 ks.length c5])
    (fun x H5=>x.1.Nodup∧(∀q∈x.1,Dom mm q)∧∃D last,(∀q,D q↔q∈x.1)∧St H0 H5 [pIW Mj kI mb r mm D last x.2.2.2,pS tIk 3 x.2.1 x.1.length x.2.2.1 x.1]) (fun x _=>x.2.2.2) ?_ ?_
   ·(conv=>whnf);exact⟨([],some ⟨ab,0,none⟩,c,n3),rfl,List.Pairwise.nil,(fun q h=>by cases h),_,none,fun q=>⟨fun h=>h.elim,fun h=>by cases h⟩,st4.pick [1,2] (by decide)⟩
   ·rintro⟨ks,a5,c5,n5⟩ H5 junk5 ⟨hnd,hin,D,last,hD,st5⟩;simp only at hnd hin hD st5;have hkl:=Jq 65536 ks hnd fun x hx=>hrng x (hin x hx);refine ZQ st5 0 Tv.inj rfl (fun hall=>?_) fun q v H6 n6 hq hnD hlt st6=>?_
    ·have hset:ks.mergeSort (fun x y=>decide (x≤y))=E9 (clS a (·∈X)):=NV (fun q hq=>Ey (I3 (X:=(·∈X)) hX) q hq) (S2 hnd) fun q=>by
      rw [List.mem_mergeSort,←hdone q];exact⟨hin q,fun h=>(hD q).1 (hall q h)⟩
     have hL:∀q∈E9 (clS a (·∈X)),0≤q∧q<65536:=fun q hq=>Ey (I3 (X:=(·∈X)) hX) q ((E0 (Ey (I3 (X:=(·∈X)) hX)) q).1 hq);have hLl:(E9 (clS a (·∈X))).length≤65536:=JW _;have hel2:(ks.mergeSort fun x y=>decide (x≤y)).length=ks.length:=List.length_mergeSort _;refine Ac7 Aa6 st5 1 rfl (by omega) fun H7 st7=>?_;rw [hset]at st7 hel2;rw [←hel2]at st7 ⊢;generalize E9 (clS a (·∈X))=L at*;replace st7:St H0 H7 [pIW Mj kI mb r mm D last n5,pS tIk 3 a5 L.length c5 L]:=st7;have hv7:=st7.view 1 rfl;have hpow7:=hpow.agr st7.old;have u7:St H7 H7 [pS tU8 WL none 0 0 []]:=(St.nil H7).nils tU8 WL;(conv=>whnf);refine AK.mk [9,59] (fun x:Nat×Option Addr×Nat=>match x with | (i,a9,c9)=>[.slice a9 (Bp (L.take i)).length c9,.int .i64 (i:Int)])
      (fun x H8=>x.1≤L.length∧(x.1=0→x.2.1=none)∧St H7 H8 [pS tU8 WL x.2.1 (Bp (L.take x.1)).length x.2.2 ((Bp (L.take x.1)).map fun(y:Nat)=>(y:Int))]) (fun x _=>L.length - x.1) ?_ ?_
     ·(conv=>whnf);exact⟨(0,none,0),rfl,AcZ _,fun _=>rfl,u7⟩
     ·rintro⟨i,a9,c9⟩ H8 junk8 ⟨hi,h09,st8⟩;simp only at hi h09 st8;refine AN.mk (fun hz2=>?_) (fun hz2=>?_)<;>simp only [decide_eq_true_eq,decide_eq_false_iff_not]at hz2
      ·obtain⟨q,hq⟩:=Ae (l:=L) (k:=i) (by omega);have hqr:=hL q (AbD hq);have hnl:(Bp (L.take i)).length≤393216:=by
        have h1:=I9 (l:=L.take i) fun x hx=>hL x (AdI hx);have h2:(L.take i).length≤65536:=by rw [AeK];omega
        omega
       have hml:((Bp (L.take i)).map fun(y:Nat)=>(y:Int)).length=(Bp (L.take i)).length:=Ac5 _;have hdl:=SW hqr;refine ixr (i:=i) AW (hv7.frame st8.old) hq rfl ?_;rintro b9 o9 cs9 hS9 hc9 ⟨rfl,-⟩;refine ld1 ct3 hc9.one trivial (appI Xr st8 hpow7 (by omega) (by omega) (by omega) fun a10 c10 H10 st10=>?_);have e1:((Bp (L.take i)).map fun(y:Nat)=>(y:Int))++IK q=(Bp (L.take i)++Ed q).map fun(y:Nat)=>(y:Int):=by rw [AcT,ZB]
       rw [e1]at st10 ⊢;have hl1:((Bp (L.take i)++Ed q).map fun(y:Nat)=>(y:Int)).length=(Bp (L.take i)).length+(Ed q).length:=by simp
       refine AG Oq [.int .u8 44] rfl rfl (by decide) (by decide) ?_;intro q11 H11 hq11 hs11 hb11 ha11;have st11:=st10.skip hq11 ha11;refine Mk (x:=(44:Int)) st11 0 Oq rfl hb11 ⟨rfl,RS (x:=44) (by decide)⟩ rfl (by omega) (by decide) fun a12 c12 H12 st12 _=>?_;have e2:((Bp (L.take i)++Ed q).map fun(y:Nat)=>(y:Int))++[44]=(Bp (L.take (i+1))).map fun(y:Nat)=>(y:Int):=by
        rw [Af hq,MF,AcT (l₂:=[44])];rfl
       have e3:((Bp (L.take i)++Ed q).map fun(y:Nat)=>(y:Int)).length+1=(Bp (L.take (i+1))).length:=by
        rw [hl1,Af hq,MF];simp only [AaS,AbH,AbM]
       rw [e2,e3]at st12;rw [e3];(conv=>whnf);rw [w64 (x:=(i:Int)+1) (by omega) (by omega)];exact⟨rfl,(i+1,a12,c12),by simp,⟨by simp only;omega,fun h=>by simp only at h;omega,st12⟩,by simp only;omega⟩
      ·obtain rfl:i=L.length:=by omega
       rw [AbW]at st8;rw [AbW];have hold:Agr (Old H0) H0 H8:=st7.old.trans (st8.old.mono fun k hk=>st7.up hk);cases a9 with
       | none=>
         have hL0:L=[]:=by
          apply Classical.byContradiction;intro hne;have hnl:=st8.capI 0 rfl;obtain⟨cs,⟨-,hcs⟩,-⟩:=(st8.at_ 0 rfl).1;rcases hcs with⟨h1,h2⟩ | ⟨b,c',l',h1,-⟩
          ·rw [Ac5]at h2;cases L with
           | nil=>exact hne rfl
           | cons x l=>
             have:Bp (x::l)=(Ed x++[44])++Bp l:=by unfold Bp;rw [Ac8]
             rw [this]at h2;simp at h2
          ·injection h1 with h1;cases h1
         subst hL0;refine AcB (e:=WL) rfl rfl rfl ?_;(conv=>whnf);exact⟨rfl,hold⟩
       | some ad=>
         obtain⟨cs,⟨-,hcs⟩,hrp⟩:=(st8.at_ 0 rfl).1;obtain⟨rfl,-⟩:=P9 hrp;rcases hcs with⟨h1,-⟩ | ⟨b,c',l',h1,-,hb,-,-,-,htk⟩
         ·injection h1 with h1;cases h1
         ·injection h1 with h1 h2 h3
          injection h1 with h1
          subst h1;refine vb2s (Bp L) (e:=WL) rfl rfl rfl (fun j x hx=>?_) rfl ?_
          ·have hcj:((((Bp L).map fun(y:Nat)=>(y:Int)).map (Value.int .u8)))[j]? =some (.int .u8 (x:Int)):=by
            rw [AcQ,AcQ,hx];rfl
           rw [←htk,List.getElem?_take]at hcj;split at hcj
           ·rw [AaV,hb.cell];exact hcj
           ·cases hcj
          (conv=>whnf);exact⟨rfl,hold⟩
    ·have hdq:Dom mm q:=by unfold Dom;rw [hq];rfl
     have hqk:q∉ks:=fun h=>hnD ((hD q).2 h);have hqr:=hrng q hdq;have hnd2:(ks++[q]).Nodup:=AeG.2 ⟨hnd,by simp,fun x hx y hy e=>by rw [AaT]at hy;subst hy;subst e;exact hqk hx⟩;refine AbP (st6.iterW 0 rfl) Tv.inj hq (AG AW [.int .i64 q] rfl rfl (by decide) (by decide) ?_);intro q11 H11 hq11 hs11 hb11 ha11;refine Mk (x:=q) (st6.skip hq11 ha11) 1 AW rfl hb11 ⟨rfl,Lw hqr⟩ rfl (by omega) (by decide) fun a12 c12 H12 st12 _=>?_;(conv=>whnf);refine⟨rfl,(ks++[q],a12,c12,n6),by simp only [AaS,AbH,AbM],⟨hnd2,fun x hx=>?_,_,_,fun x=>?_,by simp only [AaS,AbH,AbM];exact st12⟩,hlt⟩
     ·rcases AbK.1 hx with h | h
      ·exact hin x h
      ·rw [AaT]at h;subst h;exact hdq
     ·rw [AbK,AaT,hD x]
end Go.Proofs.YtfbghcpdinlmcaaGreatDoor
