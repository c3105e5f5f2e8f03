/- Parts of the proof: PThm, PMb1, PMb2, PMb3, PMb4, PMb5, PMb6, PMb7, PPa9, PPa10, PPa11, PPErr, PBlE, PLrg, PBuE, PNBu, VBook -/
import Derived.Test.YtfbghcpdinlmcaaGreatDoorKDn3
import Derived.Test.YtfbghcpdinlmcaaGreatDoorKDn6
import Derived.Test.YtfbghcpdinlmcaaGreatDoorKDn4
import Derived.Test.YtfbghcpdinlmcaaGreatDoorKDn2
set_option maxHeartbeats 64000000
open Bool renaming and_eq_true → AaE, noConfusion → AaT, and_eq_false_iff → AaW, or_eq_true → Ab2
open Int renaming toNat_natCast → Aa4
open List renaming getElem?_eq_getElem → Aa0, getElem?_eq_some_iff → Aa1, replicate → Aa2, mem_singleton → Aa5, getElem?_map → Aa6, mem_append → Aa9, mem_of_getElem? → AaA, mem_cons_of_mem → AaB, getElem?_eq_none → AaC, mem_cons_self → AaD, mem_cons → AaF, take_of_length_le → AaG, take_add_one → AaH, mem_append_right → AaI, getElem?_set_ne → AaJ, pairwise_cons → AaL, append_assoc → AaM, getElem?_set_self → AaN, not_mem_nil → AaO, append_sublist_append_left → AaP, ext_getElem? → AaQ, length_cons → AaR, nil_sublist → AaS, getElem?_replicate → AaU, set_append_right → AaV, getElem?_range → AaX, all_eq_false → AaY, take_length → AaZ, length_set → Ab0, append_nil → Ab1, nodup_nil → Ab3
open Nat renaming zero_add → Aa3, le_refl → Aa7, mul_one → Aa8, zero_le → AaK
set_option linter.unusedVariables false
set_option linter.unusedSimpArgs false
set_option maxRecDepth 100000
namespace Go.Proofs.YtfbghcpdinlmcaaGreatDoor
open Go.VC
inductive GU(R:Nat→Nat→Prop)(i:Nat):Nat→Prop
 | refl:GU R i i
 | step {k j:Nat}:GU R i k→R k j→GU R i j
def Mt(l:List Nat):ReM→Nat→Nat→Prop
 | .eps,i,j=>i=j
 | .cls s,i,j=>∃c,l[i]? =some c∧s.getLsbD c=true∧j=i+1
 | .cat a b,i,j=>∃k,Mt l a i k∧Mt l b k j
 | .alt a b,i,j=>Mt l a i j∨Mt l b i j
 | .star a,i,j=>GU (Mt l a) i j
 | .and_ a b,i,j=>Mt l a i j∧Mt l b i j
 | .minus a b,i,j=>Mt l a i j∧¬Mt l b i j
inductive Pth(es:List EdM)(l:List Nat)(p:Int)(i:Nat):Int→Nat→Prop
 | refl:Pth es l p i p i
 | sil {q:Int} {j:Nat} {e:EdM}:Pth es l p i q j→e∈es→e.sil=true→e.fr=q→Pth es l p i e.to j
 | eat {q:Int} {j c:Nat} {e:EdM}:Pth es l p i q j→e∈es→e.sil=false→e.fr=q→l[j]? =some c→e.set.getLsbD c=true→Pth es l p i e.to (j+1)
theorem Pth.mono{es es':List EdM}{l:List Nat}{p q:Int}{i j:Nat}(h:Pth es l p i q j)(k:∀e∈es,e∈es'):Pth es' l p i q j:=by
 induction h with
 | refl=>exact .refl
 | sil _ h1 h2 h3 ih=>exact .sil ih (k _ h1) h2 h3
 | eat _ h1 h2 h3 h4 h5 ih=>exact .eat ih (k _ h1) h2 h3 h4 h5
theorem Pth.trans{es:List EdM}{l:List Nat}{p q r:Int}{i j k:Nat}(h:Pth es l p i q j)(g:Pth es l q j r k):Pth es l p i r k:=by
 induction g with
 | refl=>exact h
 | sil _ h1 h2 h3 ih=>exact .sil ih h1 h2 h3
 | eat _ h1 h2 h3 h4 h5 ih=>exact .eat ih h1 h2 h3 h4 h5
theorem Pth.one{es:List EdM}{l:List Nat}{p q:Nat}{i:Nat}(h:Bk p q∈es):Pth es l (p:Int) i (q:Int) i:=.sil .refl h rfl rfl
theorem Ch:∀(r:ReM),r.plain=true→∀n,∀e∈(Ay r n).2.2,(n:Int)≤e.fr∧e.fr<((n+stM r:Nat):Int)∧(n:Int)≤e.to∧e.to<((n+stM r:Nat):Int)
 | .eps,_,n,e,he=>by
   rcases Aa5.1 he with rfl;simp only [Bk,stM];omega
 | .cls s,_,n,e,he=>by
   rcases Aa5.1 he with rfl;simp only [Ft,stM];omega
 | .cat a b,h,n,e,he=>by
   simp only [ReM.plain,AaE]at h;have i1:=Bn a h.1 n;have i2:=Bn b h.2 (n+stM a);simp only [Ay,Aa9,Aa5]at he;simp only [stM];rcases he with(he | he) | rfl
   ·have:=Ch a h.1 n e he;omega
   ·have:=Ch b h.2 (n+stM a) e he;omega
   ·simp only [Bk];omega
 | .alt a b,h,n,e,he=>by
   simp only [ReM.plain,AaE]at h;have i1:=Bn a h.1 (n+1);have i2:=Bn b h.2 (n+1+stM a);simp only [Ay,Aa9,AaF,AaO,or_false]at he;simp only [stM];rcases he with(he | he) | rfl | rfl | rfl | rfl
   ·have:=Ch a h.1 (n+1) e he;omega
   ·have:=Ch b h.2 (n+1+stM a) e he;omega
   all_goals simp only [Bk];omega
 | .star a,h,n,e,he=>by
   have h1:a.plain=true:=h;have i1:=Bn a h1 (n+1);simp only [Ay,Aa9,AaF,AaO,or_false]at he;simp only [stM];rcases he with he | rfl | rfl | rfl | rfl
   ·have:=Ch a h1 (n+1) e he;omega
   all_goals simp only [Bk];omega
 | .and_ _ _,h,_,_,_=>by cases h
 | .minus _ _,h,_,_,_=>by cases h
def InS(n m:Nat)(q:Int):Prop:=(n:Int)≤q∧q<((n+m:Nat):Int)
theorem Gh(l:List Nat):∀(r:ReM),r.plain=true→∀(n i j:Nat),Pth (Ay r n).2.2 l ((Ay r n).1:Int) i ((Ay r n).2.1:Int) j↔Mt l r i j
 | .eps,_,n,i,j=>by
   constructor
   ·intro h;have key:∀q j,Pth (Ay .eps n).2.2 l (n:Int) i q j→i=j:=by
     intro q j h
     induction h with
     | refl=>rfl
     | sil _ _ _ _ ih=>exact ih
     | eat _ h1 h2=>rcases Aa5.1 h1 with rfl;cases h2
    exact key _ _ h
   ·intro h;have h:i=j:=h;subst h;exact Pth.one (Aa5.2 rfl)
 | .cls s,_,n,i,j=>by
   constructor
   ·intro h;have key:∀q j,Pth (Ay (.cls s) n).2.2 l (n:Int) i q j→(q=(n:Int)∧j=i)∨(q=((n+1:Nat):Int)∧Mt l (.cls s) i j):=by
     intro q j h
     induction h with
     | refl=>exact .inl ⟨rfl,rfl⟩
     | sil _ h1 h2=>rcases Aa5.1 h1 with rfl;cases h2
     | eat _ h1 h2 h3 h4 h5 ih=>
       rcases Aa5.1 h1 with rfl;rcases ih with⟨e1,rfl⟩ | ⟨e1,-⟩
       ·exact .inr ⟨rfl,_,h4,h5,rfl⟩
       ·rw [e1]at h3;have h3:(n:Int)=((n+1:Nat):Int):=h3;omega
    rcases key _ _ h with⟨e1,-⟩ | ⟨-,e2⟩
    ·have e1:((n+1:Nat):Int)=(n:Int):=e1;omega
    ·exact e2
   ·rintro⟨c,h1,h2,rfl⟩;exact .eat (e:=Ft n (n+1) s) .refl (Aa5.2 rfl) rfl rfl h1 h2
 | .cat a b,h,n,i,j=>by
   simp only [ReM.plain,AaE]at h;have i1:=Bn a h.1 n;have i2:=Bn b h.2 (n+stM a);have ta:=Gh l a h.1 n;have tb:=Gh l b h.2 (n+stM a);have ea:=Ch a h.1 n;have eb:=Ch b h.2 (n+stM a);have emem:∀e,e∈(Ay (.cat a b) n).2.2↔(e∈(Ay a n).2.2∨e∈(Ay b (n+stM a)).2.2∨e=Bk (Ay a n).2.1 (Ay b (n+stM a)).1):=fun e=>by
    simp only [Ay,Aa9,Aa5,or_assoc]
   constructor
   ·intro hp;have key:∀q j,Pth (Ay (.cat a b) n).2.2 l ((Ay a n).1:Int) i q j→
      (InS n (stM a) q∧Pth (Ay a n).2.2 l ((Ay a n).1:Int) i q j)∨(InS (n+stM a) (stM b) q∧∃k,Mt l a i k∧Pth (Ay b (n+stM a)).2.2 l ((Ay b (n+stM a)).1:Int) k q j):=by
     intro q j hp
     induction hp with
     | refl=>exact .inl ⟨by unfold InS;omega,.refl⟩
     | @sil q j e _ h1 h2 h3 ih=>
       rcases(emem e).1 h1 with h1 | h1 | rfl
       ·have e1:=ea e h1;rcases ih with⟨hq,ih⟩ | ⟨hq,-⟩
        ·exact .inl ⟨⟨by omega,by omega⟩,.sil ih h1 h2 h3⟩
        ·unfold InS at hq;omega
       ·have e1:=eb e h1;rcases ih with⟨hq,-⟩ | ⟨hq,k,hk,ih⟩
        ·unfold InS at hq;omega
        ·exact .inr ⟨⟨by omega,by omega⟩,k,hk,.sil ih h1 h2 h3⟩
       ·have h3:((Ay a n).2.1:Int)=q:=h3;rcases ih with⟨hq,ih⟩ | ⟨hq,-⟩
        ·rw [←h3]at ih;exact .inr ⟨⟨by show _≤(((Ay b (n+stM a)).1:Nat):Int);omega,by show(((Ay b (n+stM a)).1:Nat):Int)<_;omega⟩,j,(ta i j).1 ih,.refl⟩
        ·unfold InS at hq;omega
     | @eat q j c e _ h1 h2 h3 h4 h5 ih=>
       rcases(emem e).1 h1 with h1 | h1 | rfl
       ·have e1:=ea e h1;rcases ih with⟨hq,ih⟩ | ⟨hq,-⟩
        ·exact .inl ⟨⟨by omega,by omega⟩,.eat ih h1 h2 h3 h4 h5⟩
        ·unfold InS at hq;omega
       ·have e1:=eb e h1;rcases ih with⟨hq,-⟩ | ⟨hq,k,hk,ih⟩
        ·unfold InS at hq;omega
        ·exact .inr ⟨⟨by omega,by omega⟩,k,hk,.eat ih h1 h2 h3 h4 h5⟩
       ·cases h2
    rcases key _ _ hp with⟨hq,-⟩ | ⟨-,k,hk,hb⟩
    ·have hq:InS n (stM a) ((Ay b (n+stM a)).2.1:Int):=hq;unfold InS at hq;omega
    ·exact⟨k,hk,(tb k j).1 hb⟩
   ·rintro⟨k,ha,hb⟩;have pa:=((ta i k).2 ha).mono (es':=(Ay (.cat a b) n).2.2) fun e he=>(emem e).2 (.inl he);have pb:=((tb k j).2 hb).mono (es':=(Ay (.cat a b) n).2.2) fun e he=>(emem e).2 (.inr (.inl he));exact(pa.trans (Pth.one ((emem _).2 (.inr (.inr rfl))))).trans pb
 | .alt a b,h,n,i,j=>by
   simp only [ReM.plain,AaE]at h;have i1:=Bn a h.1 (n+1);have i2:=Bn b h.2 (n+1+stM a);have ta:=Gh l a h.1 (n+1);have tb:=Gh l b h.2 (n+1+stM a);have ea:=Ch a h.1 (n+1);have eb:=Ch b h.2 (n+1+stM a);have emem:∀e,e∈(Ay (.alt a b) n).2.2↔(e∈(Ay a (n+1)).2.2∨e∈(Ay b (n+1+stM a)).2.2∨e=Bk n (Ay a (n+1)).1∨e=Bk n (Ay b (n+1+stM a)).1∨e=Bk (Ay a (n+1)).2.1 (n+1+stM a+stM b)∨e=Bk (Ay b (n+1+stM a)).2.1 (n+1+stM a+stM b)):=fun e=>by
    simp only [Ay,Aa9,AaF,AaO,or_false,or_assoc]
   constructor
   ·intro hp;have key:∀q j,Pth (Ay (.alt a b) n).2.2 l (n:Int) i q j→
      (q=(n:Int)∧i=j)∨(InS (n+1) (stM a) q∧Pth (Ay a (n+1)).2.2 l ((Ay a (n+1)).1:Int) i q j)∨(InS (n+1+stM a) (stM b) q∧Pth (Ay b (n+1+stM a)).2.2 l ((Ay b (n+1+stM a)).1:Int) i q j)∨(q=((n+1+stM a+stM b:Nat):Int)∧Mt l (.alt a b) i j):=by
     intro q j hp
     induction hp with
     | refl=>exact .inl ⟨rfl,rfl⟩
     | @sil q j e _ h1 h2 h3 ih=>
       rcases(emem e).1 h1 with h1 | h1 | rfl | rfl | rfl | rfl
       ·have e1:=ea e h1;rcases ih with⟨hq,-⟩ | ⟨hq,ih⟩ | ⟨hq,-⟩ | ⟨hq,-⟩
        ·omega
        ·exact .inr (.inl ⟨⟨by omega,by omega⟩,.sil ih h1 h2 h3⟩)
        ·unfold InS at hq;omega
        ·omega
       ·have e1:=eb e h1;rcases ih with⟨hq,-⟩ | ⟨hq,-⟩ | ⟨hq,ih⟩ | ⟨hq,-⟩
        ·omega
        ·unfold InS at hq;omega
        ·exact .inr (.inr (.inl ⟨⟨by omega,by omega⟩,.sil ih h1 h2 h3⟩))
        ·omega
       ·have h3:(n:Int)=q:=h3;rcases ih with⟨hq,rfl⟩ | ⟨hq,-⟩ | ⟨hq,-⟩ | ⟨hq,-⟩
        ·exact .inr (.inl ⟨⟨by show _≤(((Ay a (n+1)).1:Nat):Int);omega,by show(((Ay a (n+1)).1:Nat):Int)<_;omega⟩,.refl⟩)
        ·unfold InS at hq;omega
        ·unfold InS at hq;omega
        ·omega
       ·have h3:(n:Int)=q:=h3;rcases ih with⟨hq,rfl⟩ | ⟨hq,-⟩ | ⟨hq,-⟩ | ⟨hq,-⟩
        ·exact .inr (.inr (.inl ⟨⟨by show _≤(((Ay b (n+1+stM a)).1:Nat):Int);omega,by show(((Ay b (n+1+stM a)).1:Nat):Int)<_;omega⟩,.refl⟩))
        ·unfold InS at hq;omega
        ·unfold InS at hq;omega
        ·omega
       ·have h3:((Ay a (n+1)).2.1:Int)=q:=h3;rcases ih with⟨hq,-⟩ | ⟨hq,ih⟩ | ⟨hq,-⟩ | ⟨hq,-⟩
        ·omega
        ·rw [←h3]at ih;exact .inr (.inr (.inr ⟨rfl,.inl ((ta i j).1 ih)⟩))
        ·unfold InS at hq;omega
        ·omega
       ·have h3:((Ay b (n+1+stM a)).2.1:Int)=q:=h3;rcases ih with⟨hq,-⟩ | ⟨hq,-⟩ | ⟨hq,ih⟩ | ⟨hq,-⟩
        ·omega
        ·unfold InS at hq;omega
        ·rw [←h3]at ih;exact .inr (.inr (.inr ⟨rfl,.inr ((tb i j).1 ih)⟩))
        ·omega
     | @eat q j c e _ h1 h2 h3 h4 h5 ih=>
       rcases(emem e).1 h1 with h1 | h1 | rfl | rfl | rfl | rfl
       ·have e1:=ea e h1;rcases ih with⟨hq,-⟩ | ⟨hq,ih⟩ | ⟨hq,-⟩ | ⟨hq,-⟩
        ·omega
        ·exact .inr (.inl ⟨⟨by omega,by omega⟩,.eat ih h1 h2 h3 h4 h5⟩)
        ·unfold InS at hq;omega
        ·omega
       ·have e1:=eb e h1;rcases ih with⟨hq,-⟩ | ⟨hq,-⟩ | ⟨hq,ih⟩ | ⟨hq,-⟩
        ·omega
        ·unfold InS at hq;omega
        ·exact .inr (.inr (.inl ⟨⟨by omega,by omega⟩,.eat ih h1 h2 h3 h4 h5⟩))
        ·omega
       all_goals cases h2
    rcases key _ _ hp with⟨hq,-⟩ | ⟨hq,-⟩ | ⟨hq,-⟩ | ⟨-,hm⟩
    ·have hq:((n+1+stM a+stM b:Nat):Int)=(n:Int):=hq;omega
    ·have hq:InS (n+1) (stM a) ((n+1+stM a+stM b:Nat):Int):=hq;unfold InS at hq;omega
    ·have hq:InS (n+1+stM a) (stM b) ((n+1+stM a+stM b:Nat):Int):=hq;unfold InS at hq;omega
    ·exact hm
   ·rintro(ha | hb)
    ·have pa:=((ta i j).2 ha).mono (es':=(Ay (.alt a b) n).2.2) fun e he=>(emem e).2 (.inl he);exact((Pth.one (l:=l) (i:=i) ((emem _).2 (.inr (.inr (.inl rfl))))).trans pa).trans (Pth.one ((emem _).2 (.inr (.inr (.inr (.inr (.inl rfl)))))))
    ·have pb:=((tb i j).2 hb).mono (es':=(Ay (.alt a b) n).2.2) fun e he=>(emem e).2 (.inr (.inl he));exact((Pth.one (l:=l) (i:=i) ((emem _).2 (.inr (.inr (.inr (.inl rfl)))))).trans pb).trans (Pth.one ((emem _).2 (.inr (.inr (.inr (.inr (.inr rfl)))))))
 | .star a,h,n,i,j=>by
   have h1:a.plain=true:=h;have i1:=Bn a h1 (n+1);have ta:=Gh l a h1 (n+1);have ea:=Ch a h1 (n+1);have emem:∀e,e∈(Ay (.star a) n).2.2↔(e∈(Ay a (n+1)).2.2∨e=Bk n (Ay a (n+1)).1∨e=Bk n (n+1+stM a)∨e=Bk (Ay a (n+1)).2.1 (Ay a (n+1)).1∨e=Bk (Ay a (n+1)).2.1 (n+1+stM a)):=fun e=>by
    simp only [Ay,Aa9,AaF,AaO,or_false,or_assoc]
   constructor
   ·intro hp;have key:∀q j,Pth (Ay (.star a) n).2.2 l (n:Int) i q j→
      (q=(n:Int)∧i=j)∨(InS (n+1) (stM a) q∧∃k,GU (Mt l a) i k∧Pth (Ay a (n+1)).2.2 l ((Ay a (n+1)).1:Int) k q j)∨(q=((n+1+stM a:Nat):Int)∧GU (Mt l a) i j):=by
     intro q j hp;have hs:InS (n+1) (stM a) ((Ay a (n+1)).1:Int):=by unfold InS;omega
     induction hp with
     | refl=>exact .inl ⟨rfl,rfl⟩
     | @sil q j e _ h1 h2 h3 ih=>
       rcases(emem e).1 h1 with h1 | rfl | rfl | rfl | rfl
       ·have e1:=ea e h1;rcases ih with⟨hq,-⟩ | ⟨hq,k,hk,ih⟩ | ⟨hq,-⟩
        ·omega
        ·exact .inr (.inl ⟨⟨by omega,by omega⟩,k,hk,.sil ih h1 h2 h3⟩)
        ·omega
       ·have h3:(n:Int)=q:=h3;rcases ih with⟨hq,rfl⟩ | ⟨hq,-⟩ | ⟨hq,-⟩
        ·exact .inr (.inl ⟨hs,i,.refl,.refl⟩)
        ·unfold InS at hq;omega
        ·omega
       ·have h3:(n:Int)=q:=h3;rcases ih with⟨hq,rfl⟩ | ⟨hq,-⟩ | ⟨hq,-⟩
        ·exact .inr (.inr ⟨rfl,.refl⟩)
        ·unfold InS at hq;omega
        ·omega
       ·have h3:((Ay a (n+1)).2.1:Int)=q:=h3;rcases ih with⟨hq,-⟩ | ⟨hq,k,hk,ih⟩ | ⟨hq,-⟩
        ·omega
        ·rw [←h3]at ih;exact .inr (.inl ⟨hs,j,.step hk ((ta k j).1 ih),.refl⟩)
        ·omega
       ·have h3:((Ay a (n+1)).2.1:Int)=q:=h3;rcases ih with⟨hq,-⟩ | ⟨hq,k,hk,ih⟩ | ⟨hq,-⟩
        ·omega
        ·rw [←h3]at ih;exact .inr (.inr ⟨rfl,.step hk ((ta k j).1 ih)⟩)
        ·omega
     | @eat q j c e _ h1 h2 h3 h4 h5 ih=>
       rcases(emem e).1 h1 with h1 | rfl | rfl | rfl | rfl
       ·have e1:=ea e h1;rcases ih with⟨hq,-⟩ | ⟨hq,k,hk,ih⟩ | ⟨hq,-⟩
        ·omega
        ·exact .inr (.inl ⟨⟨by omega,by omega⟩,k,hk,.eat ih h1 h2 h3 h4 h5⟩)
        ·omega
       all_goals cases h2
    rcases key _ _ hp with⟨hq,-⟩ | ⟨hq,-⟩ | ⟨-,hm⟩
    ·have hq:((n+1+stM a:Nat):Int)=(n:Int):=hq;omega
    ·have hq:InS (n+1) (stM a) ((n+1+stM a:Nat):Int):=hq;unfold InS at hq;omega
    ·exact hm
   ·intro hm;have key:∀k,GU (Mt l a) i k→k=i∨Pth (Ay (.star a) n).2.2 l (n:Int) i ((Ay a (n+1)).2.1:Int) k:=by
     intro k hk
     induction hk with
     | refl=>exact .inl rfl
     | @step k j hk hj ih=>
       have pa:=((ta k j).2 hj).mono (es':=(Ay (.star a) n).2.2) fun e he=>(emem e).2 (.inl he);rcases ih with rfl | ih
       ·exact .inr ((Pth.one (l:=l) ((emem _).2 (.inr (.inl rfl)))).trans pa)
       ·exact .inr ((ih.trans (Pth.one ((emem _).2 (.inr (.inr (.inr (.inl rfl))))))).trans pa)
    rcases key j hm with rfl | hp
    ·exact Pth.one ((emem _).2 (.inr (.inr (.inl rfl))))
    ·exact hp.trans (Pth.one ((emem _).2 (.inr (.inr (.inr (.inr rfl))))))
 | .and_ _ _,h,_,_,_=>by cases h
 | .minus _ _,h,_,_,_=>by cases h
theorem W7{a:NfM}{l:List Nat}(hs:a.has a.start=true)(ht:∀e∈a.edges,a.has e.to=true){q:Int}{j:Nat}(h:Pth a.edges l a.start 0 q j):j≤l.length∧Ks a (l.take j) q:=by
 induction h with
 | refl=>exact⟨AaK _,a.start,⟨rfl,hs⟩,.refl _⟩
 | @sil q j e _ h1 h2 h3 ih=>exact⟨ih.1,SW a _ e h1 h2 (ht e h1) (by rw [h3];exact ih.2)⟩
 | @eat q j c e _ h1 h2 h3 h4 h5 ih=>
   have hj:=(Aa1.1 h4).1;refine⟨hj,?_⟩;have e1:l.take (j+1)=l.take j++[c]:=by rw [AaH,h4];rfl
   rw [e1,JL];exact PN ⟨e,h1,h2,h5,by rw [h3];exact ih.2,ht e h1,rfl⟩
theorem RR{a:NfM}{l:List Nat}:∀{j:Nat},j≤l.length→∀q,Ks a (l.take j) q→Pth a.edges l a.start 0 q j
 | 0,_,q,h=>by
   refine FX (Y:=fun q=>Pth a.edges l a.start 0 q 0) (fun q hq=>?_) (fun e h1 h2 h3 h4=>.sil h4 h1 h2 rfl) q h;rw [hq.1];exact .refl
 | j+1,hj,q,h=>by
   have hjl:j<l.length:=hj;have e1:l.take (j+1)=l.take j++[l[j]]:=by rw [AaH,Aa0 hjl];rfl
   rw [e1,JL]at h;refine FX (Y:=fun q=>Pth a.edges l a.start 0 q (j+1)) (fun q hq=>?_) (fun e h1 h2 h3 h4=>.sil h4 h1 h2 rfl) q h;obtain⟨e,h1,h2,h3,h4,h5,rfl⟩:=hq;exact .eat (RR (by omega) e.fr h4) h1 h2 rfl (Aa0 hjl) h3
theorem SO{r:ReM}(hpl:r.plain=true)(hst:stM r≤65536)(l:List Nat):Tz (AA r) l=true↔Mt l r 0 l.length:=by
 have hin:=Bn r hpl 0;have hed:=Ch r hpl 0;have hs:(AA r).has (AA r).start=true:=NfM.has_iff.2 ⟨by show(0:Int)≤(((Ay r 0).1:Nat):Int);omega,by show(((Ay r 0).1:Nat):Int)<((stM r:Nat):Int);omega,by show((stM r:Nat):Int)≤65536;omega⟩;have ht:∀e∈(AA r).edges,(AA r).has e.to=true:=fun e he=>by
  have:=hed e he;exact NfM.has_iff.2 ⟨by omega,by show e.to<((stM r:Nat):Int);omega,by show((stM r:Nat):Int)≤65536;omega⟩
 rw [NX,←Gh l r hpl 0 0 l.length];constructor
 ·intro h;have:=RR (a:=AA r) (l:=l) (Aa7 _) (AA r).fin (by rw [AaZ];exact h);exact this
 ·intro h;have:=(W7 hs ht (l:=l) (q:=(AA r).fin) (j:=l.length) h).2;rw [AaZ]at this;exact this
end Go.Proofs.YtfbghcpdinlmcaaGreatDoor
namespace Go.Proofs.YtfbghcpdinlmcaaGreatDoor
open Go.VC Go.Lib
def orL(xs ys:List Bool)(k:Nat):List Bool:=(List.zipWith (·|| ·) (xs.take k) (ys.take k))++xs.drop k
theorem RK{xs ys:List Bool}(h:ys.length=xs.length){k:Nat}(hk:k≤xs.length):(orL xs ys k).length=xs.length:=by unfold orL;simp [h];omega
theorem Wv{xs ys:List Bool}{k:Nat}{x:Bool}(h:ys.length=xs.length)(hx:xs[k]? =some x):(orL xs ys k)[k]? =some x:=by
 have hl:=(Aa1.1 hx).1;unfold orL;rw [List.getElem?_append_right (by simp [h];omega)];simp [h];rw [show min k xs.length=k by omega,Nat.sub_self,Nat.add_zero];exact hx
theorem UI{xs ys:List Bool}{k:Nat}{x y:Bool}(h:ys.length=xs.length)(hx:xs[k]? =some x)(hy:ys[k]? =some y):(orL xs ys k).set k (x|| y)=orL xs ys (k+1):=by
 have hl:=(Aa1.1 hx).1;have e1:xs.drop k=x::xs.drop (k+1):=by rw [List.drop_eq_getElem_cons hl,(Aa1.1 hx).2]
 have e2:xs.take (k+1)=xs.take k++[x]:=by rw [AaH,hx];rfl
 have e3:ys.take (k+1)=ys.take k++[y]:=by rw [AaH,hy];rfl
 unfold orL;rw [e1,e2,e3,List.zipWith_append (by simp [h])];rw [AaV _ _ (by simp [h];omega)];simp [h];rw [show k - min k xs.length=0 by omega];rfl
theorem Uy{B:Nat→Prop}{H0 H:Aa}{ps:List Pc}{k kb ob rb n:Nat}{xs ys:List Bool}{p:Pc}(st:StB B H0 H ps)(hp:ps[k]? =some (pS A1 4 (some ⟨ob,0,none⟩) n n xs))(hpb:ps[kb]? =some p)(hkk:k≠kb)
  (hb:∀H',p.ok H'→Blk H' rb 4 (ys.map Value.bool)) (hl:ys.length=xs.length) (hm:n≤4194304):
  Al Tryz.prog 147 #[.slice (some ⟨ob,0,none⟩) n n,.slice (some ⟨rb,0,none⟩) n n] H (fun _ H'=>StB B H0 H' (ps.set k (pS A1 4 (some ⟨ob,0,none⟩) n n (orL xs ys xs.length)))):=by
 have hn:=st.len k hp;refine Al.of_vc Tryz.func147 rfl (Tryz.call147 _) ?_;(conv=>whnf);refine A3.mk [4] (fun j:Nat=>[.int .i64 (j:Int)]) (fun j G=>j≤xs.length∧StB B H0 G (ps.set k (pS A1 4 (some ⟨ob,0,none⟩) n n (orL xs ys j)))) (fun j _=>xs.length - j) ?_ ?_
 ·(conv=>whnf);refine⟨0,rfl,AaK _,?_⟩;have e:orL xs ys 0=xs:=rfl;rw [e,Cn hp];exact st
 ·rintro j G junk ⟨hj,stg⟩;have hpg:(ps.set k (pS A1 4 (some ⟨ob,0,none⟩) n n (orL xs ys j)))[k]? =some (pS A1 4 (some ⟨ob,0,none⟩) n n (orL xs ys j)):=GE hp;have hpb':(ps.set k (pS A1 4 (some ⟨ob,0,none⟩) n n (orL xs ys j)))[kb]? =some p:=by rw [AaJ hkk];exact hpb
  refine AB.mk (fun hz=>?_) (fun hz=>?_)<;>simp only [decide_eq_true_eq,decide_eq_false_iff_not]at hz
  ·have hjl:j<xs.length:=by omega
   obtain⟨x,hx⟩:∃x,xs[j]? =some x:=⟨_,Aa0 hjl⟩;obtain⟨y,hy⟩:∃y,ys[j]? =some y:=⟨_,Aa0 (by omega)⟩;have hlj:=RK hl hj;have fin:∀z:Bool,z=(x|| y)→∀K:Aa→Prop,(∀G',StB B H0 G' (ps.set k (pS A1 4 (some ⟨ob,0,none⟩) n n (orL xs ys (j+1))))→K G')→C0 Tryz.prog (Instr.storeAt 4 (.pointer (some ⟨ob,j*A1.size,none⟩)) (.bool z)) G K:=fun z hz K kk=>by
    refine GS (T:=A1) (j:=j) (x:=z) stg k ct4 hpg rfl (Aa8 _) (by omega) rfl (fun _ _=>rfl) fun G' st'=>kk G' ?_;rw [List.set_set,hz,UI hl hx hy]at st';exact st'
   (conv=>whnf);try (refine Am.run ?_)
   refine ixO (j:=j) (x:=x) Cs stg k hpg (Wv hl hx) rfl fun b9 o9 cs9 hO9 hc9 hr9=>?_;obtain rfl:=hr9;refine ld1 ct4 hc9.one trivial ?_;cases x with
   | true=>
     refine ixE (T:=A1) (j:=j) Cs stg k hpg (by omega) rfl (fin true rfl _ fun G' st'=>?_);(conv=>whnf);rw [w64 (x:=(j:Int)+1) (by omega) (by omega)];exact⟨rfl,j+1,rfl,⟨hjl,st'⟩,by omega⟩
   | false=>
     have hbk:=hb G (stg.at_ kb hpb');refine ix Cs (by omega) (by omega) ?_;refine ld1 (v:=.bool y) ct4 (by rw [hbk.cell,Aa4,Aa8,Aa3,Aa6,hy];rfl) trivial ?_;refine ixE (T:=A1) (j:=j) Cs stg k hpg (by omega) rfl (fin y (by simp) _ fun G' st'=>?_);(conv=>whnf);rw [w64 (x:=(j:Int)+1) (by omega) (by omega)];exact⟨rfl,j+1,rfl,⟨hjl,st'⟩,by omega⟩
  ·obtain rfl:j=xs.length:=by omega
   (conv=>whnf);exact stg
def Ny(m:Nat→Option Nat)(L:Nat):List Value:=(List.range (L+1)).map fun i=>match m i with | none=>.slice none 0 0 | some rb=>.slice (some ⟨rb,0,none⟩) (L+1) (L+1)
structure FK(mb:Nat)(nbs:List Nat)(L:Nat)(m:Nat→Nat→Option Nat)(R:Nat→Nat→List Bool)(H:Aa):Prop where
 top:Blk H mb 267 (nbs.map fun nb=>.slice (some ⟨nb,0,none⟩) (L+1) (L+1))
 rows:∀(j nb:Nat),nbs[j]? =some nb→Blk H nb 36 (Ny (m j) L)
 cont:∀(j i rb:Nat),m j i=some rb→Blk H rb 4 ((R j i).map Value.bool)
 nd:nbs.Nodup
 ntop:mb∉nbs
 nrow:∀(j i rb:Nat),m j i=some rb→rb≠mb∧rb∉nbs
 dom:∀(j i rb:Nat),m j i=some rb→j<nbs.length∧i≤L
def Eb(mb:Nat)(nbs:List Nat)(L:Nat)(m:Nat→Nat→Option Nat)(R:Nat→Nat→List Bool):Pc where
 foot k:=k=mb∨k∈nbs∨∃j i,m j i=some k
 ok H:=FK mb nbs L m R H
 fr h hp:=⟨hp.top.agr h (.inl rfl),fun j nb hj=>(hp.rows j nb hj).agr h (.inr (.inl (AaA hj))),fun j i rb hm=>(hp.cont j i rb hm).agr h (.inr (.inr ⟨j,i,hm⟩)),hp.nd,hp.ntop,hp.nrow,hp.dom⟩
theorem Hj{m:Nat→Option Nat}{L i:Nat}(hi:i≤L):(Ny m L)[i]? =some (match m i with | none=>.slice none 0 0 | some rb=>.slice (some ⟨rb,0,none⟩) (L+1) (L+1)):=by
 unfold Ny;rw [Aa6,AaX (by omega)];rfl
theorem Hk(m:Nat→Option Nat)(L:Nat):(Ny m L).length=L+1:=by unfold Ny;simp
def HR(m:Nat→Nat→Option Nat)(j i rb:Nat):Nat→Nat→Option Nat:=fun j' i'=>if j'=j∧i'=i then some rb else m j' i'
theorem U4{m:Nat→Nat→Option Nat}{L j i rb:Nat}(hi:i≤L):(Ny (m j) L).set i (.slice (some ⟨rb,0,none⟩) (L+1) (L+1))=Ny (HR m j i rb j) L:=by
 apply AaQ;intro x;by_cases hx:x≤L
 ·rw [Hj hx];by_cases hxi:x=i
  ·subst hxi;rw [AaN (by rw [Hk];omega)];unfold HR;simp
  ·rw [AaJ (by omega),Hj hx];unfold HR;simp [hxi]
 ·rw [AaC (by rw [Ab0,Hk];omega),AaC (by rw [Hk];omega)]
theorem W4{B:Nat→Prop}{H0 H:Aa}{ps:List Pc}{k ob n:Nat}{xs:List Bool}(st:StB B H0 H ps)(hp:ps[k]? =some (pS A1 4 (some ⟨ob,0,none⟩) n n xs)):Blk H ob 4 (xs.map Value.bool):=by
 have hn:=st.len k hp;obtain⟨cs,⟨h0,h1⟩,h2⟩:=(st.at_ k hp).1;have hcs:∀(xs:List Bool) (cs:List Value),A1.reps none_ H cs xs→cs=xs.map Value.bool:=by
  intro xs
  induction xs with
  | nil=>intro cs h;exact h
  | cons x xs ih=>
    rintro cs ⟨c,r,rfl,hc,hr⟩;rw [show c=[Value.bool x]from hc,ih r hr];rfl
 rcases h1 with⟨h1,h3⟩ | ⟨b,cap',l,h1,h4,h5,h6,h7,h8,h9⟩
 ·cases h1
 ·cases h1;have e:l=cs:=by
   have h8':l.length=xs.length:=by rw [h8];show _*1=_;omega
   rw [←h9,AaG (by rw [h8'];show _≤_*1;omega)]
  rw [←hcs xs cs h2,←e];exact h5
theorem Yc{B:Nat→Prop}{H0 H:Aa}{ps:List Pc}{mb nb j i ob L:Nat}{nbs:List Nat}{m:Nat→Nat→Option Nat}{R:Nat→Nat→List Bool}{xs:List Bool}{K:Aa→Prop}
  (st:StB B H0 H (Eb mb nbs L m R::(ps++[pS A1 4 (some ⟨ob,0,none⟩) (L+1) (L+1) xs]))) (hj:nbs[j]? =some nb) (hi:i≤L) (hR:R j i=xs)
  (k:∀H',StB B H0 H' (Eb mb nbs L (HR m j i ob) R::ps)→K H'):C0 Tryz.prog (Instr.storeAt 36 (.pointer (some ⟨nb,i,none⟩)) (.slice (some ⟨ob,0,none⟩) (L+1) (L+1))) H K:=by
 have hok:FK mb nbs L m R H:=st.at_ 0 rfl;have hlast:(Eb mb nbs L m R::(ps++[pS A1 4 (some ⟨ob,0,none⟩) (L+1) (L+1) xs]))[(Eb mb nbs L m R::ps).length+0]? =some (pS A1 4 (some ⟨ob,0,none⟩) (L+1) (L+1) xs):=lgR (Eb mb nbs L m R::ps) [pS A1 4 (some ⟨ob,0,none⟩) (L+1) (L+1) xs] 0;have hob:=W4 st hlast;have hobf:(pS A1 4 (some ⟨ob,0,none⟩) (L+1) (L+1) xs).foot ob:=.inl ⟨0,L+1,L+1,rfl⟩;have hdis:=st.apart2 (i:=0) (j:=(Eb mb nbs L m R::ps).length+0) rfl hlast (by simp);have hnob:¬(Eb mb nbs L m R).foot ob:=fun h=>hdis ob h hobf;have hnb:nb∈nbs:=AaA hj;have hblk:=hok.rows j nb hj;have hjl:=(Aa1.1 hj).1;refine VC.st1 FM hblk (by rw [Hk];omega) rfl ?_;intro H' hb' ha' hs';have hne:∀b,b≠nb→H'[b]? =H[b]? :=fun b hb=>ha' b hb;have hmb:mb≠nb:=fun e=>hok.ntop (e ▸ hnb);have hobn:ob≠nb:=fun e=>hnob (.inr (.inl (e ▸ hnb)));have hok':FK mb nbs L (HR m j i ob) R H':=by
  refine⟨hok.top.agr ha' hmb,fun j' nb' hj'=>?_,fun j' i' rb hm'=>?_,hok.nd,hok.ntop,fun j' i' rb hm'=>?_,fun j' i' rb hm'=>?_⟩
  ·by_cases hjj:j'=j
   ·subst hjj;rw [hj]at hj';cases hj';rw [U4 hi]at hb';exact hb'
   ·have hnn:nb'≠nb:=fun e=>hjj ((List.getElem?_inj (Aa1.1 hj').1 hok.nd).1 (by rw [hj',hj,e]));have e:HR m j i ob j'=m j':=by funext x;unfold HR;rw [if_neg (fun h=>hjj h.1)]
    rw [e];exact(hok.rows j' nb' hj').agr ha' hnn
  ·unfold HR at hm';split at hm'
   ·rename_i h;cases hm';rw [h.1,h.2,hR];exact hob.agr ha' hobn
   ·exact(hok.cont j' i' rb hm').agr ha' (fun e=>(hok.nrow j' i' rb hm').2 (e ▸ hnb))
  ·unfold HR at hm';split at hm'
   ·cases hm';exact⟨fun e=>hnob (.inl e),fun h=>hnob (.inr (.inl h))⟩
   ·exact hok.nrow j' i' rb hm'
  ·unfold HR at hm';split at hm'
   ·rename_i h;rw [h.1,h.2];exact⟨hjl,hi⟩
   ·exact hok.dom j' i' rb hm'
 refine k H' ?_;have st2:StB B H0 H (Eb mb nbs L m R::ps):=st.subl (List.Sublist.cons_cons _ (List.sublist_append_left _ _));have hr0:=st.rng _ AaD;refine⟨fun b hb=>(hne b fun e=>(hr0 nb (.inr (.inl hnb))).1 (e ▸ hb)).trans (st.old b hb),st.lt0,by have:=st.size;omega,fun p hp=>?_,fun p hp b hb=>?_,?_⟩
 ·rcases AaF.1 hp with rfl | hp
  ·exact hok'
  ·refine p.fr (H:=H) (fun b hb=>hne b fun e=>?_) (st2.oks p (AaB _ hp));exact(AaL.1 st2.dis).1 p hp nb (.inr (.inl hnb)) (e ▸ hb)
 ·have hsz:∀b,b<H.size→b<H'.size:=fun b hb=>by omega
  rcases AaF.1 hp with rfl | hp
  ·rcases hb with hb | hb | ⟨j',i',hb⟩
   ·exact⟨(hr0 b (.inl hb)).1,hsz _ (hr0 b (.inl hb)).2⟩
   ·exact⟨(hr0 b (.inr (.inl hb))).1,hsz _ (hr0 b (.inr (.inl hb))).2⟩
   ·unfold HR at hb;split at hb
    ·cases hb;have:=st.in_ _ hlast hobf;exact⟨this.1,hsz _ this.2⟩
    ·exact⟨(hr0 b (.inr (.inr ⟨j',i',hb⟩))).1,hsz _ (hr0 b (.inr (.inr ⟨j',i',hb⟩))).2⟩
  ·have:=st2.rng p (AaB _ hp) b hb;exact⟨this.1,hsz _ this.2⟩
 ·refine AaL.2 ⟨fun p hp b hb hb2=>?_,(AaL.1 st2.dis).2⟩;have hd0:=(AaL.1 st2.dis).1 p hp;rcases hb with hb | hb | ⟨j',i',hb⟩
  ·exact hd0 b (.inl hb) hb2
  ·exact hd0 b (.inr (.inl hb)) hb2
  ·unfold HR at hb;split at hb
   ·cases hb;obtain⟨x,hx⟩:=List.getElem?_of_mem hp;have hx':(Eb mb nbs L m R::(ps++[pS A1 4 (some ⟨ob,0,none⟩) (L+1) (L+1) xs]))[x+1]? =some p:=by
     show(ps++[_])[x]? =some p;exact lgL hx
    have hxl:=(Aa1.1 hx).1;exact st.apart2 (i:=x+1) (j:=(Eb mb nbs L m R::ps).length+0) hx' hlast (by simp only [AaR];omega) ob hb2 hobf
   ·exact hd0 b (.inr (.inr ⟨j',i',hb⟩)) hb2
theorem Ba.inj{ns:List RnM}:∀{r r':ReM} {i:Nat},Ba ns r i→Ba ns r' i→r=r':=by
 have one:∀{i:Nat} {d d':RnM},ns[i]? =some d→ns[i]? =some d'→d=d':=fun h h'=>Option.some.inj (h.symm.trans h');intro r
 induction r with
 | eps=>
   rintro r' i ⟨d,h1,h2⟩ h;cases r' with
   | eps=>rfl
   | cls s=>obtain⟨d',k1,k2,-⟩:=h;rw [one h1 k1,k2]at h2;cases h2
   | star a=>obtain⟨d',j,k1,k2,-⟩:=h;rw [one h1 k1,k2]at h2;cases h2
   | _=>obtain⟨d',j,k,k1,k2,-⟩:=h;rw [one h1 k1,k2]at h2;cases h2
 | cls s=>
   rintro r' i ⟨d,h1,h2,h3⟩ h;cases r' with
   | eps=>obtain⟨d',k1,k2⟩:=h;rw [one h1 k1,k2]at h2;cases h2
   | cls s'=>obtain⟨d',k1,k2,k3⟩:=h;rw [←h3,←k3,one h1 k1]
   | star a=>obtain⟨d',j,k1,k2,-⟩:=h;rw [one h1 k1,k2]at h2;cases h2
   | _=>obtain⟨d',j,k,k1,k2,-⟩:=h;rw [one h1 k1,k2]at h2;cases h2
 | star a ih=>
   rintro r' i ⟨d,j,h1,h2,h3,h4⟩ h;cases r' with
   | eps=>obtain⟨d',k1,k2⟩:=h;rw [one h1 k1,k2]at h2;cases h2
   | cls s=>obtain⟨d',k1,k2,-⟩:=h;rw [one h1 k1,k2]at h2;cases h2
   | star a'=>
     obtain⟨d',j',k1,k2,k3,k4⟩:=h;have e:=one h1 k1;subst e;have:j=j':=by omega
     subst this;rw [ih h4 k4]
   | _=>obtain⟨d',j',k',k1,k2,-⟩:=h;rw [one h1 k1,k2]at h2;cases h2
 | _ a b iha ihb=>
   rintro r' i ⟨d,j,k,h1,h2,h3,h4,h5,h6⟩ h;cases r' with
   | eps=>obtain⟨d',k1,k2⟩:=h;rw [one h1 k1,k2]at h2;cases h2
   | cls s=>obtain⟨d',k1,k2,-⟩:=h;rw [one h1 k1,k2]at h2;cases h2
   | star a'=>obtain⟨d',j',k1,k2,-⟩:=h;rw [one h1 k1,k2]at h2;cases h2
   | _ a' b'=>
     obtain⟨d',j',k',k1,k2,k3,k4,k5,k6⟩:=h;have e:=one h1 k1;subst e
     first
      | (have e1:j=j':=by omega
         have e2:k=k':=by omega
         subst e1 e2;rw [iha h5 k5,ihb h6 k6]
         done)
      | (rw [k2]at h2;cases h2)
theorem Fz{l:List Nat}:∀{r:ReM} {i j:Nat},Mt l r i j→i≤j∧(i≤l.length→j≤l.length)
 | .eps,i,j,h=>by rw [show i=j from h];exact⟨Aa7 _,fun h=>h⟩
 | .cls s,i,j,⟨c,h1,_,h3⟩=>by have:=(Aa1.1 h1).1;omega
 | .cat a b,i,j,⟨k,h1,h2⟩=>by have:=Fz h1;have:=Fz h2;omega
 | .alt a b,i,j,h=>by
   rcases h with h | h
   ·exact Fz h
   ·exact Fz h
 | .star a,i,j,h=>by
   replace h:GU (Mt l a) i j:=h
   induction h with
   | refl=>exact⟨Aa7 _,fun h=>h⟩
   | step _ h2 ih=>have:=Fz h2;omega
 | .and_ a b,i,j,h=>Fz h.1
 | .minus a b,i,j,h=>Fz h.1
noncomputable def AP(L:Nat)(P:Nat→Prop):List Bool:=(List.range (L+1)).map fun x=> @decide (P x) (Classical.propDecidable _)
theorem A7(L:Nat)(P:Nat→Prop):(AP L P).length=L+1:=by unfold AP;simp
theorem Fs{L x:Nat}(P:Nat→Prop)(h:x≤L):(AP L P)[x]? =some (@decide (P x) (Classical.propDecidable _)):=by
 unfold AP;rw [Aa6,AaX (by omega)];rfl
theorem Jn{L:Nat}{xs:List Bool}{P:Nat→Prop}(hl:xs.length=L+1)(h:∀x b,x≤L→xs[x]? =some b→(b=true↔P x)):xs=AP L P:=by
 apply AaQ;intro x;by_cases hx:x≤L
 ·obtain⟨b,hb⟩:∃b,xs[x]? =some b:=⟨_,Aa0 (by omega)⟩;rw [Fs P hx,hb];have:=h x b hx hb;by_cases hp:P x
  ·rw [this.2 hp,@decide_eq_true (P x) (Classical.propDecidable _) hp]
  ·rw [@decide_eq_false (P x) (Classical.propDecidable _) hp];cases b with
   | true=>exact absurd (this.1 rfl) hp
   | false=>rfl
 ·rw [AaC (by omega),AaC (by rw [A7];omega)]
theorem FC{L x:Nat}{P:Nat→Prop}{b:Bool}(hx:x≤L)(h:(AP L P)[x]? =some b):b=true↔P x:=by
 rw [Fs P hx]at h;cases h;exact @decide_eq_true_iff (P x) (Classical.propDecidable _)
theorem Bw{L:Nat}{P Q:Nat→Prop}(h:∀x,x≤L→(P x↔Q x)):AP L P=AP L Q:=Jn (A7 L P) fun x b hx hb=>(FC hx hb).trans (h x hx)
theorem Ta(L:Nat):Aa2 (L+1) false=AP L fun _=>False:=Jn (by simp) fun x b hx hb=>by
 rw [AaU,if_pos (by omega)]at hb;cases hb;simp
theorem Jo{L k:Nat}{P:Nat→Prop}{b:Bool}(hk:k≤L):(AP L P).set k b=AP L fun x=>if x=k then b=true else P x:=Jn (by rw [Ab0,A7]) fun x c hx hc=>by
 by_cases e:x=k
 ·subst e;rw [AaN (by rw [A7];omega)]at hc;cases hc;rw [if_pos rfl]
 ·rw [AaJ (fun h=>e h.symm)]at hc;rw [if_neg e];exact FC hx hc
theorem RV{L:Nat}(P Q:Nat→Prop):orL (AP L P) (AP L Q) (L+1)=AP L fun x=>P x∨Q x:=Jn (by rw [RK (by rw [A7,A7]) (by rw [A7];omega),A7]) fun x b hx hb=>by
 unfold orL at hb;rw [AaG (by rw [A7];omega),AaG (by rw [A7];omega),List.drop_eq_nil_of_le (by rw [A7];omega),Ab1,List.getElem?_zipWith,Fs P hx,Fs Q hx]at hb;simp only [Option.some.injEq]at hb;subst hb;rw [Ab2,@decide_eq_true_iff (P x) (Classical.propDecidable _),@decide_eq_true_iff (Q x) (Classical.propDecidable _)]
noncomputable def C3(ns:List RnM)(l:List Nat)(j i:Nat):List Bool:=AP l.length fun x=>∃r,Ba ns r j∧Mt l r i x
theorem Ht{ns:List RnM}{l:List Nat}{r:ReM}{j:Nat}(h:Ba ns r j)(i:Nat):C3 ns l j i=AP l.length fun x=>Mt l r i x:=
 Bw fun x _=>⟨fun⟨r',h1,h2⟩=>by rw [h.inj h1];exact h2,fun h2=>⟨r,h,h2⟩⟩
def On(l:List Nat)(a b:ReM)(i k x:Nat):Prop:=∃j,j<k∧Mt l a i j∧Mt l b j x
theorem Sw(l:List Nat)(a b:ReM)(i:Nat):(AP l.length fun _=>False)=AP l.length (On l a b i i):=Bw fun x _=>⟨fun h=>h.elim,fun⟨j,h1,h2,_⟩=>by have:=(Fz h2).1;omega⟩
theorem Su{l:List Nat}{a b:ReM}{i k:Nat}(h:¬Mt l a i k):AP l.length (On l a b i k)=AP l.length (On l a b i (k+1)):=Bw fun x _=>
 ⟨fun⟨j,h1,h2,h3⟩=>⟨j,by omega,h2,h3⟩,fun⟨j,h1,h2,h3⟩=>⟨j,by
  have:j≠k:=fun e=>h (e ▸ h2);omega,h2,h3⟩⟩
theorem Sv{l:List Nat}{a b:ReM}{i k:Nat}(h:Mt l a i k):orL (AP l.length (On l a b i k)) (AP l.length fun x=>Mt l b k x) (l.length+1)=AP l.length (On l a b i (k+1)):=by
 rw [RV];refine Bw fun x _=>⟨fun hx=>?_,fun⟨j,h1,h2,h3⟩=>?_⟩
 ·rcases hx with⟨j,h1,h2,h3⟩ | h3
  ·exact⟨j,by omega,h2,h3⟩
  ·exact⟨k,by omega,h,h3⟩
 ·by_cases e:j=k
  ·exact .inr (e ▸ h3)
  ·exact .inl ⟨j,by omega,h2,h3⟩
theorem TL{l:List Nat}{a b:ReM}{i:Nat}(hi:i≤l.length):AP l.length (On l a b i (l.length+1))=AP l.length fun x=>Mt l (.cat a b) i x:=
 Bw fun x _=>⟨fun⟨j,_,h2,h3⟩=>⟨j,h2,h3⟩,fun⟨j,h2,h3⟩=>⟨j,by have:=(Fz h2).2 hi;omega,h2,h3⟩⟩
def GN(l:List Nat)(a:ReM)(i k x:Nat):Prop:=x=i∨∃j,j<k∧GU (Mt l a) i j∧Mt l a j x
theorem QH{l:List Nat}{a:ReM}{i:Nat}(hi:i≤l.length):(AP l.length fun _=>False).set i true=AP l.length (GN l a i i):=by
 rw [Jo hi];refine Bw fun x _=>⟨fun h=>?_,fun h=>?_⟩
 ·split at h
  ·rename_i e;exact .inl e
  ·exact h.elim
 ·rcases h with h | ⟨j,h1,h2,_⟩
  ·rw [if_pos h]
  ·have:=(Fz (r:=.star a) (l:=l) (i:=i) (j:=j) h2).1;omega
theorem LQ{l:List Nat}{a:ReM}{i k:Nat}:GN l a i k k↔GU (Mt l a) i k:=by
 constructor
 ·rintro(h | ⟨j,h1,h2,h3⟩)
  ·rw [h];exact .refl
  ·exact .step h2 h3
 ·intro h
  induction h with
  | refl=>exact .inl rfl
  | @step j k h1 h2 ih=>
    have:=(Fz h2).1;by_cases e:j=k
    ·exact e ▸ ih
    ·exact .inr ⟨j,by omega,h1,h2⟩
theorem QF{l:List Nat}{a:ReM}{i k:Nat}(h:¬GN l a i k k):AP l.length (GN l a i k)=AP l.length (GN l a i (k+1)):=Bw fun x _=>by
 rw [LQ]at h;constructor
 ·rintro(h1 | ⟨j,h1,h2,h3⟩)
  ·exact .inl h1
  ·exact .inr ⟨j,by omega,h2,h3⟩
 ·rintro(h1 | ⟨j,h1,h2,h3⟩)
  ·exact .inl h1
  ·have:j≠k:=fun e=>h (e ▸ h2);exact .inr ⟨j,by omega,h2,h3⟩
theorem QG{l:List Nat}{a:ReM}{i k:Nat}(h:GN l a i k k):orL (AP l.length (GN l a i k)) (AP l.length fun x=>Mt l a k x) (l.length+1)=AP l.length (GN l a i (k+1)):=by
 rw [RV];rw [LQ]at h;refine Bw fun x _=>⟨fun hx=>?_,fun hx=>?_⟩
 ·rcases hx with(h1 | ⟨j,h1,h2,h3⟩) | h3
  ·exact .inl h1
  ·exact .inr ⟨j,by omega,h2,h3⟩
  ·exact .inr ⟨k,by omega,h,h3⟩
 ·rcases hx with h1 | ⟨j,h1,h2,h3⟩
  ·exact .inl (.inl h1)
  ·by_cases e:j=k
   ·exact .inr (e ▸ h3)
   ·exact .inl (.inr ⟨j,by omega,h2,h3⟩)
theorem Ti{l:List Nat}{a:ReM}{i:Nat}(hi:i≤l.length):AP l.length (GN l a i (l.length+1))=AP l.length fun x=>Mt l (.star a) i x:=
 Bw fun x _=>⟨fun h=>by
  rcases h with h | ⟨j,_,h2,h3⟩
  ·rw [h];exact .refl
  ·exact .step h2 h3,fun h=>by
  have h':GU (Mt l a) i x:=h;cases h' with
  | refl=>exact .inl rfl
  | @step j _ h1 h2=>exact .inr ⟨j,by have:=(Fz (r:=.star a) (l:=l) (i:=i) (j:=j) h1).2 hi;omega,h1,h2⟩⟩
def FV(f:Bool→Bool→Bool)(xs ys:List Bool)(k x:Nat):Prop:=x<k∧∃a b,xs[x]? =some a∧ys[x]? =some b∧f a b=true
theorem Ij{L k:Nat}{f:Bool→Bool→Bool}{xs ys:List Bool}{a b:Bool}(hk:k≤L)(ha:xs[k]? =some a)(hb:ys[k]? =some b):(AP L (FV f xs ys k)).set k (f a b)=AP L (FV f xs ys (k+1)):=by
 rw [Jo hk];refine Bw fun x _=>?_;by_cases e:x=k
 ·subst e;rw [if_pos rfl];exact⟨fun h=>⟨by omega,a,b,ha,hb,h⟩,fun⟨_,a',b',h1,h2,h3⟩=>by rw [ha]at h1;rw [hb]at h2;cases h1;cases h2;exact h3⟩
 ·rw [if_neg e];exact⟨fun⟨h1,h2⟩=>⟨by omega,h2⟩,fun⟨h1,h2⟩=>⟨by omega,h2⟩⟩
theorem Ik{l:List Nat}{a b:ReM}{i:Nat}(f:Bool→Bool→Bool)(hf:f false false=false):(AP l.length fun _=>False)=AP l.length (FV f (AP l.length fun x=>Mt l a i x) (AP l.length fun x=>Mt l b i x) i):=
 Bw fun x hx=>⟨fun h=>h.elim,fun⟨h1,p,q,h2,h3,h4⟩=>by
  have e1:p=false:=by
   cases p with
   | false=>rfl
   | true=>have:=(Fz ((FC hx h2).1 rfl)).1;omega
  have e2:q=false:=by
   cases q with
   | false=>rfl
   | true=>have:=(Fz ((FC hx h3).1 rfl)).1;omega
  rw [e1,e2,hf]at h4;cases h4⟩
theorem Jz{l:List Nat}{a b r:ReM}{i:Nat}(f:Bool→Bool→Bool)(hr:∀x p q,(p=true↔Mt l a i x)→(q=true↔Mt l b i x)→(f p q=true↔Mt l r i x)):AP l.length (FV f (AP l.length fun x=>Mt l a i x) (AP l.length fun x=>Mt l b i x) (l.length+1))=AP l.length fun x=>Mt l r i x:=
 Bw fun x hx=>⟨fun⟨_,p,q,h2,h3,h4⟩=>(hr x p q (FC hx h2) (FC hx h3)).1 h4,fun h=>by
  refine⟨by omega,_,_,Fs _ hx,Fs _ hx,(hr x _ _ ?_ ?_).2 h⟩
  ·exact @decide_eq_true_iff _ (Classical.propDecidable _)
  ·exact @decide_eq_true_iff _ (Classical.propDecidable _)⟩
theorem TE{l:List Nat}{a b:ReM}{i:Nat}:∀x p q,(p=true↔Mt l a i x)→(q=true↔Mt l b i x)→((p|| q)=true↔Mt l (.alt a b) i x):=fun x p q hp hq=>by
 rw [Ab2,hp,hq];exact Iff.rfl
theorem TF{l:List Nat}{a b:ReM}{i:Nat}:∀x p q,(p=true↔Mt l a i x)→(q=true↔Mt l b i x)→((p&&q)=true↔Mt l (.and_ a b) i x):=fun x p q hp hq=>by
 rw [AaE,hp,hq];exact Iff.rfl
theorem PJ{l:List Nat}{a b:ReM}{i:Nat}:∀x p q,(p=true↔Mt l a i x)→(q=true↔Mt l b i x)→((p&& !q)=true↔Mt l (.minus a b) i x):=fun x p q hp hq=>by
 rw [AaE,hp,Bool.not_eq_true',←Bool.not_eq_true,hq];exact Iff.rfl
theorem ZH{l:List Nat}{i:Nat}(hi:i≤l.length):(AP l.length fun _=>False).set i true=AP l.length fun x=>Mt l .eps i x:=by
 rw [Jo hi];refine Bw fun x _=>?_;show(if x=i then true=true else False)↔i=x;split
 ·rename_i e;simp [e]
 ·rename_i e;simp;omega
theorem Ra{l:List Nat}{s:BitVec 256}{i:Nat}(h:∀c,l[i]? =some c→s.getLsbD c=false):(AP l.length fun _=>False)=AP l.length fun x=>Mt l (.cls s) i x:=
 Bw fun x _=>⟨fun h=>h.elim,fun⟨c,h1,h2,_⟩=>by rw [h c h1]at h2;cases h2⟩
theorem TM{l:List Nat}{s:BitVec 256}{i c:Nat}(h1:l[i]? =some c)(h:s.getLsbD c=true):(AP l.length fun _=>False).set (i+1) true=AP l.length fun x=>Mt l (.cls s) i x:=by
 have hl:=(Aa1.1 h1).1;rw [Jo (by omega)];refine Bw fun x _=>?_;split
 ·rename_i e;exact⟨fun _=>⟨c,h1,h,e⟩,fun _=>rfl⟩
 ·rename_i e;exact⟨fun h=>h.elim,fun⟨_,_,_,h3⟩=>absurd h3 e⟩
def tmL(na:Option Addr)(n nc:Nat)(Av:Int)(s:ByteArray)(m:Value):List Value:=[.slice na n nc,.int .i64 Av,.string s,m]
theorem tm_z:(Tryz.prog.info? 266).bind (·.zero)=some (.agg (tmL none 0 0 0 (⟨#[]⟩) (.slice none 0 0)).toArray):=by kernel_rfl
abbrev Kt(nb L:Nat):Value:=.slice (some ⟨nb,0,none⟩) (L+1) (L+1)
structure Mj(mb:Nat)(nbs:List Nat)(L N:Nat)(H:Aa):Prop where
 top:Blk H mb 267 (nbs.map (Kt · L)++Aa2 (N - nbs.length) (.slice none 0 0))
 rows:∀nb∈nbs,Blk H nb 36 (Aa2 (L+1) (.slice none 0 0))
 nd:nbs.Nodup
 ntop:mb∉nbs
def pMk(mb:Nat)(nbs:List Nat)(L N:Nat):Pc where
 foot k:=k=mb∨k∈nbs
 ok H:=Mj mb nbs L N H
 fr h hp:=⟨hp.top.agr h (.inl rfl),fun nb hn=>(hp.rows nb hn).agr h (.inr hn),hp.nd,hp.ntop⟩
theorem XG{nbs:List Nat}{L N nb:Nat}(h:nbs.length<N):(nbs.map (Kt · L)++Aa2 (N - nbs.length) (Value.slice none 0 0)).set nbs.length (Kt nb L)=(nbs++[nb]).map (Kt · L)++Aa2 (N - (nbs++[nb]).length) (.slice none 0 0):=by
 rw [AaV _ _ (by simp)];obtain⟨d,hd⟩:∃d,N - nbs.length=d+1:=⟨N - nbs.length - 1,by omega⟩;rw [hd];have e:N - (nbs++[nb]).length=d:=by simp;omega
 rw [e];simp [List.replicate_succ]
theorem SM(L:Nat):Ny (fun _=>none) L=Aa2 (L+1) (Value.slice none 0 0):=by
 apply AaQ;intro x;by_cases hx:x≤L
 ·rw [Hj hx,AaU,if_pos (by omega)]
 ·rw [AaC (by rw [Hk];omega),AaC (by simp;omega)]
theorem Mj.done{mb L N:Nat}{nbs:List Nat}{H:Aa}{R:Nat→Nat→List Bool}(h:Mj mb nbs L N H)(hl:nbs.length=N):FK mb nbs L (fun _ _=>none) R H:=by
 refine⟨?_,fun j nb hj=>?_,fun j i rb hm=>(by cases hm),h.nd,h.ntop,fun j i rb hm=>(by cases hm),fun j i rb hm=>(by cases hm)⟩
 ·have:=h.top;rw [hl,Nat.sub_self,List.replicate_zero,Ab1]at this;exact this
 ·show Blk H nb _ (Ny (fun _=>none) L);rw [SM];exact h.rows nb (AaA hj)
theorem StB.mkRow{B:Nat→Prop}{H0 H H1 H2:Aa}{ps:List Pc}{k mb nb L N:Nat}{nbs:List Nat}(st:StB B H0 H ps)(hp:ps[k]? =some (pMk mb nbs L N))(hn:nbs.length<N)(hnb:nb=H.size)(ha1:Agr (fun b=>b<nb) H H1)
  (hb1:Blk H1 nb 36 (Aa2 (L+1) (.slice none 0 0))) (hb2:Blk H2 mb 267 ((nbs.map (Kt · L)++Aa2 (N - nbs.length) (Value.slice none 0 0)).set nbs.length (Kt nb L))) (ha2:∀b,b≠mb→H2[b]? =H1[b]?):StB B H0 H2 (ps.set k (pMk mb (nbs++[nb]) L N)):=by
 have hok:Mj mb nbs L N H:=st.at_ k hp;have hmb:=(st.in_ k hp (k:=mb) (.inl rfl)).2;have hin:∀b∈nbs,b<H.size:=fun b hb=>(st.in_ k hp (k:=b) (.inr hb)).2;have hmn:mb≠nb:=by omega
 have hb3:Blk H2 nb 36 (Aa2 (L+1) (.slice none 0 0)):=hb1.agr (S:=fun b=>b≠mb) (fun b hb=>ha2 b hb) (fun e=>hmn e.symm);have hsz:H.size≤H2.size:=by have:=hb3.lt;omega
 refine st.upd k hp (fun b hb=>(ha2 b fun e=>hb.2 (.inl e)).trans (ha1 b (by have:=hb.1;omega))) _ ?_ (fun b hb=>?_) (fun b hb=>?_) hsz
 ·rw [XG hn]at hb2;refine⟨hb2,fun b hb=>?_,?_,?_⟩
  ·rcases Aa9.1 hb with hb | hb
   ·have h1:b≠mb:=fun e=>hok.ntop (e ▸ hb);have h2:=hin b hb;exact((hok.rows b hb).agr ha1 (by omega)).agr (S:=fun b=>b≠mb) (fun b hb=>ha2 b hb) h1
   ·rw [Aa5]at hb;subst hb;exact hb3
  ·refine List.nodup_append.2 ⟨hok.nd,List.nodup_cons.2 ⟨by simp,Ab3⟩,fun a ha b hb=>?_⟩;rw [Aa5]at hb;subst hb;have:=hin a ha;omega
  ·intro h;rcases Aa9.1 h with h | h
   ·exact hok.ntop h
   ·rw [Aa5]at h;omega
 ·rcases hb with hb | hb
  ·exact .inl (.inl hb)
  ·rcases Aa9.1 hb with hb | hb
   ·exact .inl (.inr hb)
   ·rw [Aa5]at hb;right;omega
 ·rcases hb with hb | hb
  ·subst hb;exact hb2.lt
  ·rcases Aa9.1 hb with hb | hb
   ·have:=hin b hb;omega
   ·rw [Aa5]at hb;subst hb;exact hb3.lt
theorem XM{S:Nat→Prop}{H:Aa}{v:Value}{ns:List RnM}{Av:Int}{s:ByteArray}(R:Nat→Nat→List Bool)(hS:∀k,S k→k<H.size)(hv:ReV S H v ns Av)(hs:s.size≤4194303):
  Al Tryz.prog 101 #[v,.string s] H fun r H'=>∃tb mb nbs na nc,r= .pointer (some ⟨tb,0,none⟩)∧SlD tRn S H na nc ns∧nbs.length=ns.length∧
   St H H' [Eb mb nbs s.size (fun _ _=>none) R,pB 266 tb (tmL na ns.length nc Av s (.slice (some ⟨mb,0,none⟩) ns.length ns.length))]:=by
 have hlen:ns.length≤4194304:=hv.1;refine Al.of_vc Tryz.func101 rfl (Tryz.call101 _) (Q2 hv fun na nc hv' hD=>?_);intro b0 H1 hq1 hs1 hb1 ha1;have st1:=(St.nil H).box hq1 hs1 hb1 ha1;refine ldN (cs:=reL (.slice na ns.length nc) Av) Dr (hb1.cells fun j v hv=>by rw [Aa3];exact hv) trivial ?_;refine A6 Tryz.underlying266 rfl _ tm_z (tmL na ns.length nc Av s (.slice none 0 0)) rfl (B0 (tmL na ns.length nc Av s (.slice none 0 0)) rfl ?_);intro tb H2 hq2 hs2 hb2 ha2;have st2:=st1.box hq2 hs2 hb2 ha2;refine VC.fa BD ?_;refine ld1 (v:=.slice na ns.length nc) Cb (by rw [(st2.blk 0 rfl).cell];rfl) trivial ?_;refine Eo Pr rfl (by omega) (by omega) (by omega) (by omega) ?_;intro mb H3 hq3 hs3 hb3 ha3;rw [Aa4]at hb3 ⊢;have st3:=st2.add (H':=H3) (fun k hk=>ha3 k (by rw [hq3];exact hk)) (pMk mb [] s.size ns.length) ⟨hb3,fun _ h=>(by cases h),Ab3,(fun h=>by cases h)⟩ fun k hk=>by
  rcases hk with hk | hk
  ·rw [hk];omega
  ·cases hk
 replace st3:St H H3 [pB 56 b0 (reL (.slice na ns.length nc) Av),pB 266 tb (tmL na ns.length nc Av s (.slice none 0 0)),pMk mb [] s.size ns.length]:=st3;refine VC.fa IZ ?_;refine AT st3 1 Ox rfl (by show _<4;decide) rfl fun H4 st4=>?_;replace st4:St H H4 [pB 56 b0 (reL (.slice na ns.length nc) Av),pB 266 tb (tmL na ns.length nc Av s (.slice (some ⟨mb,0,none⟩) ns.length ns.length)),pMk mb [] s.size ns.length]:=st4;clear st1 st2 st3;(conv=>whnf);refine A3.mk [6] (fun k:Nat=>[.int .i64 (k:Int)]) (fun k G=>k≤ns.length∧∃nbs:List Nat,nbs.length=k∧St H G [pB 56 b0 (reL (.slice na ns.length nc) Av),pB 266 tb (tmL na ns.length nc Av s (.slice (some ⟨mb,0,none⟩) ns.length ns.length)),pMk mb nbs s.size ns.length]) (fun k _=>ns.length - k) ?_ ?_
 ·(conv=>whnf);exact⟨0,rfl,AaK _,[],rfl,st4⟩
 ·rintro k G junk ⟨hk,nbs,hnl,sg⟩;refine VC.fa BD ?_;refine ld1 (v:=.slice na ns.length nc) Cb (by rw [(sg.blk 0 rfl).cell];rfl) trivial ?_;refine AB.mk (fun hz=>?_) (fun hz=>?_)<;>simp only [decide_eq_true_eq,decide_eq_false_iff_not]at hz
  ·have hkl:k<ns.length:=by omega
   refine Ar.heldZ (Old G) [10] (sq [0,1,2,3,4,5,6,7] (.f 8 (sq [9] (.f 10 .e)))) rfl (by kernel_rfl) (VC.fa IZ ?_);refine ld1 (v:=.slice (some ⟨mb,0,none⟩) ns.length ns.length) Ox (by rw [(sg.blk 1 rfl).cell];rfl) (sg.blk 1 rfl).lt ?_;(conv=>whnf);rw [w64 (x:=(s.size:Int)+1) (by omega) (by omega)];refine Eo RY rfl (by omega) (by omega) (by omega) (by omega) ?_;intro nb G1 hq hs1' hb1' ha1';rw [show((s.size:Int)+1).toNat=s.size+1 by omega]at hb1' ⊢;refine⟨fun k hk=>ha1' k (by rw [hq];exact hk),?_⟩;refine VC.ix Pr (by omega) (by omega) ?_;have hok:Mj mb nbs s.size ns.length G:=sg.at_ 2 rfl;have hmb:=(sg.in_ 2 rfl (k:=mb) (.inl rfl)).2;(conv=>whnf);rw [show 0+(k:Int).toNat*1=k by omega];refine VC.st1 (o:=k) (v:=Kt nb s.size) Rf (hok.top.agr ha1' (by rw [hq];exact hmb)) (by simp;omega) rfl ?_;intro G2 hb2' ha2' hs2';have sg2:=StB.mkRow sg (k:=2) (H2:=G2) rfl (by omega) hq ha1' hb1' (Eq.mp (by rw [hnl]) hb2') (fun b hb=>ha2' b hb);(conv=>whnf);rw [w64 (x:=(k:Int)+1) (by omega) (by omega)];exact⟨rfl,k+1,rfl,⟨by omega,nbs++[nb],by simp [hnl],sg2⟩,by omega⟩
  ·obtain rfl:k=ns.length:=by omega
   (conv=>whnf);refine⟨tb,mb,nbs,na,nc,rfl,hD,hnl,?_⟩;have sg2:=sg.say 2 rfl (Eb mb nbs s.size (fun _ _=>none) R) (Mj.done (sg.at_ 2 rfl) hnl) (fun b hb=>by
    rcases hb with hb | hb | ⟨j,i,hb⟩
    ·exact .inl hb
    ·exact .inr hb
    ·cases hb)
   exact sg2.pick [2,1] (by decide)
theorem OV{S:Nat→Prop}{H:Aa}{v:Value}{ns:List RnM}{Av:Int}(hS:∀k,S k→k<H.size)(hv:ReV S H v ns Av):B8 Tryz.prog 35 #[v] H (.bool (ns.all fun d=> !(d.op==5|| d.op==6))):=by
 have hlen:ns.length≤4194304:=hv.1;refine Al.of_vc Tryz.func35 rfl (Tryz.call35 _) (Q2 hv fun na nc hv' hD=>?_);intro b0 H1 hq1 hs1 hb1 ha1;have st1:=(St.nil H).box hq1 hs1 hb1 ha1;(conv=>whnf);refine A3.mk [3] (fun k:Nat=>[.int .i64 (k:Int)]) (fun k G=>k≤ns.length∧G=H1∧((ns.take k).all fun d=> !(d.op==5|| d.op==6))=true) (fun k _=>ns.length - k) ?_ ?_
 ·(conv=>whnf);exact⟨0,rfl,AaK _,rfl,rfl⟩
 ·rintro k G junk ⟨hk,rfl,hall⟩;refine VC.fa BD ?_;refine ld1 (v:=.slice na ns.length nc) Cb (by rw [(st1.blk 0 rfl).cell];rfl) trivial ?_;refine AB.mk (fun hz=>?_) (fun hz=>?_)<;>simp only [decide_eq_true_eq,decide_eq_false_iff_not]at hz
  ·have hkl:k<ns.length:=by omega
   obtain⟨d,hd⟩:∃d,ns[k]? =some d:=⟨_,Aa0 hkl⟩;have hD':=hD.frame (st1.old.mono hS);have hnext:(ns.take (k+1)).all (fun d=> !(d.op==5|| d.op==6))= !(d.op==5|| d.op==6):=by
    rw [AaH,hd,List.all_append,hall,Bool.true_and];simp
   have hmem:d∈ns:=AaA hd;have hno:(d.op==5|| d.op==6)=true→ns.all (fun d=> !(d.op==5|| d.op==6))=false:=fun h=>by
    rw [AaY];exact⟨d,hmem,by simp [h]⟩
   (conv=>whnf);try (refine Am.run ?_)
   refine VC.fa BD ?_;refine ld1 (v:=.slice na ns.length nc) Cb (by rw [(st1.blk 0 rfl).cell];rfl) trivial ?_;refine ixr (i:=k) C6 hD' hd rfl ?_;rintro b2 o2 c2 hS2 hc2 ⟨rfl,hok⟩;refine VC.fa AN (ld1 (v:=.int .i64 d.op) ct3 (hc2 0 _ (BB d)) trivial ?_);by_cases h5:d.op=5
   ·(conv=>whnf);rw [show(d.op==5)=true from by simp [h5]];(conv=>whnf);exact⟨by rw [hno (by simp [h5])],st1.old⟩
   ·(conv=>whnf);rw [show(d.op==5)=false from by simp [h5]];refine VC.fa BD ?_;refine ld1 (v:=.slice na ns.length nc) Cb (by rw [(st1.blk 0 rfl).cell];rfl) trivial ?_;refine ixr (i:=k) C6 hD' hd rfl ?_;rintro b3 o3 c3 hS3 hc3 ⟨rfl,hok3⟩;refine VC.fa AN (ld1 (v:=.int .i64 d.op) ct3 (hc3 0 _ (BB d)) trivial ?_);by_cases h6:d.op=6
    ·(conv=>whnf);rw [show(d.op==6)=true from by simp [h6]];(conv=>whnf);exact⟨by rw [hno (by simp [h6])],st1.old⟩
    ·(conv=>whnf);rw [show(d.op==6)=false from by simp [h6]];(conv=>whnf);rw [w64 (x:=(k:Int)+1) (by omega) (by omega)];refine⟨rfl,k+1,rfl,⟨hkl,rfl,?_⟩,by omega⟩;rw [hnext];simp [h5,h6]
  ·obtain rfl:k=ns.length:=by omega
   (conv=>whnf);rw [AaG (Aa7 _)]at hall;exact⟨by rw [hall],st1.old⟩
theorem Zi{P:Program}{t e:TypeId}{x y:Operand}{a:Option Addr}{n m:Nat}{S:Nat→Prop}{H:Aa}{K:Value→Prop}(h:P.underlying t=some (.slice e))(k:K (.bool (!a.isNone))):AH P (do eqGuard .neq t x y (.slice a n m) (.slice none 0 0);binOp .neq t (.slice a n m) (.slice none 0 0)) S H K:=by
 refine AH.mk _ (fun w _=>?_) k;have hz:∀d:Nat,(Op.equalIn (d+1) t (.slice a n m) (.slice none 0 0)).run P w= .ok a.isNone w:=fun d=>by
  cases a<;>simp [Op.equalIn,run_underlying h]
 have:(Op.equal t (.slice a n m) (.slice none 0 0)).run P w= .ok a.isNone w:=hz 9999;simp [eqGuard,binOp,this]
theorem Lg{S:Nat→Prop}{H:Aa}:∀xs:List Bool,A1.reps S H (xs.map Value.bool) xs
 | []=>rfl
 | x::xs=>⟨[.bool x],xs.map Value.bool,rfl,rfl,Lg xs⟩
theorem lg2{α:Type}(a:α)(ps:List α)(b c:α):(a::ps++[b]++[c])[ps.length+2]? =some c:=by
 rw [show ps.length+2=(a::ps++[b]).length by simp];exact D6 _ _
theorem ls2{α:Type}(a:α)(ps:List α)(b c d:α):(a::ps++[b]++[c]).set (ps.length+2) d=a::(ps++[b,d]):=by
 rw [show ps.length+2=(a::ps++[b]).length by simp,Nw];simp
def ED(m m':Nat→Nat→Option Nat):Prop:=∀a b c,m a b=some c→m' a b=some c
theorem ED.refl(m:Nat→Nat→Option Nat):ED m m:=fun _ _ _ h=>h
theorem ED.trans{m m1 m2:Nat→Nat→Option Nat}(h:ED m m1)(g:ED m1 m2):ED m m2:=fun a b c k=>g a b c (h a b c k)
theorem ED.put{m m1:Nat→Nat→Option Nat}{j i rb:Nat}(h:ED m m1)(hm:m j i=none):ED m (HR m1 j i rb):=fun a b c k=>by
 unfold HR;split
 ·rename_i e;rw [e.1,e.2,hm]at k;cases k
 ·exact h a b c k
def V2(B:Nat→Prop)(H0:Aa)(mb:Nat)(nbs:List Nat)(L:Nat)(R:Nat→Nat→List Bool)(m:Nat→Nat→Option Nat)(ps:List Pc)(j i:Nat)(v:Value)(H':Aa):Prop:=
 ∃m' rb,v=Kt rb L∧m' j i=some rb∧ED m m'∧StB B H0 H' (Eb mb nbs L m' R::ps)
theorem Ba.node{ns:List RnM}{r:ReM}{j:Nat}(h:Ba ns r j):∃d,ns[j]? =some d∧d.op=ZP r:=by
 cases r with
 | eps=>obtain⟨d,h1,h2⟩:=h;exact⟨d,h1,h2⟩
 | cls s=>obtain⟨d,h1,h2,-⟩:=h;exact⟨d,h1,h2⟩
 | star a=>obtain⟨d,k,h1,h2,-⟩:=h;exact⟨d,h1,h2⟩
 | _ a b=>obtain⟨d,k,k2,h1,h2,-⟩:=h;exact⟨d,h1,h2⟩
def frP(mb:Nat)(nbs:List Nat)(L:Nat)(m:Nat→Nat→Option Nat)(R:Nat→Nat→List Bool)(ps:List Pc)(ob:Nat)(xs:List Bool)(x:Nat)(d:RnM):List Pc:=
 Eb mb nbs L m R::(ps++[pS A1 4 (some ⟨ob,0,none⟩) (L+1) (L+1) xs,pB 159 x (rnL d)])
section
variable{mb L ob x:Nat}{nbs:List Nat}{m:Nat→Nat→Option Nat}{R:Nat→Nat→List Bool}{ps:List Pc}{xs:List Bool}{d:RnM}
theorem Ek:(frP mb nbs L m R ps ob xs x d)[ps.length+1]? =some (pS A1 4 (some ⟨ob,0,none⟩) (L+1) (L+1) xs):=lgR ps [pS A1 4 (some ⟨ob,0,none⟩) (L+1) (L+1) xs,pB 159 x (rnL d)] 0
theorem EE:(frP mb nbs L m R ps ob xs x d)[ps.length+2]? =some (pB 159 x (rnL d)):=lgR ps [pS A1 4 (some ⟨ob,0,none⟩) (L+1) (L+1) xs,pB 159 x (rnL d)] 1
theorem Qc(ys:List Bool):(frP mb nbs L m R ps ob xs x d).set (ps.length+1) (pS A1 4 (some ⟨ob,0,none⟩) (L+1) (L+1) ys)=frP mb nbs L m R ps ob ys x d:=congrArg (Eb mb nbs L m R::·) (lsR ps [pS A1 4 (some ⟨ob,0,none⟩) (L+1) (L+1) xs,pB 159 x (rnL d)] 0 _)
theorem Un{kt:Nat}{p:Pc}(h:ps[kt]? =some p):(frP mb nbs L m R ps ob xs x d)[kt+1]? =some p:=lgL h
theorem Gt{B:Nat→Prop}{H0 H:Aa}{q:Nat}{b:Bool}{K:Aa→Prop}(st:StB B H0 H (frP mb nbs L m R ps ob xs x d))(hq:q<xs.length)(k:∀G,StB B H0 G (frP mb nbs L m R ps ob (xs.set q b) x d)→K G):
  C0 Tryz.prog (Instr.storeAt 4 (.pointer (some ⟨ob,q*A1.size,none⟩)) (.bool b)) H K:=
 GS (T:=A1) (j:=q) (x:=b) st (ps.length+1) ct4 Ek rfl (Aa8 _) hq rfl (fun _ _=>rfl) fun G st'=>k G (by rw [Qc]at st';exact st')
end
theorem X8{B:Nat→Prop}{H0:Aa}{ns:List RnM}{na:Option Addr}{nc:Nat}{Av:Int}{s:ByteArray}{tb mb kt:Nat}{nbs:List Nat}(hD:SlD tRn B H0 na nc ns)(hnl:nbs.length=ns.length)(hN:ns.length≤4194304)(hs:s.size≤4194303):
  ∀(k:Nat) (r:ReM),r.nodes<k→∀{H:Aa} {m:Nat→Nat→Option Nat} {ps:List Pc} {j i:Nat},StB B H0 H (Eb mb nbs s.size m (C3 ns (byN s))::ps)→
   ps[kt]? =some (pB 266 tb (tmL na ns.length nc Av s (.slice (some ⟨mb,0,none⟩) ns.length ns.length)))→Ba ns r j→i≤s.size→
   Al Tryz.prog 102 #[.pointer (some ⟨tb,0,none⟩),.int .i64 (j:Int),.int .i64 (i:Int)] H (V2 B H0 mb nbs s.size (C3 ns (byN s)) m ps j i):=by
 intro k
 induction k with
 | zero=>intro r h;omega
 | succ k IH=>
 intro r hr H m ps j i st hkt ht hi;obtain⟨d,hd,hop⟩:=ht.node;have hjn:=(Aa1.1 hd).1;obtain⟨nb,hnb⟩:∃nb,nbs[j]? =some nb:=⟨_,Aa0 (by omega)⟩;have hok:FK mb nbs s.size m (C3 ns (byN s)) H:=st.at_ 0 rfl;have hrow:=hok.rows j nb hnb;have hbl:=Ky s;refine Al.of_vc Tryz.func102 rfl (Tryz.call102 _) (VC.fa IZ ?_);refine ld1 (v:=.slice (some ⟨mb,0,none⟩) ns.length ns.length) Ox (by rw [(st.blk (kt+1) hkt).cell];rfl) trivial ?_;refine VC.ix Pr (by omega) (by omega) ?_;refine ld1 (v:=Kt nb s.size) Rf (by rw [hok.top.cell,Aa4,Aa8,Aa3,Aa6,hnb];rfl) trivial ?_;refine VC.ix RY (by omega) (by omega) ?_;refine ld1 FM (by rw [hrow.cell,Aa4,Aa8,Aa3];exact Hj hi) trivial ?_;cases hm:m j i with
 | some rb=>
   refine Zi Tryz.underlying36 (VC.fa IZ ?_);refine ld1 (v:=.slice (some ⟨mb,0,none⟩) ns.length ns.length) Ox (by rw [(st.blk (kt+1) hkt).cell];rfl) trivial ?_;refine VC.ix Pr (by omega) (by omega) ?_;refine ld1 (v:=Kt nb s.size) Rf (by rw [hok.top.cell,Aa4,Aa8,Aa3,Aa6,hnb];rfl) trivial ?_;refine VC.ix RY (by omega) (by omega) ?_;refine ld1 (v:=Kt rb s.size) FM (by rw [hrow.cell,Aa4,Aa8,Aa3];refine(Hj hi).trans ?_;rw [hm]) trivial ?_;(conv=>whnf);exact⟨m,rb,rfl,hm,.refl m,st⟩
 | none=>
   refine Zi Tryz.underlying36 (VC.fa F9 ?_);refine ld1 (v:=.string s) ct9 (by rw [(st.blk (kt+1) hkt).cell];rfl) trivial ?_;(conv=>whnf);rw [w64 (x:=(s.size:Int)+1) (by omega) (by omega)];refine Eo Cs rfl (by omega) (by omega) (by omega) (by omega) ?_;intro ob H1 hq1 hs1 hb1 ha1;rw [show((s.size:Int)+1).toNat=s.size+1 by omega]at hb1 ⊢;have hreps:A1.reps none_ H1 (Aa2 (s.size+1) (Value.bool false)) (Aa2 (s.size+1) false):=by
    have:=Lg (S:=none_) (H:=H1) (Aa2 (s.size+1) false);rwa [List.map_replicate]at this
   have st1:=st.new (T:=A1) (n:=s.size+1) (xs:=Aa2 (s.size+1) false) hq1 hs1 hb1 ha1 hreps (by simp) (by unfold maxLen;omega);have hkt1:(Eb mb nbs s.size m (C3 ns (byN s))::ps++[pS A1 4 (some ⟨ob,0,none⟩) (s.size+1) (s.size+1) (Aa2 (s.size+1) false)])[kt+1]? =some (pB 266 tb (tmL na ns.length nc Av s (.slice (some ⟨mb,0,none⟩) ns.length ns.length))):=lgL hkt;refine VC.fa Wa (VC.fa BD ?_);refine ld1 (v:=.slice na ns.length nc) Cb (by rw [(st1.blk (kt+1) hkt1).cell];rfl) trivial ?_;refine ixr (i:=j) C6 (hD.frame st1.old) hd rfl ?_;rintro b2 o2 c2 hS2 hc2 ⟨rfl,hokd⟩;refine ldN (cs:=rnL d) (by rw [Ai];exact Do) hc2 trivial ?_;refine Ak _ rnZ EU rfl ?_;intro x H2 hq2 hs2 hb2 ha2;have st2:=st1.box hq2 hs2 hb2 ha2;refine AI (cs:=rnL d) (l:=rnZ) st2 (ps.length+2) (by rw [Ai];rfl) (lg2 _ ps _ _) (by rw [Ai,AK];decide) (Be d) fun H3 st3=>?_;rw [A8 (show(rnL d).length=rnZ.length by rw [Ai,AK])]at st3;replace st3:StB B H0 H3 (frP mb nbs s.size m (C3 ns (byN s)) ps ob (Aa2 (s.size+1) false) x d):=by
    rw [ls2]at st3;exact st3
   have e0:Aa2 (s.size+1) false=AP (byN s).length fun _=>False:=by rw [hbl];exact Ta _
   rw [e0]at st3;clear st1 st2 hkt1;have hopc:∀{G:Aa} {m1:Nat→Nat→Option Nat} {xs:List Bool},StB B H0 G (frP mb nbs s.size m1 (C3 ns (byN s)) ps ob xs x d)→VC.cell G x 0=some (.int .i64 d.op):=fun sg=>by rw [(sg.blk (ps.length+2) EE).cell];exact BB d
   have hlc:∀{G:Aa} {m1:Nat→Nat→Option Nat} {xs:List Bool},StB B H0 G (frP mb nbs s.size m1 (C3 ns (byN s)) ps ob xs x d)→VC.cell G x 257=some (.int .i64 d.l):=fun sg=>by rw [(sg.blk (ps.length+2) EE).cell];exact ET d
   have hrc:∀{G:Aa} {m1:Nat→Nat→Option Nat} {xs:List Bool},StB B H0 G (frP mb nbs s.size m1 (C3 ns (byN s)) ps ob xs x d)→VC.cell G x 258=some (.int .i64 d.r):=fun sg=>by rw [(sg.blk (ps.length+2) EE).cell];exact JO d
   have hsc:∀{G:Aa} {m1:Nat→Nat→Option Nat} {xs:List Bool},StB B H0 G (frP mb nbs s.size m1 (C3 ns (byN s)) ps ob xs x d)→VC.cell G tb 2=some (.string s):=fun sg=>by rw [(sg.blk (kt+1) (Un hkt)).cell];rfl
   have hkt':∀{xs:List Bool},(ps++[pS A1 4 (some ⟨ob,0,none⟩) (s.size+1) (s.size+1) xs,pB 159 x (rnL d)])[kt]? =some (pB 266 tb (tmL na ns.length nc Av s (.slice (some ⟨mb,0,none⟩) ns.length ns.length))):=lgL hkt;have hcont:∀{G:Aa} {m1:Nat→Nat→Option Nat} {xs:List Bool} {r':ReM} {j' i' rb:Nat},StB B H0 G (frP mb nbs s.size m1 (C3 ns (byN s)) ps ob xs x d)→Ba ns r' j'→m1 j' i'=some rb→Blk G rb 4 ((AP (byN s).length fun y=>Mt (byN s) r' i' y).map Value.bool):=fun sg ht' hm'=>by
    have h:=(show FK _ _ _ _ _ _ from sg.at_ 0 rfl).cont _ _ _ hm';rw [Ht ht']at h;exact h
   (conv=>whnf);refine Am.cut (α:=Unit) [] (fun _=>[]) (fun _ G=>∃m1,ED m m1∧StB B H0 G (frP mb nbs s.size m1 (C3 ns (byN s)) ps ob (AP (byN s).length fun y=>Mt (byN s) r i y) x d)) ?_ ?_
   rotate_left
   ·rintro⟨⟩ G junk ⟨m1,hg1,sg⟩;have hokg:FK mb nbs s.size m1 (C3 ns (byN s)) G:=sg.at_ 0 rfl;refine VC.fa IZ ?_;refine ld1 (v:=.slice (some ⟨mb,0,none⟩) ns.length ns.length) Ox (by rw [(sg.blk (kt+1) (Un hkt)).cell];rfl) trivial ?_;refine VC.ix Pr (by omega) (by omega) ?_;refine ld1 (v:=Kt nb s.size) Rf (by rw [hokg.top.cell,Aa4,Aa8,Aa3,Aa6,hnb];rfl) trivial ?_;refine VC.ix RY (by omega) (by omega) ?_;have sg':StB B H0 G (Eb mb nbs s.size m1 (C3 ns (byN s))::(ps++[pS A1 4 (some ⟨ob,0,none⟩) (s.size+1) (s.size+1) (AP (byN s).length fun y=>Mt (byN s) r i y)])):=
     sg.subl (List.Sublist.cons_cons _ (List.Sublist.append_left (List.Sublist.cons_cons _ (AaS _)) _))
    rw [show 0+(i:Int).toNat*1=i by omega];refine Yc sg' hnb hi (Ht ht i) fun G2 st2=>?_;(conv=>whnf);exact⟨HR m1 j i ob,ob,rfl,by unfold HR;simp,hg1.put hm,st2⟩
   ·refine VC.fa AN (ld1 (v:=.int .i64 d.op) ct3 (hopc st3) trivial ?_);rw [hop];cases r with
    | eps=>
      (conv=>whnf);try (refine Am.run ?_)
      refine ixE (T:=A1) (j:=i) Cs st3 (ps.length+1) Ek (by rw [A7];omega) rfl ?_;refine Gt st3 (q:=i) (by rw [A7];omega) fun G sg=>?_;rw [ZH (by omega)]at sg;(conv=>whnf);exact⟨rfl,(),rfl,m,.refl m,sg⟩
    | cls cs=>
      obtain⟨d',hd',hop',hset⟩:=ht;rw [hd]at hd';cases hd';(conv=>whnf);try (refine Am.run ?_)
      (conv=>whnf);try (refine Am.run ?_)
      refine VC.fa F9 (ld1 (v:=.string s) ct9 (hsc st3) trivial ?_);by_cases hil:i<s.size
      ·(conv=>whnf);rw [show decide ((i:Int)<(s.size:Int))=true from decide_eq_true (by omega)];refine VC.fa F9 (ld1 (v:=.string s) ct9 (hsc st3) trivial ?_);obtain⟨c,hc1,hc2,hc3⟩:=CI hil;have hbn:=MV hc1;refine Dg E5 rfl hc1 (VC.fa KA ?_);(conv=>whnf);rw [w64 (x:=((c.toNat:Nat):Int)) (by omega) (by have:=c.toNat_lt;omega)];refine ixa C1 (by omega) (by have:=c.toNat_lt;omega) ?_;refine ld1 (v:=.bool (d.set.getLsbD c.toNat)) ct4 (by
        rw [(st3.blk (ps.length+2) EE).cell,show(0+1+((c.toNat:Nat):Int).toNat*1:Nat)=1+c.toNat by omega];exact ND d _ _ (FU d.set (by have:=c.toNat_lt;omega))) trivial ?_
       cases hb:d.set.getLsbD c.toNat with
       | true=>
         (conv=>whnf);rw [w64 (x:=(i:Int)+1) (by omega) (by omega)];refine ixE (T:=A1) (j:=i+1) Cs st3 (ps.length+1) Ek (by rw [A7];omega) rfl ?_;refine Gt st3 (q:=i+1) (by rw [A7];omega) fun G sg=>?_;rw [TM hbn hb,hset]at sg;(conv=>whnf);exact⟨rfl,(),rfl,m,.refl m,sg⟩
       | false=>
         rw [Ra (s:=cs) (i:=i) (fun c' hc'=>by rw [hbn]at hc';cases hc';rw [←hset];exact hb)]at st3;(conv=>whnf);exact⟨rfl,(),rfl,m,.refl m,st3⟩
      ·(conv=>whnf);rw [show decide ((i:Int)<(s.size:Int))=false from decide_eq_false (by omega)];rw [Ra (s:=cs) (i:=i) (fun c' hc'=>by have:=(Aa1.1 hc').1;omega)]at st3;(conv=>whnf);exact⟨rfl,(),rfl,m,.refl m,st3⟩
    | cat a b=>
      obtain⟨d',ja,jb,hd',hop',hl1,hl2,hta,htb⟩:=ht;rw [hd]at hd';cases hd';simp only [ReM.nodes]at hr;(conv=>whnf);try (refine Am.run ?_)
      (conv=>whnf);try (refine Am.run ?_)
      (conv=>whnf);try (refine Am.run ?_)
      refine VC.fa Bh (ld1 (v:=.int .i64 d.l) ct3 (hlc st3) trivial ?_);rw [hl1];refine Ag.mk (IH a (by omega) st3 hkt' hta hi) ?_;rintro _ G1 ⟨m1,ra,rfl,hra,hg1,sg1⟩;rw [Sw (byN s) a b i]at sg1;(conv=>whnf);refine A3.mk [10] (fun q:Nat=>[.int .i64 (q:Int)]) (fun q G=>i≤q∧q≤s.size+1∧∃m2,ED m1 m2∧StB B H0 G (frP mb nbs s.size m2 (C3 ns (byN s)) ps ob (AP (byN s).length (On (byN s) a b i q)) x d)) (fun q _=>s.size+1 - q) ?_ ?_
      ·(conv=>whnf);exact⟨i,rfl,Aa7 _,by omega,m1,.refl m1,sg1⟩
      ·rintro q G junk ⟨hiq,hqs,m2,hg2,sg⟩;refine VC.fa F9 (ld1 (v:=.string s) ct9 (hsc sg) trivial ?_);refine AB.mk (fun hz=>?_) (fun hz=>?_)<;>simp only [decide_eq_true_eq,decide_eq_false_iff_not]at hz
       ·have hql:q≤s.size:=by omega
        have hA:=hcont sg hta (hg2 _ _ _ hra);(conv=>whnf);try (refine Am.run ?_)
        refine VC.ix Cs (by omega) (by omega) ?_;obtain⟨v0,hv0⟩:∃v0,(AP (byN s).length fun y=>Mt (byN s) a i y)[q]? =some v0:=⟨_,Aa0 (by rw [A7];omega)⟩;have hv1:=FC (by omega) hv0;refine ld1 (v:=.bool v0) ct4 (by rw [hA.cell,Aa4,Aa8,Aa3,Aa6,hv0];rfl) trivial ?_;cases v0 with
        | true=>
          refine VC.fa CA (ld1 (v:=.int .i64 d.r) ct3 (hrc sg) trivial ?_);rw [hl2];refine Ag.mk (IH b (by omega) sg hkt' htb hql) ?_;rintro _ G2 ⟨m3,rb,rfl,hrb,hg3,sg3⟩;replace sg3:StB B H0 G2 (frP mb nbs s.size m3 (C3 ns (byN s)) ps ob (AP (byN s).length (On (byN s) a b i q)) x d):=sg3;refine Ag.mk (Uy (kb:=0) (ys:=AP (byN s).length fun y=>Mt (byN s) b q y) sg3 Ek rfl (by omega) (fun H' hok'=>by
           have h:=FK.cont hok' _ _ _ hrb;rw [Ht htb]at h;exact h) (by rw [A7,A7]) (by omega)) ?_
          rintro _ G3 sg4;rw [Qc,A7,Sv (hv1.1 rfl)]at sg4;(conv=>whnf);rw [w64 (x:=(q:Int)+1) (by omega) (by omega)];exact⟨rfl,q+1,rfl,⟨by omega,by omega,m3,hg2.trans hg3,sg4⟩,by omega⟩
        | false=>
          rw [Su (fun h=>by have:=hv1.2 h;cases this)]at sg;(conv=>whnf);rw [w64 (x:=(q:Int)+1) (by omega) (by omega)];exact⟨rfl,q+1,rfl,⟨by omega,by omega,m2,hg2,sg⟩,by omega⟩
       ·obtain rfl:q=s.size+1:=by omega
        have e9:=TL (l:=byN s) (a:=a) (b:=b) (i:=i) (by omega);rw [show(byN s).length+1=s.size+1 by omega]at e9;rw [e9]at sg;(conv=>whnf);exact⟨rfl,(),rfl,m2,hg1.trans hg2,sg⟩
    | star a=>
      obtain⟨d',ja,hd',hop',hl1,hta⟩:=ht;rw [hd]at hd';cases hd';simp only [ReM.nodes]at hr;(conv=>whnf);try (refine Am.run ?_)
      (conv=>whnf);try (refine Am.run ?_)
      (conv=>whnf);try (refine Am.run ?_)
      (conv=>whnf);try (refine Am.run ?_)
      refine ixE (T:=A1) (j:=i) Cs st3 (ps.length+1) Ek (by rw [A7];omega) rfl ?_;refine Gt st3 (q:=i) (by rw [A7];omega) fun G1 sg1=>?_;rw [QH (a:=a) (by omega)]at sg1;(conv=>whnf);refine A3.mk [11] (fun q:Nat=>[.int .i64 (q:Int)]) (fun q G=>i≤q∧q≤s.size+1∧∃m2,ED m m2∧StB B H0 G (frP mb nbs s.size m2 (C3 ns (byN s)) ps ob (AP (byN s).length (GN (byN s) a i q)) x d)) (fun q _=>s.size+1 - q) ?_ ?_
      ·(conv=>whnf);exact⟨i,rfl,Aa7 _,by omega,m,.refl m,sg1⟩
      ·rintro q G junk ⟨hiq,hqs,m2,hg2,sg⟩;refine VC.fa F9 (ld1 (v:=.string s) ct9 (hsc sg) trivial ?_);refine AB.mk (fun hz=>?_) (fun hz=>?_)<;>simp only [decide_eq_true_eq,decide_eq_false_iff_not]at hz
       ·have hql:q≤s.size:=by omega
        (conv=>whnf);try (refine Am.run ?_)
        obtain⟨v0,hv0⟩:∃v0,(AP (byN s).length (GN (byN s) a i q))[q]? =some v0:=⟨_,Aa0 (by rw [A7];omega)⟩;have hv1:=FC (by omega) hv0;refine ixO (j:=q) (x:=v0) Cs sg (ps.length+1) Ek hv0 rfl fun b9 o9 cs9 hO9 hc9 hr9=>?_;obtain rfl:=hr9;refine ld1 ct4 hc9.one trivial ?_;cases v0 with
        | true=>
          refine VC.fa Bh (ld1 (v:=.int .i64 d.l) ct3 (hlc sg) trivial ?_);rw [hl1];refine Ag.mk (IH a (by omega) sg hkt' hta hql) ?_;rintro _ G2 ⟨m3,rb,rfl,hrb,hg3,sg3⟩;replace sg3:StB B H0 G2 (frP mb nbs s.size m3 (C3 ns (byN s)) ps ob (AP (byN s).length (GN (byN s) a i q)) x d):=sg3;refine Ag.mk (Uy (kb:=0) (ys:=AP (byN s).length fun y=>Mt (byN s) a q y) sg3 Ek rfl (by omega) (fun H' hok'=>by
           have h:=FK.cont hok' _ _ _ hrb;rw [Ht hta]at h;exact h) (by rw [A7,A7]) (by omega)) ?_
          rintro _ G3 sg4;rw [Qc,A7,QG (hv1.1 rfl)]at sg4;(conv=>whnf);rw [w64 (x:=(q:Int)+1) (by omega) (by omega)];exact⟨rfl,q+1,rfl,⟨by omega,by omega,m3,hg2.trans hg3,sg4⟩,by omega⟩
        | false=>
          rw [QF (fun h=>by have:=hv1.2 h;cases this)]at sg;(conv=>whnf);rw [w64 (x:=(q:Int)+1) (by omega) (by omega)];exact⟨rfl,q+1,rfl,⟨by omega,by omega,m2,hg2,sg⟩,by omega⟩
       ·obtain rfl:q=s.size+1:=by omega
        have e9:=Ti (l:=byN s) (a:=a) (i:=i) (by omega);rw [show(byN s).length+1=s.size+1 by omega]at e9;rw [e9]at sg;(conv=>whnf);exact⟨rfl,(),rfl,m2,hg2,sg⟩
    | alt a b=>
      obtain⟨d',ja,jb,hd',hop',hl1,hl2,hta,htb⟩:=ht;rw [hd]at hd';cases hd';simp only [ReM.nodes]at hr;(conv=>whnf);try (refine Am.run ?_)
      (conv=>whnf);try (refine Am.run ?_)
      (conv=>whnf);try (refine Am.run ?_)
      (conv=>whnf);try (refine Am.run ?_)
      refine Ar.heldZ (fun k=>k=x) [] (sq [0,1,2,3,5,6,7,8] (.f 4 (.f 9 (sq [10,11] .e)))) rfl (by kernel_rfl) (VC.fa Bh (ld1 (v:=.int .i64 d.l) ct3 (hlc st3) rfl ?_));rw [hl1];refine VC.fa CA (ld1 (v:=.int .i64 d.r) ct3 (hrc st3) rfl ?_);rw [hl2];refine Ag.mk (IH a (by omega) st3 hkt' hta hi) ?_;rintro _ G1 ⟨m1,ra,rfl,hra,hg1,sg1⟩;replace sg1:StB B H0 G1 (frP mb nbs s.size m1 (C3 ns (byN s)) ps ob (AP (byN s).length fun _=>False) x d):=sg1;refine⟨fun k hk=>by rw [show k=x from hk];exact(sg1.blk (ps.length+2) EE).trans (st3.blk (ps.length+2) EE).symm,?_⟩;refine Ag.mk (IH b (by omega) sg1 hkt' htb hi) ?_;rintro _ G2 ⟨m2,rb,rfl,hrb,hg2,sg2⟩;replace sg2:StB B H0 G2 (frP mb nbs s.size m2 (C3 ns (byN s)) ps ob (AP (byN s).length fun _=>False) x d):=sg2;refine⟨fun k hk=>by rw [show k=x from hk];exact(sg2.blk (ps.length+2) EE).trans (st3.blk (ps.length+2) EE).symm,?_⟩;rw [Ik (a:=a) (b:=b) (i:=i) (·|| ·) rfl]at sg2;(conv=>whnf);refine A3.mk [14] (fun q:Nat=>[.int .i64 (q:Int)]) (fun q G=>i≤q∧q≤s.size+1∧∃m3,ED m2 m3∧StB B H0 G (frP mb nbs s.size m3 (C3 ns (byN s)) ps ob (AP (byN s).length (FV (·|| ·) (AP (byN s).length fun y=>Mt (byN s) a i y) (AP (byN s).length fun y=>Mt (byN s) b i y) q)) x d)) (fun q _=>s.size+1 - q) ?_ ?_
      ·(conv=>whnf);exact⟨i,rfl,Aa7 _,by omega,m2,.refl m2,sg2⟩
      ·rintro q G junk ⟨hiq,hqs,m3,hg4,sg⟩;refine VC.fa F9 (ld1 (v:=.string s) ct9 (hsc sg) trivial ?_);refine AB.mk (fun hz=>?_) (fun hz=>?_)<;>simp only [decide_eq_true_eq,decide_eq_false_iff_not]at hz
       ·have hql:q≤s.size:=by omega
        have hA:=hcont sg hta (hg4 _ _ _ (hg2 _ _ _ hra));obtain⟨va,hva⟩:∃v0,(AP (byN s).length fun y=>Mt (byN s) a i y)[q]? =some v0:=⟨_,Aa0 (by rw [A7];omega)⟩;obtain⟨vb,hvb⟩:∃v0,(AP (byN s).length fun y=>Mt (byN s) b i y)[q]? =some v0:=⟨_,Aa0 (by rw [A7];omega)⟩;have fin:∀z:Bool,(·|| ·) va vb=z→(AP (byN s).length (FV (·|| ·) (AP (byN s).length fun y=>Mt (byN s) a i y) (AP (byN s).length fun y=>Mt (byN s) b i y) q)).set q z=AP (byN s).length (FV (·|| ·) (AP (byN s).length fun y=>Mt (byN s) a i y) (AP (byN s).length fun y=>Mt (byN s) b i y) (q+1)):=fun z hz=>by
         rw [←hz];exact Ij (by omega) hva hvb
        (conv=>whnf);try (refine Am.run ?_)
        refine VC.fa AN (ld1 (v:=.int .i64 d.op) ct3 (hopc sg) trivial ?_);rw [hop];(conv=>whnf);try (refine Am.run ?_)
        refine VC.ix Cs (by omega) (by omega) ?_;refine ld1 (v:=.bool va) ct4 (by rw [hA.cell,Aa4,Aa8,Aa3,Aa6,hva];rfl) trivial ?_;cases va with
        | true=>
          refine ixE (T:=A1) (j:=q) Cs sg (ps.length+1) Ek (by rw [A7];omega) rfl ?_;refine Gt sg (q:=q) (by rw [A7];omega) fun G3 sg4=>?_;rw [fin _ (by cases vb<;>rfl)]at sg4;(conv=>whnf);rw [w64 (x:=(q:Int)+1) (by omega) (by omega)];exact⟨rfl,q+1,rfl,⟨by omega,by omega,m3,hg4,sg4⟩,by omega⟩
        | false=>
          have hB:=hcont sg htb (hg4 _ _ _ hrb);refine VC.ix Cs (by omega) (by omega) ?_;refine ld1 (v:=.bool vb) ct4 (by rw [hB.cell,Aa4,Aa8,Aa3,Aa6,hvb];rfl) trivial ?_;refine ixE (T:=A1) (j:=q) Cs sg (ps.length+1) Ek (by rw [A7];omega) rfl ?_;refine Gt sg (q:=q) (by rw [A7];omega) fun G3 sg4=>?_;rw [fin _ (by cases vb<;>rfl)]at sg4;(conv=>whnf);rw [w64 (x:=(q:Int)+1) (by omega) (by omega)];exact⟨rfl,q+1,rfl,⟨by omega,by omega,m3,hg4,sg4⟩,by omega⟩
       ·obtain rfl:q=s.size+1:=by omega
        have e9:=Jz (l:=byN s) (a:=a) (b:=b) (i:=i) (·|| ·) TE;rw [show(byN s).length+1=s.size+1 by omega]at e9;rw [e9]at sg;(conv=>whnf);exact⟨rfl,(),rfl,m3,(hg1.trans hg2).trans hg4,sg⟩
    | and_ a b=>
      obtain⟨d',ja,jb,hd',hop',hl1,hl2,hta,htb⟩:=ht;rw [hd]at hd';cases hd';simp only [ReM.nodes]at hr;(conv=>whnf);try (refine Am.run ?_)
      (conv=>whnf);try (refine Am.run ?_)
      (conv=>whnf);try (refine Am.run ?_)
      (conv=>whnf);try (refine Am.run ?_)
      refine Ar.heldZ (fun k=>k=x) [] (sq [0,1,2,3,5,6,7,8] (.f 4 (.f 9 (sq [10,11] .e)))) rfl (by kernel_rfl) (VC.fa Bh (ld1 (v:=.int .i64 d.l) ct3 (hlc st3) rfl ?_));rw [hl1];refine VC.fa CA (ld1 (v:=.int .i64 d.r) ct3 (hrc st3) rfl ?_);rw [hl2];refine Ag.mk (IH a (by omega) st3 hkt' hta hi) ?_;rintro _ G1 ⟨m1,ra,rfl,hra,hg1,sg1⟩;replace sg1:StB B H0 G1 (frP mb nbs s.size m1 (C3 ns (byN s)) ps ob (AP (byN s).length fun _=>False) x d):=sg1;refine⟨fun k hk=>by rw [show k=x from hk];exact(sg1.blk (ps.length+2) EE).trans (st3.blk (ps.length+2) EE).symm,?_⟩;refine Ag.mk (IH b (by omega) sg1 hkt' htb hi) ?_;rintro _ G2 ⟨m2,rb,rfl,hrb,hg2,sg2⟩;replace sg2:StB B H0 G2 (frP mb nbs s.size m2 (C3 ns (byN s)) ps ob (AP (byN s).length fun _=>False) x d):=sg2;refine⟨fun k hk=>by rw [show k=x from hk];exact(sg2.blk (ps.length+2) EE).trans (st3.blk (ps.length+2) EE).symm,?_⟩;rw [Ik (a:=a) (b:=b) (i:=i) (·&&·) rfl]at sg2;(conv=>whnf);refine A3.mk [14] (fun q:Nat=>[.int .i64 (q:Int)]) (fun q G=>i≤q∧q≤s.size+1∧∃m3,ED m2 m3∧StB B H0 G (frP mb nbs s.size m3 (C3 ns (byN s)) ps ob (AP (byN s).length (FV (·&&·) (AP (byN s).length fun y=>Mt (byN s) a i y) (AP (byN s).length fun y=>Mt (byN s) b i y) q)) x d)) (fun q _=>s.size+1 - q) ?_ ?_
      ·(conv=>whnf);exact⟨i,rfl,Aa7 _,by omega,m2,.refl m2,sg2⟩
      ·rintro q G junk ⟨hiq,hqs,m3,hg4,sg⟩;refine VC.fa F9 (ld1 (v:=.string s) ct9 (hsc sg) trivial ?_);refine AB.mk (fun hz=>?_) (fun hz=>?_)<;>simp only [decide_eq_true_eq,decide_eq_false_iff_not]at hz
       ·have hql:q≤s.size:=by omega
        have hA:=hcont sg hta (hg4 _ _ _ (hg2 _ _ _ hra));obtain⟨va,hva⟩:∃v0,(AP (byN s).length fun y=>Mt (byN s) a i y)[q]? =some v0:=⟨_,Aa0 (by rw [A7];omega)⟩;obtain⟨vb,hvb⟩:∃v0,(AP (byN s).length fun y=>Mt (byN s) b i y)[q]? =some v0:=⟨_,Aa0 (by rw [A7];omega)⟩;have fin:∀z:Bool,(·&&·) va vb=z→(AP (byN s).length (FV (·&&·) (AP (byN s).length fun y=>Mt (byN s) a i y) (AP (byN s).length fun y=>Mt (byN s) b i y) q)).set q z=AP (byN s).length (FV (·&&·) (AP (byN s).length fun y=>Mt (byN s) a i y) (AP (byN s).length fun y=>Mt (byN s) b i y) (q+1)):=fun z hz=>by
         rw [←hz];exact Ij (by omega) hva hvb
        (conv=>whnf);try (refine Am.run ?_)
        refine VC.fa AN (ld1 (v:=.int .i64 d.op) ct3 (hopc sg) trivial ?_);rw [hop];(conv=>whnf);try (refine Am.run ?_)
        (conv=>whnf);try (refine Am.run ?_)
        refine VC.ix Cs (by omega) (by omega) ?_;refine ld1 (v:=.bool va) ct4 (by rw [hA.cell,Aa4,Aa8,Aa3,Aa6,hva];rfl) trivial ?_;cases va with
        | true=>
          have hB:=hcont sg htb (hg4 _ _ _ hrb);refine VC.ix Cs (by omega) (by omega) ?_;refine ld1 (v:=.bool vb) ct4 (by rw [hB.cell,Aa4,Aa8,Aa3,Aa6,hvb];rfl) trivial ?_;refine ixE (T:=A1) (j:=q) Cs sg (ps.length+1) Ek (by rw [A7];omega) rfl ?_;refine Gt sg (q:=q) (by rw [A7];omega) fun G3 sg4=>?_;rw [fin _ (by cases vb<;>rfl)]at sg4;(conv=>whnf);rw [w64 (x:=(q:Int)+1) (by omega) (by omega)];exact⟨rfl,q+1,rfl,⟨by omega,by omega,m3,hg4,sg4⟩,by omega⟩
        | false=>
          refine ixE (T:=A1) (j:=q) Cs sg (ps.length+1) Ek (by rw [A7];omega) rfl ?_;refine Gt sg (q:=q) (by rw [A7];omega) fun G3 sg4=>?_;rw [fin _ (by cases vb<;>rfl)]at sg4;(conv=>whnf);rw [w64 (x:=(q:Int)+1) (by omega) (by omega)];exact⟨rfl,q+1,rfl,⟨by omega,by omega,m3,hg4,sg4⟩,by omega⟩
       ·obtain rfl:q=s.size+1:=by omega
        have e9:=Jz (l:=byN s) (a:=a) (b:=b) (i:=i) (·&&·) TF;rw [show(byN s).length+1=s.size+1 by omega]at e9;rw [e9]at sg;(conv=>whnf);exact⟨rfl,(),rfl,m3,(hg1.trans hg2).trans hg4,sg⟩
    | minus a b=>
      obtain⟨d',ja,jb,hd',hop',hl1,hl2,hta,htb⟩:=ht;rw [hd]at hd';cases hd';simp only [ReM.nodes]at hr;(conv=>whnf);try (refine Am.run ?_)
      (conv=>whnf);try (refine Am.run ?_)
      (conv=>whnf);try (refine Am.run ?_)
      (conv=>whnf);try (refine Am.run ?_)
      refine Ar.heldZ (fun k=>k=x) [] (sq [0,1,2,3,5,6,7,8] (.f 4 (.f 9 (sq [10,11] .e)))) rfl (by kernel_rfl) (VC.fa Bh (ld1 (v:=.int .i64 d.l) ct3 (hlc st3) rfl ?_));rw [hl1];refine VC.fa CA (ld1 (v:=.int .i64 d.r) ct3 (hrc st3) rfl ?_);rw [hl2];refine Ag.mk (IH a (by omega) st3 hkt' hta hi) ?_;rintro _ G1 ⟨m1,ra,rfl,hra,hg1,sg1⟩;replace sg1:StB B H0 G1 (frP mb nbs s.size m1 (C3 ns (byN s)) ps ob (AP (byN s).length fun _=>False) x d):=sg1;refine⟨fun k hk=>by rw [show k=x from hk];exact(sg1.blk (ps.length+2) EE).trans (st3.blk (ps.length+2) EE).symm,?_⟩;refine Ag.mk (IH b (by omega) sg1 hkt' htb hi) ?_;rintro _ G2 ⟨m2,rb,rfl,hrb,hg2,sg2⟩;replace sg2:StB B H0 G2 (frP mb nbs s.size m2 (C3 ns (byN s)) ps ob (AP (byN s).length fun _=>False) x d):=sg2;refine⟨fun k hk=>by rw [show k=x from hk];exact(sg2.blk (ps.length+2) EE).trans (st3.blk (ps.length+2) EE).symm,?_⟩;rw [Ik (a:=a) (b:=b) (i:=i) (fun p q=>p&& !q) rfl]at sg2;(conv=>whnf);refine A3.mk [14] (fun q:Nat=>[.int .i64 (q:Int)]) (fun q G=>i≤q∧q≤s.size+1∧∃m3,ED m2 m3∧StB B H0 G (frP mb nbs s.size m3 (C3 ns (byN s)) ps ob (AP (byN s).length (FV (fun p q=>p&& !q) (AP (byN s).length fun y=>Mt (byN s) a i y) (AP (byN s).length fun y=>Mt (byN s) b i y) q)) x d)) (fun q _=>s.size+1 - q) ?_ ?_
      ·(conv=>whnf);exact⟨i,rfl,Aa7 _,by omega,m2,.refl m2,sg2⟩
      ·rintro q G junk ⟨hiq,hqs,m3,hg4,sg⟩;refine VC.fa F9 (ld1 (v:=.string s) ct9 (hsc sg) trivial ?_);refine AB.mk (fun hz=>?_) (fun hz=>?_)<;>simp only [decide_eq_true_eq,decide_eq_false_iff_not]at hz
       ·have hql:q≤s.size:=by omega
        have hA:=hcont sg hta (hg4 _ _ _ (hg2 _ _ _ hra));obtain⟨va,hva⟩:∃v0,(AP (byN s).length fun y=>Mt (byN s) a i y)[q]? =some v0:=⟨_,Aa0 (by rw [A7];omega)⟩;obtain⟨vb,hvb⟩:∃v0,(AP (byN s).length fun y=>Mt (byN s) b i y)[q]? =some v0:=⟨_,Aa0 (by rw [A7];omega)⟩;have fin:∀z:Bool,(fun p q=>p&& !q) va vb=z→(AP (byN s).length (FV (fun p q=>p&& !q) (AP (byN s).length fun y=>Mt (byN s) a i y) (AP (byN s).length fun y=>Mt (byN s) b i y) q)).set q z=AP (byN s).length (FV (fun p q=>p&& !q) (AP (byN s).length fun y=>Mt (byN s) a i y) (AP (byN s).length fun y=>Mt (byN s) b i y) (q+1)):=fun z hz=>by
         rw [←hz];exact Ij (by omega) hva hvb
        (conv=>whnf);try (refine Am.run ?_)
        refine VC.fa AN (ld1 (v:=.int .i64 d.op) ct3 (hopc sg) trivial ?_);rw [hop];(conv=>whnf);try (refine Am.run ?_)
        (conv=>whnf);try (refine Am.run ?_)
        refine VC.ix Cs (by omega) (by omega) ?_;refine ld1 (v:=.bool va) ct4 (by rw [hA.cell,Aa4,Aa8,Aa3,Aa6,hva];rfl) trivial ?_;cases va with
        | true=>
          have hB:=hcont sg htb (hg4 _ _ _ hrb);refine VC.ix Cs (by omega) (by omega) ?_;refine ld1 (v:=.bool vb) ct4 (by rw [hB.cell,Aa4,Aa8,Aa3,Aa6,hvb];rfl) trivial ?_;refine ixE (T:=A1) (j:=q) Cs sg (ps.length+1) Ek (by rw [A7];omega) rfl ?_;refine Gt sg (q:=q) (by rw [A7];omega) fun G3 sg4=>?_;rw [fin _ (by cases vb<;>rfl)]at sg4;(conv=>whnf);rw [w64 (x:=(q:Int)+1) (by omega) (by omega)];exact⟨rfl,q+1,rfl,⟨by omega,by omega,m3,hg4,sg4⟩,by omega⟩
        | false=>
          refine ixE (T:=A1) (j:=q) Cs sg (ps.length+1) Ek (by rw [A7];omega) rfl ?_;refine Gt sg (q:=q) (by rw [A7];omega) fun G3 sg4=>?_;rw [fin _ (by cases vb<;>rfl)]at sg4;(conv=>whnf);rw [w64 (x:=(q:Int)+1) (by omega) (by omega)];exact⟨rfl,q+1,rfl,⟨by omega,by omega,m3,hg4,sg4⟩,by omega⟩
       ·obtain rfl:q=s.size+1:=by omega
        have e9:=Jz (l:=byN s) (a:=a) (b:=b) (i:=i) (fun p q=>p&& !q) PJ;rw [show(byN s).length+1=s.size+1 by omega]at e9;rw [e9]at sg;(conv=>whnf);exact⟨rfl,(),rfl,m3,(hg1.trans hg2).trans hg4,sg⟩
noncomputable def SL(l:List Nat)(r:ReM):Bool:= @decide (Mt l r 0 l.length) (Classical.propDecidable _)
theorem U3(l:List Nat)(r:ReM):SL l r=true↔Mt l r 0 l.length:= @decide_eq_true_iff _ (Classical.propDecidable _)
theorem EZ{ns:List RnM}:∀{r:ReM} {i:Nat},Ba ns r i→r.plain=false→∃d∈ns,d.op=5∨d.op=6
 | .eps,_,_,h=>by cases h
 | .cls _,_,_,h=>by cases h
 | .cat a b,_,⟨d,j,k,h1,h2,h3,h4,h5,h6⟩,h=>by
   simp only [ReM.plain,AaW]at h;rcases h with h | h
   ·exact EZ h5 h
   ·exact EZ h6 h
 | .alt a b,_,⟨d,j,k,h1,h2,h3,h4,h5,h6⟩,h=>by
   simp only [ReM.plain,AaW]at h;rcases h with h | h
   ·exact EZ h5 h
   ·exact EZ h6 h
 | .star a,_,⟨d,j,h1,h2,h3,h5⟩,h=>EZ h5 (by simpa only [ReM.plain]using h)
 | .and_ a b,_,⟨d,j,k,h1,h2,_⟩,_=>⟨d,AaA h1,.inl h2⟩
 | .minus a b,_,⟨d,j,k,h1,h2,_⟩,_=>⟨d,AaA h1,.inr h2⟩
theorem M6{ns:List RnM}{r:ReM}{i:Nat}(ht:Ba ns r i)(hs:P8 r ns):(ns.all fun d=> !(d.op==5|| d.op==6))=r.plain:=by
 cases hp:r.plain with
 | true=>
   rw [List.all_eq_true];intro d hd;have:=hs hp d hd;simp [this.1,this.2]
 | false=>
   obtain⟨d,hd,h⟩:=EZ ht hp;rw [AaY];refine⟨d,hd,?_⟩;rcases h with h | h<;>simp [h]
theorem U5{S:Nat→Prop}{H:Aa}{v:Value}{ns:List RnM}{Av:Nat}{s:ByteArray}{r:ReM}(hS:∀k,S k→k<H.size)(hv:ReV S H v ns (Av:Int))(ht:Ba ns r Av)(hs:s.size≤4194303):
  B8 Tryz.prog 41 #[v,.string s] H (.bool (SL (byN s) r)):=by
 have hN:ns.length≤4194304:=hv.1;have hbl:=Ky s;refine Al.of_vc Tryz.func41 rfl (Tryz.call41 _) (Q2 hv fun na nc hv' hD=>?_);intro b0 H1 hq1 hs1 hb1 ha1;have st1:=(St.nil H).box hq1 hs1 hb1 ha1;have hb:=st1.blk 0 rfl;have hpl:=hb.lt;refine Ar.heldZ (Old H1) [] (sq [0,1,3,4,6,7] (.f 2 (.f 5 (sq [8] (.f 9 (.f 10 .e)))))) rfl (by kernel_rfl) (CB (S:=S) hN hb Dr hpl (hD.frame (st1.old.mono hS)) fun v2 hv2=>(VC.fa Lw ?_));refine ld1 (v:=.int .i64 (Av:Int)) ct3 (by rw [hb.cell];rfl) hpl ?_;refine Ag.mk (XM (C3 ns (byN s)) (fun k hk=>st1.up (hS k hk)) hv2 hs) ?_;rintro _ H2 ⟨tb,mb,nbs,na2,nc2,rfl,hD2,hnl,stN⟩;refine⟨stN.old,?_⟩;refine Ag.mk (X8 (B:=Old H1) (kt:=0) (hD2.mono fun k hk=>st1.up (hS k hk)) hnl hN hs (r.nodes+1) r (by omega) stN rfl ht (i:=0) (AaK _)) ?_;rintro _ H3 ⟨m',rb,rfl,hrb,-,st3⟩;refine⟨st3.old,?_⟩;have hc:=(show FK _ _ _ _ _ _ from st3.at_ 0 rfl).cont _ _ _ hrb;rw [Ht ht]at hc;refine VC.ix Cs (by omega) (by omega) ?_;refine ld1 (v:=.bool (SL (byN s) r)) ct4 (by
  rw [hc.cell,Aa4,Aa8,Aa3,Aa6,Fs _ (show s.size≤(byN s).length by omega)];unfold SL;rw [hbl];rfl) trivial ?_
 refine⟨st3.old,?_⟩;(conv=>whnf);refine⟨st3.old,?_⟩;(conv=>whnf);exact⟨rfl,(st1.call st3.old).old⟩
structure Z6(B:Nat→Prop)(H:Aa)(s q2 q3 i:Nat)(t:ByteArray)(os:List Int)(ps:List Pc)(f:AF)(fs:List AF)(j:Nat)(any:Bool)(G:Aa):Prop where
 ex:∃(f':AF) (r:ReM) (B':Nat→Prop) (fn:Value) (a:Option Addr) (n cap:Nat),i≤j∧j≤t.size∧BE t ⟨i,f,fs⟩=BE t ⟨j,f',fs⟩∧(A0 f').row=(if any then some r else none)∧
  (any=false→r= .eps∧f'.factor=none)∧(any=true→EF (bt t j)=false)∧f'.alt=f.alt∧f'.meet=f.meet∧f'.sign=f.sign∧f'.place=f.place∧
  (∀k,B k→B' k)∧Agr B H G∧StB B' G G (sP s t j a n cap os ps++[pB 142 q2 Aj,pB 142 q3 (Ab r fn)])∧Cq B' G fn r
theorem Er{B:Nat→Prop}{H H':Aa}(hE:Fx H)(hB:B 0)(ha:Agr B H H'):Fx H':=by
 refine⟨hE.1.eq (ha _ hB),?_⟩;have h:=ha _ hB;rw [Array.getElem?_eq_getElem hE.2]at h;exact(Array.getElem?_eq_some_iff.1 h).1
theorem Pn{f:AF}(h:f.factor=none):A0 f=f:=by unfold A0;rw [h]
theorem FE(f:AF):(A0 f).alt=f.alt∧(A0 f).meet=f.meet∧(A0 f).sign=f.sign∧(A0 f).place=f.place:=by
 unfold A0;split<;>exact⟨rfl,rfl,rfl,rfl⟩
theorem UW{B:Nat→Prop}{H:Aa}{s i:Nat}{t:ByteArray}{os:List Int}{ps:List Pc}{f:AF}{fs:List AF}(hE:Fx H)(hEB:B 0)(ht:t.size≤1048576)(hi:i≤t.size)(hos:os.length=fs.length)(hfs:fs.length≤1000)
  (hrow:f.row=none) (hfac:f.factor=none) (IH:∀i',i<i'→IC t i') (sc:Sc B H s t i os ps):
  BC Tryz.prog 166 #[.pointer (some ⟨s,0,none⟩)] H
   (fun v H'=>∃j f' r,i≤j∧j≤t.size∧(j=t.size∨bt t j=124∨bt t j=38∨bt t j=45∨bt t j=41)∧BE t ⟨i,f,fs⟩=BE t ⟨j,f',fs⟩∧(A0 f').row.getD .eps=r∧
    f'.alt=f.alt∧f'.meet=f.meet∧f'.sign=f.sign∧f'.place=f.place∧SR B H s t j os ps r v H')
   (fun x H'=>SE B H t ⟨i,f,fs⟩ x H'):=by
 obtain⟨a,n,cap,st⟩:=sc;refine BC.of_vc Tryz.func166 rfl (Tryz.call166 _) (Ak (.agg Aj.toArray) Aj CM rfl ?_);intro q2 H1 hq1 hs1 hb1 ha1;have st1:=st.box hq1 hs1 hb1 ha1;refine A6 Tryz.underlying98 rfl _ rfl [] rfl (Ah.of (Ag.mk (Nu (r:=.eps) st1 rfl) ?_));rintro _ H2 ⟨B1,f1,rfl,s1,a2,st2,gs⟩;obtain⟨g1,c1,rfl⟩:=gs.fn;refine Ak (.agg Aj.toArray) Aj CM rfl ?_;intro q3 H3 hq3 hs3 hb3 ha3;have st3:=st2.box hq3 hs3 hb3 ha3;rw [AaM]at st3;replace st3:StB B1 H2 H3 (sP s t i a n cap os ps++[pB 142 q2 Aj,pB 142 q3 Aj]):=st3;refine Bf (cs:=Ab .eps (.func (.func g1) #[] c1)) st3 _ rfl (lgR _ _ 1) (by simp [Ab,Aj]) rfl fun H4 st4 ja4 js4=>?_;rw [lsR,Cd rfl]at st4;replace st4:StB B1 H2 H4 (sP s t i a n cap os ps++[pB 142 q2 Aj,pB 142 q3 (Ab .eps (.func (.func g1) #[] c1))]):=st4;(conv=>whnf);refine Ed.mk [4] (fun x:Nat×Bool=>match x with | (_,b)=>[.bool b]) (fun x G=>match x with | (j,b)=>Z6 B H s q2 q3 i t os ps f fs j b G) (fun x _=>match x with | (j,_)=>t.size - j) ?_ ?_
 ·(conv=>whnf);refine⟨(i,false),rfl,⟨f,.eps,B1,.func (.func g1) #[] c1,a,n,cap,Aa7 _,hi,rfl,by rw [Pn hfac];exact hrow,fun _=>⟨rfl,hfac⟩,fun h=>AaT h,rfl,rfl,rfl,rfl,s1,?_,st4.rebase,gs.frame st4.old fun k hk=>hk⟩⟩;exact(st1.old.trans (a2.mono fun k hk=>st1.up hk)).trans fun k hk=>st4.old k (s1 k hk)
 ·rintro⟨j,any⟩ G junk ⟨f',r,B2,f2,a2,n2,cap2,hij,hj,hpr,hr,hany,hpo,e1,e2,e3,e4,s2,ag,stg,gv⟩;obtain⟨gg,cc,rfl⟩:=gv.fn;clear st st1 st2 st3 st4 gs hb1 hb3 ha1 ha3;have hgd:(A0 f').row.getD .eps=r:=by
   rw [hr];cases any with
   | false=>exact(hany rfl).1.symm
   | true=>rfl
  refine Ah.of (Ao (Ep (stg.blk 0 rfl)) fun G1 hg1=>?_);have sg1:=stg.call hg1;by_cases h0:j<t.size
  ·rw [decide_eq_false (show¬t.size≤j by omega)];refine Ah.of (Ao (Df (sg1.blk 0 rfl) h0) fun G2 hg2=>?_);have sg2:=sg1.call hg2;refine AQ.run ?_;(conv=>whnf);by_cases h124:bt t j=124
   ·have d:(((bt t j:Nat):Int)==124)=true:=by rw [h124];rfl
    (conv=>whnf);rw [d];clear d;refine ldN (cs:=Ab r (.func (.func gg) #[] cc)) AO (Au (sg2.blk _ (lgR _ _ 1))) trivial (Bf (cs:=Ab r (.func (.func gg) #[] cc)) sg2 _ rfl (lgR _ _ 0) (by simp [Ab,Aj]) rfl fun G9 sg9 ja js=>?_);rw [lsR,Cd rfl]at sg9;refine ldN (cs:=Ab r (.func (.func gg) #[] cc)) AO (Au (sg9.blk _ (lgR _ _ 0))) trivial ?_;exact⟨j,f',r,hij,hj,.inr (.inl h124),hpr,hgd,e1,e2,e3,e4,B2,_,rfl,s2,ag.trans fun k hk=>sg9.old k (s2 k hk),⟨a2,n2,cap2,sg9.lft.rebase⟩,gv.frame sg9.old fun k hk=>hk⟩
   ·have d:(((bt t j:Nat):Int)==124)=false:=El h124;(conv=>whnf);rw [d];clear d;by_cases h38:bt t j=38
    ·have d:(((bt t j:Nat):Int)==38)=true:=by rw [h38];rfl
     (conv=>whnf);rw [d];clear d;refine ldN (cs:=Ab r (.func (.func gg) #[] cc)) AO (Au (sg2.blk _ (lgR _ _ 1))) trivial (Bf (cs:=Ab r (.func (.func gg) #[] cc)) sg2 _ rfl (lgR _ _ 0) (by simp [Ab,Aj]) rfl fun G9 sg9 ja js=>?_);rw [lsR,Cd rfl]at sg9;refine ldN (cs:=Ab r (.func (.func gg) #[] cc)) AO (Au (sg9.blk _ (lgR _ _ 0))) trivial ?_;exact⟨j,f',r,hij,hj,.inr (.inr (.inl h38)),hpr,hgd,e1,e2,e3,e4,B2,_,rfl,s2,ag.trans fun k hk=>sg9.old k (s2 k hk),⟨a2,n2,cap2,sg9.lft.rebase⟩,gv.frame sg9.old fun k hk=>hk⟩
    ·have d:(((bt t j:Nat):Int)==38)=false:=El h38;(conv=>whnf);rw [d];clear d;by_cases h45:bt t j=45
     ·have d:(((bt t j:Nat):Int)==45)=true:=by rw [h45];rfl
      (conv=>whnf);rw [d];clear d;refine ldN (cs:=Ab r (.func (.func gg) #[] cc)) AO (Au (sg2.blk _ (lgR _ _ 1))) trivial (Bf (cs:=Ab r (.func (.func gg) #[] cc)) sg2 _ rfl (lgR _ _ 0) (by simp [Ab,Aj]) rfl fun G9 sg9 ja js=>?_);rw [lsR,Cd rfl]at sg9;refine ldN (cs:=Ab r (.func (.func gg) #[] cc)) AO (Au (sg9.blk _ (lgR _ _ 0))) trivial ?_;exact⟨j,f',r,hij,hj,.inr (.inr (.inr (.inl h45))),hpr,hgd,e1,e2,e3,e4,B2,_,rfl,s2,ag.trans fun k hk=>sg9.old k (s2 k hk),⟨a2,n2,cap2,sg9.lft.rebase⟩,gv.frame sg9.old fun k hk=>hk⟩
     ·have d:(((bt t j:Nat):Int)==45)=false:=El h45;(conv=>whnf);rw [d];clear d;by_cases h41:bt t j=41
      ·have d:(((bt t j:Nat):Int)==41)=true:=by rw [h41];rfl
       (conv=>whnf);rw [d];clear d;refine ldN (cs:=Ab r (.func (.func gg) #[] cc)) AO (Au (sg2.blk _ (lgR _ _ 1))) trivial (Bf (cs:=Ab r (.func (.func gg) #[] cc)) sg2 _ rfl (lgR _ _ 0) (by simp [Ab,Aj]) rfl fun G9 sg9 ja js=>?_);rw [lsR,Cd rfl]at sg9;refine ldN (cs:=Ab r (.func (.func gg) #[] cc)) AO (Au (sg9.blk _ (lgR _ _ 0))) trivial ?_;exact⟨j,f',r,hij,hj,.inr (.inr (.inr (.inr h41))),hpr,hgd,e1,e2,e3,e4,B2,_,rfl,s2,ag.trans fun k hk=>sg9.old k (s2 k hk),⟨a2,n2,cap2,sg9.lft.rebase⟩,gv.frame sg9.old fun k hk=>hk⟩
      ·have d:(((bt t j:Nat):Int)==41)=false:=El h41;(conv=>whnf);rw [d];clear d;(conv=>whnf);try (refine AQ.run ?_)
       by_cases h42:bt t j=42
       ·have d:(((bt t j:Nat):Int)==42)=true:=by rw [h42];rfl
        (conv=>whnf);rw [d];clear d;refine VC.fa AC ?_;refine ld1 (v:=.int .i64 ((j:Nat):Int)) ct3 (by rw [(sg2.blk 0 rfl).cell];rfl) trivial ?_;refine Ah.mk (CC (c:=20) (e:=j)) (fun _ _ h=>h.elim) ?_;rintro _ _ ⟨rfl,rfl⟩;have hfn:f'.factor=none:=by
         cases any with
         | false=>exact(hany rfl).2
         | true=>have:=hpo rfl;rw [h42]at this;exact absurd this (by decide)
        exact⟨20,j,hpr.trans (DS (s:=⟨j,f',fs⟩) h0 (E3 (by rw [h42];rfl) hfn)),rfl,ag.trans fun k hk=>sg2.old k (s2 k hk)⟩
       ·have d:(((bt t j:Nat):Int)==42)=false:=El h42;(conv=>whnf);rw [d];clear d;by_cases h43:bt t j=43
        ·have d:(((bt t j:Nat):Int)==43)=true:=by rw [h43];rfl
         (conv=>whnf);rw [d];clear d;refine VC.fa AC ?_;refine ld1 (v:=.int .i64 ((j:Nat):Int)) ct3 (by rw [(sg2.blk 0 rfl).cell];rfl) trivial ?_;refine Ah.mk (CC (c:=20) (e:=j)) (fun _ _ h=>h.elim) ?_;rintro _ _ ⟨rfl,rfl⟩;have hfn:f'.factor=none:=by
          cases any with
          | false=>exact(hany rfl).2
          | true=>have:=hpo rfl;rw [h43]at this;exact absurd this (by decide)
         exact⟨20,j,hpr.trans (DS (s:=⟨j,f',fs⟩) h0 (E3 (by rw [h43];rfl) hfn)),rfl,ag.trans fun k hk=>sg2.old k (s2 k hk)⟩
        ·have d:(((bt t j:Nat):Int)==43)=false:=El h43;(conv=>whnf);rw [d];clear d;by_cases h63:bt t j=63
         ·have d:(((bt t j:Nat):Int)==63)=true:=by rw [h63];rfl
          (conv=>whnf);rw [d];clear d;refine VC.fa AC ?_;refine ld1 (v:=.int .i64 ((j:Nat):Int)) ct3 (by rw [(sg2.blk 0 rfl).cell];rfl) trivial ?_;refine Ah.mk (CC (c:=20) (e:=j)) (fun _ _ h=>h.elim) ?_;rintro _ _ ⟨rfl,rfl⟩;have hfn:f'.factor=none:=by
           cases any with
           | false=>exact(hany rfl).2
           | true=>have:=hpo rfl;rw [h63]at this;exact absurd this (by decide)
          exact⟨20,j,hpr.trans (DS (s:=⟨j,f',fs⟩) h0 (E3 (by rw [h63];rfl) hfn)),rfl,ag.trans fun k hk=>sg2.old k (s2 k hk)⟩
         ·have d:(((bt t j:Nat):Int)==63)=false:=El h63;(conv=>whnf);rw [d];clear d;by_cases h123:bt t j=123
          ·have d:(((bt t j:Nat):Int)==123)=true:=by rw [h123];rfl
           (conv=>whnf);rw [d];clear d;refine VC.fa AC ?_;refine ld1 (v:=.int .i64 ((j:Nat):Int)) ct3 (by rw [(sg2.blk 0 rfl).cell];rfl) trivial ?_;refine Ah.mk (CC (c:=20) (e:=j)) (fun _ _ h=>h.elim) ?_;rintro _ _ ⟨rfl,rfl⟩;have hfn:f'.factor=none:=by
            cases any with
            | false=>exact(hany rfl).2
            | true=>have:=hpo rfl;rw [h123]at this;exact absurd this (by decide)
           exact⟨20,j,hpr.trans (DS (s:=⟨j,f',fs⟩) h0 (E3 (by rw [h123];rfl) hfn)),rfl,ag.trans fun k hk=>sg2.old k (s2 k hk)⟩
          ·have d:(((bt t j:Nat):Int)==123)=false:=El h123;(conv=>whnf);rw [d];clear d;(conv=>whnf);try (refine AQ.run ?_)
           have hfb:Lt (bt t j):=⟨h124,h38,h45,h41,Jk h42 h43 h63 h123⟩;refine Ah.mk (Xt (f:=f') (fs:=fs) (Er hE hEB (ag.trans fun k hk=>sg2.old k (s2 k hk))) (s2 _ hEB) ht h0 hos hfs hfb (fun i' hi'=>IH i' (by omega)) (B:=B2) (ps:=ps++[pB 142 q2 Aj,pB 142 q3 (Ab r (.func (.func gg) #[] cc))]) ⟨a2,n2,cap2,sg2.rebase⟩) ?_ ?_
           rotate_left
           ·intro x G3 h;exact h.from hpr (ag.trans fun k hk=>sg2.old k (s2 k hk)) s2
           rintro _ G3 ⟨j1,r1,hj1,hj1t,hp1,⟨B3,f3,rfl,s3,a3,⟨a4,n4,cap4,sg3⟩,gv1⟩⟩;have ag2:Agr B H G2:=ag.trans fun k hk=>sg2.old k (s2 k hk);have ag3:Agr B H G3:=ag2.trans fun k hk=>a3 k (s2 k hk);have gv3:Cq B3 G3 (.func (.func gg) #[] cc) r:=gv.frame (sg2.old.trans a3) s3;replace sg3:StB B3 G3 G3 (sP s t j1 a4 n4 cap4 os ps++[pB 142 q2 Aj,pB 142 q3 (Ab r (.func (.func gg) #[] cc))]):=sg3;refine Ah.mk (SZ (k:=0) (f:={A0 f' with factor:=some r1}) (fs:=fs) (by omega) hj1t rfl sg3 rfl gv1) ?_ ?_
           rotate_left
           ·rintro x G4 ⟨c,p,h1,h2,h3⟩;exact⟨c,p,(hpr.trans hp1).trans h1,h2,ag3.trans fun k hk=>h3 k (s3 k (s2 k hk))⟩
           rintro _ G4 ⟨j2,r2,hj2,hj2t,hpo2,hp2,⟨B4,f4,rfl,s4,a5,sg4,gv2⟩⟩;have ag4:Agr B H G4:=ag3.trans fun k hk=>a5 k (s3 k (s2 k hk));have gv4:Cq B4 G4 (.func (.func gg) #[] cc) r:=gv3.frame a5 s4;obtain⟨g4,c4,rfl⟩:=gv2.fn;replace sg4:StB B4 G4 G4 (sP s t j2 a4 n4 cap4 os ps++[pB 142 q2 Aj,pB 142 q3 (Ab r (.func (.func gg) #[] cc))]):=sg4;refine Ak (.agg Aj.toArray) Aj CM rfl ?_;intro q5 G5 hq5 hs5 hb5 ha5;have sg5:=sg4.box hq5 hs5 hb5 ha5;rw [AaM]at sg5;refine Bf (cs:=Ab r2 (.func (.func g4) #[] c4)) sg5 _ rfl (lgR _ _ 2) (by simp [Ab,Aj]) rfl fun G6 sg6 ja6 js6=>?_;rw [lsR,Cd rfl]at sg6;replace sg6:StB B4 G4 G6 (sP s t j2 a4 n4 cap4 os ps++[pB 142 q2 Aj,pB 142 q3 (Ab r (.func (.func gg) #[] cc)),pB 142 q5 (Ab r2 (.func (.func g4) #[] c4))]):=sg6;have ag6:Agr B H G6:=ag4.trans fun k hk=>sg6.old k (s4 k (s3 k (s2 k hk)));have gv6:=gv4.frame sg6.old fun k hk=>hk;have gv26:=gv2.frame sg6.old fun k hk=>hk;have hp9:BE t ⟨i,f,fs⟩=BE t ⟨j2,{A0 f' with factor:=some r2},fs⟩:=hpr.trans (hp1.trans hp2);obtain⟨z1,z2,z3,z4⟩:=FE f';(conv=>whnf);cases any with
           | false=>
             replace hr:(A0 f').row=none:=hr;(conv=>whnf);try (refine AQ.run ?_)
             refine ldN (cs:=Ab (r2) (.func (.func g4) #[] c4)) AO (Au (sg6.blk _ (lgR _ _ 2))) trivial (Bf (cs:=Ab (r2) (.func (.func g4) #[] c4)) sg6 _ rfl (lgR _ _ 1) (by simp [Ab]) rfl fun G9 sg9 ja9 js9=>?_);rw [lsR]at sg9;have e9:Ae (Ab r (.func (.func gg) #[] cc)) 0 (Ab (r2) (.func (.func g4) #[] c4))=Ab (r2) (.func (.func g4) #[] c4):=Cd rfl;replace sg9:StB B4 _ G9 (sP s t j2 a4 n4 cap4 os ps++[pB 142 q2 Aj,pB 142 q3 (Ae (Ab r (.func (.func gg) #[] cc)) 0 (Ab (r2) (.func (.func g4) #[] c4))),pB 142 q5 (Ab (r2) (.func (.func g4) #[] c4))]):=sg9;rw [e9]at sg9;(conv=>whnf);refine⟨rfl,(j2,true),rfl,⟨{A0 f' with factor:=some r2},r2,B4,.func (.func g4) #[] c4,a4,n4,cap4,by omega,hj2t,hp9,?_,fun h=>AaT h,fun _=>hpo2,z1.trans e1,z2.trans e2,z3.trans e3,z4.trans e4,(fun k hk=>s4 k (s3 k (s2 k hk))),?_,(sg9.subl ((AaP _).2 (List.Sublist.cons_cons _ (List.Sublist.cons_cons _ (AaS _))))).rebase,?_⟩,?_⟩
             ·show some (TK (A0 f').row r2)=some (r2);rw [hr];rfl
             ·exact ag6.trans (ja9.mono fun k hk=>fun e=>(sg6.rng _ (AaI _ (AaB _ AaD)) k e).1 ((fun k hk=>s4 k (s3 k (s2 k hk))) k hk))
             ·exact gv26.frame (ja9.mono fun k hk=>fun e=>(sg6.rng _ (AaI _ (AaB _ AaD)) k e).1 hk) fun k hk=>hk
             ·show t.size - j2<t.size - j;omega
           | true=>
             replace hr:(A0 f').row=some r:=hr;(conv=>whnf);try (refine AQ.run ?_)
             refine ldN (cs:=Ab r (.func (.func gg) #[] cc)) AO (Au (sg6.blk _ (lgR _ _ 1))) trivial (ldN (cs:=Ab r2 (.func (.func g4) #[] c4)) AO (Au (sg6.blk _ (lgR _ _ 2))) trivial (Ah.of (Ag.mk (EA .cat sg6 gv6 gv26) ?_)));rintro _ G7 ⟨B7,f7,rfl,s7,a7,sg7,gj⟩;obtain⟨g7,c7,rfl⟩:=gj.fn;refine Bf (cs:=Ab (.cat r r2) (.func (.func g7) #[] c7)) sg7 _ rfl (lgR _ _ 2) (by simp [Ab]) rfl fun G8 sg8 ja8 js8=>?_;rw [lsR]at sg8;have e8:Ae (Ab r2 (.func (.func g4) #[] c4)) 0 (Ab (.cat r r2) (.func (.func g7) #[] c7))=Ab (.cat r r2) (.func (.func g7) #[] c7):=Cd rfl;replace sg8:StB B7 G7 G8 (sP s t j2 a4 n4 cap4 os ps++[pB 142 q2 Aj,pB 142 q3 (Ab r (.func (.func gg) #[] cc)),pB 142 q5 (Ae (Ab r2 (.func (.func g4) #[] c4)) 0 (Ab (.cat r r2) (.func (.func g7) #[] c7)))]):=sg8;rw [e8]at sg8;have s8:∀k,B k→B7 k:=fun k hk=>s7 k (s4 k (s3 k (s2 k hk)));have ag8:Agr B H G8:=(ag6.trans (a7.mono fun k hk=>sg6.up (s4 k (s3 k (s2 k hk))))).trans fun k hk=>sg8.old k (s8 k hk);have gj8:=gj.frame sg8.old fun k hk=>hk;refine ldN (cs:=Ab (.cat r r2) (.func (.func g7) #[] c7)) AO (Au (sg8.blk _ (lgR _ _ 2))) trivial (Bf (cs:=Ab (.cat r r2) (.func (.func g7) #[] c7)) sg8 _ rfl (lgR _ _ 1) (by simp [Ab]) rfl fun G9 sg9 ja9 js9=>?_);rw [lsR]at sg9;have e9:Ae (Ab r (.func (.func gg) #[] cc)) 0 (Ab (.cat r r2) (.func (.func g7) #[] c7))=Ab (.cat r r2) (.func (.func g7) #[] c7):=Cd rfl;replace sg9:StB B7 _ G9 (sP s t j2 a4 n4 cap4 os ps++[pB 142 q2 Aj,pB 142 q3 (Ae (Ab r (.func (.func gg) #[] cc)) 0 (Ab (.cat r r2) (.func (.func g7) #[] c7))),pB 142 q5 (Ab (.cat r r2) (.func (.func g7) #[] c7))]):=sg9;rw [e9]at sg9;(conv=>whnf);refine⟨rfl,(j2,true),rfl,⟨{A0 f' with factor:=some r2},.cat r r2,B7,.func (.func g7) #[] c7,a4,n4,cap4,by omega,hj2t,hp9,?_,fun h=>AaT h,fun _=>hpo2,z1.trans e1,z2.trans e2,z3.trans e3,z4.trans e4,s8,?_,(sg9.subl ((AaP _).2 (List.Sublist.cons_cons _ (List.Sublist.cons_cons _ (AaS _))))).rebase,?_⟩,?_⟩
             ·show some (TK (A0 f').row r2)=some (.cat r r2);rw [hr];rfl
             ·exact ag8.trans (ja9.mono fun k hk=>fun e=>(sg8.rng _ (AaI _ (AaB _ AaD)) k e).1 (s8 k hk))
             ·exact gj8.frame (ja9.mono fun k hk=>fun e=>(sg8.rng _ (AaI _ (AaB _ AaD)) k e).1 hk) fun k hk=>hk
             ·show t.size - j2<t.size - j;omega
  ·rw [decide_eq_true (show t.size≤j by omega)];refine ldN (cs:=Ab r (.func (.func gg) #[] cc)) AO (Au (sg1.blk _ (lgR _ _ 1))) trivial (Bf (cs:=Ab r (.func (.func gg) #[] cc)) sg1 _ rfl (lgR _ _ 0) (by simp [Ab,Aj]) rfl fun G9 sg9 ja js=>?_);rw [lsR,Cd rfl]at sg9;refine ldN (cs:=Ab r (.func (.func gg) #[] cc)) AO (Au (sg9.blk _ (lgR _ _ 0))) trivial ?_;exact⟨j,f',r,hij,hj,.inl (by omega),hpr,hgd,e1,e2,e3,e4,B2,_,rfl,s2,ag.trans fun k hk=>sg9.old k (s2 k hk),⟨a2,n2,cap2,sg9.lft.rebase⟩,gv.frame sg9.old fun k hk=>hk⟩
theorem Mh(f:AF):(A0 f).factor=none:=by
 unfold A0;split
 ·rename_i h;exact h
 ·rfl
theorem Dj(f:AF):(BY f).alt=f.alt∧(BY f).place=f.place∧(BY f).row=none∧(BY f).factor=none:=by
 obtain⟨h1,h2,h3,h4⟩:=FE f;exact⟨h1,h4,rfl,Mh f⟩
theorem JB(f:AF):(BY f).meet=some (match f.meet with | none=>(A0 f).row.getD .eps | some q=>if f.sign=38 then .and_ q ((A0 f).row.getD .eps)else .minus q ((A0 f).row.getD .eps)):=by
 obtain⟨h1,h2,h3,h4⟩:=FE f;show some (match(A0 f).meet with | none=>(A0 f).row.getD .eps | some q=>if(A0 f).sign=38 then .and_ q ((A0 f).row.getD .eps)else .minus q ((A0 f).row.getD .eps))=_;rw [h2,h3]
theorem Mm(f:AF):(Cr f).alt=some (match f.alt with | none=>(BY f).meet.getD .eps | some q=>.alt q ((BY f).meet.getD .eps)):=by
 obtain⟨h1,h2,h3,h4⟩:=Dj f;show some (match(BY f).alt with | none=>(BY f).meet.getD .eps | some q=>.alt q ((BY f).meet.getD .eps))=_;rw [h1]
theorem Ff(f:AF):(Cr f).meet=none∧(Cr f).place=f.place∧(Cr f).row=none∧(Cr f).factor=none:=by
 obtain⟨h1,h2,h3,h4⟩:=Dj f;exact⟨rfl,h2,h3,h4⟩
structure Yw(B:Nat→Prop)(H:Aa)(s q2 q3 i:Nat)(t:ByteArray)(os:List Int)(ps:List Pc)(f:AF)(fs:List AF)(j:Nat)(G:Aa):Prop where
 ex:∃(f':AF) (r:ReM) (B':Nat→Prop) (fn:Value) (a:Option Addr) (n cap:Nat),i≤j∧j≤t.size∧(j=t.size∨bt t j=124∨bt t j=38∨bt t j=45∨bt t j=41)∧BE t ⟨i,f,fs⟩=BE t ⟨j,f',fs⟩∧(BY f').meet=some r∧f'.alt=f.alt∧f'.place=f.place∧
  (∀k,B k→B' k)∧Agr B H G∧StB B' G G (sP s t j a n cap os ps++[pB 142 q2 Aj,pB 142 q3 (Ab r fn)])∧Cq B' G fn r
theorem OW{B:Nat→Prop}{H:Aa}{s i:Nat}{t:ByteArray}{os:List Int}{ps:List Pc}{f:AF}{fs:List AF}(hE:Fx H)(hEB:B 0)(ht:t.size≤1048576)(hi:i≤t.size)(hos:os.length=fs.length)(hfs:fs.length≤1000)
  (hmeet:f.meet=none) (hrow:f.row=none) (hfac:f.factor=none) (IH:∀i',i<i'→IC t i') (sc:Sc B H s t i os ps):
  BC Tryz.prog 128 #[.pointer (some ⟨s,0,none⟩)] H
   (fun v H'=>∃j f' r,i≤j∧j≤t.size∧(j=t.size∨bt t j=124∨bt t j=41)∧BE t ⟨i,f,fs⟩=BE t ⟨j,f',fs⟩∧(BY f').meet=some r∧f'.alt=f.alt∧f'.place=f.place∧SR B H s t j os ps r v H')
   (fun x H'=>SE B H t ⟨i,f,fs⟩ x H'):=by
 obtain⟨a,n,cap,st⟩:=sc;refine BC.of_vc Tryz.func128 rfl (Tryz.call128 _) (Ak (.agg Aj.toArray) Aj CM rfl ?_);intro q2 H1 hq1 hs1 hb1 ha1;have st1:=st.box hq1 hs1 hb1 ha1;refine Ah.mk (UW (f:=f) (fs:=fs) (Er hE hEB st1.old) hEB ht hi hos hfs hrow hfac IH (B:=B) (ps:=ps++[pB 142 q2 Aj]) ⟨a,n,cap,st1.rebase⟩) ?_ ?_
 rotate_left
 ·intro x H7 h;exact h.from rfl st1.old fun k hk=>hk
 rintro _ H2 ⟨j1,f1,r1,hij1,hj1,he1,hp1,hrw,e1,e2,e3,e5,⟨B1,f3,rfl,s1,a1,⟨a2,n2,cap2,st2⟩,gs⟩⟩;obtain⟨g1,c1,rfl⟩:=gs.fn;replace st2:StB B1 H2 H2 (sP s t j1 a2 n2 cap2 os ps++[pB 142 q2 Aj]):=st2;refine Ak (.agg Aj.toArray) Aj CM rfl ?_;intro q3 H3 hq3 hs3 hb3 ha3;have st3:=st2.box hq3 hs3 hb3 ha3;rw [AaM]at st3;replace st3:StB B1 H2 H3 (sP s t j1 a2 n2 cap2 os ps++[pB 142 q2 Aj,pB 142 q3 Aj]):=st3;refine Bf (cs:=Ab r1 (.func (.func g1) #[] c1)) st3 _ rfl (lgR _ _ 1) (by simp [Ab,Aj]) rfl fun H4 st4 ja4 js4=>?_;rw [lsR,Cd rfl]at st4;replace st4:StB B1 H2 H4 (sP s t j1 a2 n2 cap2 os ps++[pB 142 q2 Aj,pB 142 q3 (Ab r1 (.func (.func g1) #[] c1))]):=st4;have a14:Agr B H H4:=(st1.old.trans a1).trans fun k hk=>st4.old k (s1 k hk);(conv=>whnf);refine Ed.mk [] (fun _:Nat=>[]) (fun j G=>Yw B H s q2 q3 i t os ps f fs j G) (fun j _=>t.size - j) ?_ ?_
 ·(conv=>whnf);exact⟨j1,rfl,⟨f1,r1,B1,.func (.func g1) #[] c1,a2,n2,cap2,hij1,hj1,he1,hp1,by rw [JB,e2,hmeet,hrw],e1,e5,s1,a14,st4.rebase,gs.frame st4.old fun k hk=>hk⟩⟩
 ·rintro j G junk ⟨f',r,B2,f2,a2,n2,cap2,hij,hj,hend,hpr,hm,ha,e4,s2,ag,stg,gv⟩;obtain⟨gg,cc,rfl⟩:=gv.fn;clear st st1 st2 st3 st4 gs hb1 hb3 ha1 ha3 a1 a14 s1;refine Ah.of (Ao (Ep (stg.blk 0 rfl)) fun G1 hg1=>?_);have sg1:=stg.call hg1;by_cases h0:j<t.size
  ·rw [decide_eq_false (show¬t.size≤j by omega)];have hend:bt t j=124∨bt t j=38∨bt t j=45∨bt t j=41:=hend.resolve_left (by omega);refine Ah.of (Ao (Df (sg1.blk 0 rfl) h0) fun G2 hg2=>?_);have sg2:=sg1.call hg2;(conv=>whnf);try (refine AQ.run ?_)
   (conv=>whnf);by_cases h38:bt t j=38
   ·have d:(((bt t j:Nat):Int)==38)=true:=by rw [h38];rfl
    (conv=>whnf);rw [d];refine VC.fa AC ?_;refine ld1 (v:=.int .i64 ((j:Nat):Int)) ct3 (by rw [(sg2.blk 0 rfl).cell];rfl) trivial ?_;(conv=>whnf);rw [w64 (x:=((j:Nat):Int)+1) (by omega) (by omega)];refine VC.fa AC (AT sg2 0 ct3 rfl (by simp) rfl fun G3 sg3=>?_);replace sg3:StB B2 G G3 (sP s t (j+1) a2 n2 cap2 os ps++[pB 142 q2 Aj,pB 142 q3 (Ab r (.func (.func gg) #[] cc))]):=sg3;have ag3:Agr B H G3:=ag.trans fun k hk=>sg3.old k (s2 k hk);have gv3:=gv.frame sg3.old fun k hk=>hk;have hstep:BE t ⟨i,f,fs⟩=BE t ⟨j+1,{BY f' with sign:=38},fs⟩:=hpr.trans (DA (s:=⟨j,f',fs⟩) h0 (by have:=Gy (t:=t) (i:=j) (f:=f') (fs:=fs) (.inl h38);rw [h38]at this;exact this));refine Ce.held (fun k=>k=q3) [4] (sq [0,1] (.f 2 (.f 3 (.f 4 .e)))) (CQ _ _) rfl (by kernel_rfl) (ldN (cs:=Ab r (.func (.func gg) #[] cc)) AO (Au (sg3.blk _ (lgR _ _ 1))) rfl (Ah.mk (UW (f:={BY f' with sign:=38}) (fs:=fs) (Er hE hEB ag3) (s2 _ hEB) ht (by omega) hos hfs rfl (Dj f').2.2.2 (fun i' hi'=>IH i' (by omega)) (B:=B2) (ps:=ps++[pB 142 q2 Aj,pB 142 q3 (Ab r (.func (.func gg) #[] cc))]) ⟨a2,n2,cap2,sg3.rebase⟩) ?_ ?_))
    rotate_left
    ·intro x H7 h;exact h.from hstep ag3 s2
    rintro _ G4 ⟨j1,f1,r2,hij1,hj1,he1,hp1,hrw,e1,e2,e3,e5,⟨B3,f3,rfl,s3,a3,⟨a4,n4,cap4,sg4⟩,gs⟩⟩;replace sg4:StB B3 G4 G4 (sP s t j1 a4 n4 cap4 os ps++[pB 142 q2 Aj,pB 142 q3 (Ab r (.func (.func gg) #[] cc))]):=sg4;refine⟨fun k hk=>by rw [show k=q3 from hk];exact(sg4.blk _ (lgR _ _ 1)).trans (sg3.blk _ (lgR _ _ 1)).symm,?_⟩;have ag4:Agr B H G4:=ag3.trans fun k hk=>a3 k (s2 k hk);refine Ah.of (Ag.mk (EA .and_ sg4 (gv3.frame a3 s3) gs) ?_);rintro _ G5 ⟨B5,f5,rfl,s5,a5,sg5,gj⟩;refine⟨fun k hk=>by rw [show k=q3 from hk];exact(sg5.blk _ (lgR _ _ 1)).trans (sg3.blk _ (lgR _ _ 1)).symm,?_⟩;obtain⟨g5,c5,rfl⟩:=gj.fn;refine Bf (cs:=Ab (opR .and_ r r2) (.func (.func g5) #[] c5)) sg5 _ rfl (lgR _ _ 1) (by simp [Ab]) rfl fun G6 sg6 ja6 js6=>?_;rw [lsR]at sg6;have e6:Ae (Ab r (.func (.func gg) #[] cc)) 0 (Ab (opR .and_ r r2) (.func (.func g5) #[] c5))=Ab (opR .and_ r r2) (.func (.func g5) #[] c5):=Cd rfl;replace sg6:StB B5 G5 G6 (sP s t j1 a4 n4 cap4 os ps++[pB 142 q2 Aj,pB 142 q3 (Ae (Ab r (.func (.func gg) #[] cc)) 0 (Ab (opR .and_ r r2) (.func (.func g5) #[] c5)))]):=sg6;rw [e6]at sg6;have s6:∀k,B k→B5 k:=fun k hk=>s5 k (s3 k (s2 k hk));have ag6:Agr B H G6:=(ag4.trans (a5.mono fun k hk=>sg4.up (s3 k (s2 k hk)))).trans fun k hk=>sg6.old k (s6 k hk);(conv=>whnf);refine⟨rfl,j1,rfl,⟨f1,opR .and_ r r2,B5,.func (.func g5) #[] c5,a4,n4,cap4,by omega,hj1,he1,hstep.trans hp1,by rw [JB,e2,e3,show({BY f' with sign:=38}:AF).meet=(BY f').meet from rfl,hm];show some (if 38=38 then _ else _)=_;rw [if_pos rfl,hrw];rfl,e1.trans ((Dj f').1.trans ha),e5.trans ((Dj f').2.1.trans e4),s6,ag6,sg6.rebase,gj.frame sg6.old fun k hk=>hk⟩,by omega⟩
   ·have d:(((bt t j:Nat):Int)==38)=false:=El h38;(conv=>whnf);rw [d];clear d;by_cases h45:bt t j=45
    ·have d:(((bt t j:Nat):Int)==45)=true:=by rw [h45];rfl
     (conv=>whnf);rw [d];refine VC.fa AC ?_;refine ld1 (v:=.int .i64 ((j:Nat):Int)) ct3 (by rw [(sg2.blk 0 rfl).cell];rfl) trivial ?_;(conv=>whnf);rw [w64 (x:=((j:Nat):Int)+1) (by omega) (by omega)];refine VC.fa AC (AT sg2 0 ct3 rfl (by simp) rfl fun G3 sg3=>?_);replace sg3:StB B2 G G3 (sP s t (j+1) a2 n2 cap2 os ps++[pB 142 q2 Aj,pB 142 q3 (Ab r (.func (.func gg) #[] cc))]):=sg3;have ag3:Agr B H G3:=ag.trans fun k hk=>sg3.old k (s2 k hk);have gv3:=gv.frame sg3.old fun k hk=>hk;have hstep:BE t ⟨i,f,fs⟩=BE t ⟨j+1,{BY f' with sign:=45},fs⟩:=hpr.trans (DA (s:=⟨j,f',fs⟩) h0 (by have:=Gy (t:=t) (i:=j) (f:=f') (fs:=fs) (.inr h45);rw [h45]at this;exact this));refine Ce.held (fun k=>k=q3) [4] (sq [0,1] (.f 2 (.f 3 (.f 4 .e)))) (CQ _ _) rfl (by kernel_rfl) (ldN (cs:=Ab r (.func (.func gg) #[] cc)) AO (Au (sg3.blk _ (lgR _ _ 1))) rfl (Ah.mk (UW (f:={BY f' with sign:=45}) (fs:=fs) (Er hE hEB ag3) (s2 _ hEB) ht (by omega) hos hfs rfl (Dj f').2.2.2 (fun i' hi'=>IH i' (by omega)) (B:=B2) (ps:=ps++[pB 142 q2 Aj,pB 142 q3 (Ab r (.func (.func gg) #[] cc))]) ⟨a2,n2,cap2,sg3.rebase⟩) ?_ ?_))
     rotate_left
     ·intro x H7 h;exact h.from hstep ag3 s2
     rintro _ G4 ⟨j1,f1,r2,hij1,hj1,he1,hp1,hrw,e1,e2,e3,e5,⟨B3,f3,rfl,s3,a3,⟨a4,n4,cap4,sg4⟩,gs⟩⟩;replace sg4:StB B3 G4 G4 (sP s t j1 a4 n4 cap4 os ps++[pB 142 q2 Aj,pB 142 q3 (Ab r (.func (.func gg) #[] cc))]):=sg4;refine⟨fun k hk=>by rw [show k=q3 from hk];exact(sg4.blk _ (lgR _ _ 1)).trans (sg3.blk _ (lgR _ _ 1)).symm,?_⟩;have ag4:Agr B H G4:=ag3.trans fun k hk=>a3 k (s2 k hk);refine Ah.of (Ag.mk (EA .minus sg4 (gv3.frame a3 s3) gs) ?_);rintro _ G5 ⟨B5,f5,rfl,s5,a5,sg5,gj⟩;refine⟨fun k hk=>by rw [show k=q3 from hk];exact(sg5.blk _ (lgR _ _ 1)).trans (sg3.blk _ (lgR _ _ 1)).symm,?_⟩;obtain⟨g5,c5,rfl⟩:=gj.fn;refine Bf (cs:=Ab (opR .minus r r2) (.func (.func g5) #[] c5)) sg5 _ rfl (lgR _ _ 1) (by simp [Ab]) rfl fun G6 sg6 ja6 js6=>?_;rw [lsR]at sg6;have e6:Ae (Ab r (.func (.func gg) #[] cc)) 0 (Ab (opR .minus r r2) (.func (.func g5) #[] c5))=Ab (opR .minus r r2) (.func (.func g5) #[] c5):=Cd rfl;replace sg6:StB B5 G5 G6 (sP s t j1 a4 n4 cap4 os ps++[pB 142 q2 Aj,pB 142 q3 (Ae (Ab r (.func (.func gg) #[] cc)) 0 (Ab (opR .minus r r2) (.func (.func g5) #[] c5)))]):=sg6;rw [e6]at sg6;have s6:∀k,B k→B5 k:=fun k hk=>s5 k (s3 k (s2 k hk));have ag6:Agr B H G6:=(ag4.trans (a5.mono fun k hk=>sg4.up (s3 k (s2 k hk)))).trans fun k hk=>sg6.old k (s6 k hk);(conv=>whnf);refine⟨rfl,j1,rfl,⟨f1,opR .minus r r2,B5,.func (.func g5) #[] c5,a4,n4,cap4,by omega,hj1,he1,hstep.trans hp1,by rw [JB,e2,e3,show({BY f' with sign:=45}:AF).meet=(BY f').meet from rfl,hm];show some (if 45=38 then _ else _)=_;rw [if_neg (by decide),hrw];rfl,e1.trans ((Dj f').1.trans ha),e5.trans ((Dj f').2.1.trans e4),s6,ag6,sg6.rebase,gj.frame sg6.old fun k hk=>hk⟩,by omega⟩
    ·have d:(((bt t j:Nat):Int)==45)=false:=El h45;(conv=>whnf);rw [d];refine ldN (cs:=Ab r (.func (.func gg) #[] cc)) AO (Au (sg2.blk _ (lgR _ _ 1))) trivial (Bf (cs:=Ab r (.func (.func gg) #[] cc)) sg2 _ rfl (lgR _ _ 0) (by simp [Ab,Aj]) rfl fun G9 sg9 ja js=>?_);rw [lsR,Cd rfl]at sg9;refine ldN (cs:=Ab r (.func (.func gg) #[] cc)) AO (Au (sg9.blk _ (lgR _ _ 0))) trivial ?_;exact⟨j,f',r,hij,hj,by omega,hpr,hm,ha,e4,B2,_,rfl,s2,ag.trans fun k hk=>sg9.old k (s2 k hk),⟨a2,n2,cap2,sg9.lft.rebase⟩,gv.frame sg9.old fun k hk=>hk⟩
  ·rw [decide_eq_true (show t.size≤j by omega)];refine ldN (cs:=Ab r (.func (.func gg) #[] cc)) AO (Au (sg1.blk _ (lgR _ _ 1))) trivial (Bf (cs:=Ab r (.func (.func gg) #[] cc)) sg1 _ rfl (lgR _ _ 0) (by simp [Ab,Aj]) rfl fun G9 sg9 ja js=>?_);rw [lsR,Cd rfl]at sg9;refine ldN (cs:=Ab r (.func (.func gg) #[] cc)) AO (Au (sg9.blk _ (lgR _ _ 0))) trivial ?_;exact⟨j,f',r,hij,hj,by omega,hpr,hm,ha,e4,B2,_,rfl,s2,ag.trans fun k hk=>sg9.old k (s2 k hk),⟨a2,n2,cap2,sg9.lft.rebase⟩,gv.frame sg9.old fun k hk=>hk⟩
structure Zx(B:Nat→Prop)(H:Aa)(s q2 q3 i:Nat)(t:ByteArray)(os:List Int)(ps:List Pc)(f:AF)(fs:List AF)(j:Nat)(G:Aa):Prop where
 ex:∃(f':AF) (r:ReM) (B':Nat→Prop) (fn:Value) (a:Option Addr) (n cap:Nat),i≤j∧j≤t.size∧(j=t.size∨bt t j=124∨bt t j=41)∧BE t ⟨i,f,fs⟩=BE t ⟨j,f',fs⟩∧(Cr f').alt=some r∧f'.place=f.place∧
  (∀k,B k→B' k)∧Agr B H G∧StB B' G G (sP s t j a n cap os ps++[pB 142 q2 Aj,pB 142 q3 (Ab r fn)])∧Cq B' G fn r
theorem T5{B:Nat→Prop}{H:Aa}{s i:Nat}{t:ByteArray}{os:List Int}{ps:List Pc}{f:AF}{fs:List AF}(hE:Fx H)(hEB:B 0)(ht:t.size≤1048576)(hi:i≤t.size)(hos:os.length=fs.length)(hfs:fs.length≤1000)
  (halt:f.alt=none) (hmeet:f.meet=none) (hrow:f.row=none) (hfac:f.factor=none) (IH:∀i',i<i'→IC t i') (sc:Sc B H s t i os ps):
  BC Tryz.prog 72 #[.pointer (some ⟨s,0,none⟩)] H
   (fun v H'=>∃j f' r,i≤j∧j≤t.size∧(j=t.size∨bt t j=41)∧BE t ⟨i,f,fs⟩=BE t ⟨j,f',fs⟩∧(Cr f').alt=some r∧f'.place=f.place∧SR B H s t j os ps r v H')
   (fun x H'=>SE B H t ⟨i,f,fs⟩ x H'):=by
 obtain⟨a,n,cap,st⟩:=sc;refine BC.of_vc Tryz.func72 rfl (Tryz.call72 _) (Ak (.agg Aj.toArray) Aj CM rfl ?_);intro q2 H1 hq1 hs1 hb1 ha1;have st1:=st.box hq1 hs1 hb1 ha1;refine Ah.mk (OW (f:=f) (fs:=fs) (Er hE hEB st1.old) hEB ht hi hos hfs hmeet hrow hfac IH (B:=B) (ps:=ps++[pB 142 q2 Aj]) ⟨a,n,cap,st1.rebase⟩) ?_ ?_
 rotate_left
 ·intro x H7 h;exact h.from rfl st1.old fun k hk=>hk
 rintro _ H2 ⟨j1,f1,r1,hij1,hj1,he1,hp1,hrw,e1,e5,⟨B1,f3,rfl,s1,a1,⟨a2,n2,cap2,st2⟩,gs⟩⟩;obtain⟨g1,c1,rfl⟩:=gs.fn;replace st2:StB B1 H2 H2 (sP s t j1 a2 n2 cap2 os ps++[pB 142 q2 Aj]):=st2;refine Ak (.agg Aj.toArray) Aj CM rfl ?_;intro q3 H3 hq3 hs3 hb3 ha3;have st3:=st2.box hq3 hs3 hb3 ha3;rw [AaM]at st3;replace st3:StB B1 H2 H3 (sP s t j1 a2 n2 cap2 os ps++[pB 142 q2 Aj,pB 142 q3 Aj]):=st3;refine Bf (cs:=Ab r1 (.func (.func g1) #[] c1)) st3 _ rfl (lgR _ _ 1) (by simp [Ab,Aj]) rfl fun H4 st4 ja4 js4=>?_;rw [lsR,Cd rfl]at st4;replace st4:StB B1 H2 H4 (sP s t j1 a2 n2 cap2 os ps++[pB 142 q2 Aj,pB 142 q3 (Ab r1 (.func (.func g1) #[] c1))]):=st4;have a14:Agr B H H4:=(st1.old.trans a1).trans fun k hk=>st4.old k (s1 k hk);(conv=>whnf);refine Ed.mk [] (fun _:Nat=>[]) (fun j G=>Zx B H s q2 q3 i t os ps f fs j G) (fun j _=>t.size - j) ?_ ?_
 ·(conv=>whnf);exact⟨j1,rfl,⟨f1,r1,B1,.func (.func g1) #[] c1,a2,n2,cap2,hij1,hj1,he1,hp1,by rw [Mm,e1,halt,hrw];rfl,e5,s1,a14,st4.rebase,gs.frame st4.old fun k hk=>hk⟩⟩
 ·rintro j G junk ⟨f',r,B2,f2,a2,n2,cap2,hij,hj,hend,hpr,hm,e4,s2,ag,stg,gv⟩;obtain⟨gg,cc,rfl⟩:=gv.fn;clear st st1 st2 st3 st4 gs hb1 hb3 ha1 ha3 a1 a14 s1;refine Ah.of (Ao (Ep (stg.blk 0 rfl)) fun G1 hg1=>?_);have sg1:=stg.call hg1;by_cases h0:j<t.size
  ·rw [decide_eq_false (show¬t.size≤j by omega)];have hend:bt t j=124∨bt t j=41:=hend.resolve_left (by omega);refine Ah.of (Ao (Df (sg1.blk 0 rfl) h0) fun G2 hg2=>?_);have sg2:=sg1.call hg2;(conv=>whnf);try (refine AQ.run ?_)
   (conv=>whnf);by_cases h124:bt t j=124
   ·have d:(((bt t j:Nat):Int)==124)=true:=by rw [h124];rfl
    (conv=>whnf);rw [d];refine VC.fa AC ?_;refine ld1 (v:=.int .i64 ((j:Nat):Int)) ct3 (by rw [(sg2.blk 0 rfl).cell];rfl) trivial ?_;(conv=>whnf);rw [w64 (x:=((j:Nat):Int)+1) (by omega) (by omega)];refine VC.fa AC (AT sg2 0 ct3 rfl (by simp) rfl fun G3 sg3=>?_);replace sg3:StB B2 G G3 (sP s t (j+1) a2 n2 cap2 os ps++[pB 142 q2 Aj,pB 142 q3 (Ab r (.func (.func gg) #[] cc))]):=sg3;have ag3:Agr B H G3:=ag.trans fun k hk=>sg3.old k (s2 k hk);have gv3:=gv.frame sg3.old fun k hk=>hk;have hstep:BE t ⟨i,f,fs⟩=BE t ⟨j+1,Cr f',fs⟩:=hpr.trans (DA (s:=⟨j,f',fs⟩) h0 (M7 h124));refine Ce.held (fun k=>k=q3) [4] (sq [0,1] (.f 2 (.f 3 (.f 4 .e)))) (CQ _ _) rfl (by kernel_rfl) (ldN (cs:=Ab r (.func (.func gg) #[] cc)) AO (Au (sg3.blk _ (lgR _ _ 1))) rfl (Ah.mk (OW (f:=Cr f') (fs:=fs) (Er hE hEB ag3) (s2 _ hEB) ht (by omega) hos hfs (Ff f').1 (Ff f').2.2.1 (Ff f').2.2.2 (fun i' hi'=>IH i' (by omega)) (B:=B2) (ps:=ps++[pB 142 q2 Aj,pB 142 q3 (Ab r (.func (.func gg) #[] cc))]) ⟨a2,n2,cap2,sg3.rebase⟩) ?_ ?_))
    rotate_left
    ·intro x H7 h;exact h.from hstep ag3 s2
    rintro _ G4 ⟨j1,f1,r2,hij1,hj1,he1,hp1,hrw,e1,e5,⟨B3,f3,rfl,s3,a3,⟨a4,n4,cap4,sg4⟩,gs⟩⟩;replace sg4:StB B3 G4 G4 (sP s t j1 a4 n4 cap4 os ps++[pB 142 q2 Aj,pB 142 q3 (Ab r (.func (.func gg) #[] cc))]):=sg4;refine⟨fun k hk=>by rw [show k=q3 from hk];exact(sg4.blk _ (lgR _ _ 1)).trans (sg3.blk _ (lgR _ _ 1)).symm,?_⟩;have ag4:Agr B H G4:=ag3.trans fun k hk=>a3 k (s2 k hk);refine Ah.of (Ag.mk (EA .alt sg4 (gv3.frame a3 s3) gs) ?_);rintro _ G5 ⟨B5,f5,rfl,s5,a5,sg5,gj⟩;refine⟨fun k hk=>by rw [show k=q3 from hk];exact(sg5.blk _ (lgR _ _ 1)).trans (sg3.blk _ (lgR _ _ 1)).symm,?_⟩;obtain⟨g5,c5,rfl⟩:=gj.fn;refine Bf (cs:=Ab (opR .alt r r2) (.func (.func g5) #[] c5)) sg5 _ rfl (lgR _ _ 1) (by simp [Ab]) rfl fun G6 sg6 ja6 js6=>?_;rw [lsR]at sg6;have e6:Ae (Ab r (.func (.func gg) #[] cc)) 0 (Ab (opR .alt r r2) (.func (.func g5) #[] c5))=Ab (opR .alt r r2) (.func (.func g5) #[] c5):=Cd rfl;replace sg6:StB B5 G5 G6 (sP s t j1 a4 n4 cap4 os ps++[pB 142 q2 Aj,pB 142 q3 (Ae (Ab r (.func (.func gg) #[] cc)) 0 (Ab (opR .alt r r2) (.func (.func g5) #[] c5)))]):=sg6;rw [e6]at sg6;have s6:∀k,B k→B5 k:=fun k hk=>s5 k (s3 k (s2 k hk));have ag6:Agr B H G6:=(ag4.trans (a5.mono fun k hk=>sg4.up (s3 k (s2 k hk)))).trans fun k hk=>sg6.old k (s6 k hk);(conv=>whnf);refine⟨rfl,j1,rfl,⟨f1,opR .alt r r2,B5,.func (.func g5) #[] c5,a4,n4,cap4,by omega,hj1,he1,hstep.trans hp1,by rw [Mm,e1,hm,hrw];rfl,e5.trans ((Ff f').2.1.trans e4),s6,ag6,sg6.rebase,gj.frame sg6.old fun k hk=>hk⟩,by omega⟩
   ·have d:(((bt t j:Nat):Int)==124)=false:=El h124;(conv=>whnf);rw [d];refine ldN (cs:=Ab r (.func (.func gg) #[] cc)) AO (Au (sg2.blk _ (lgR _ _ 1))) trivial (Bf (cs:=Ab r (.func (.func gg) #[] cc)) sg2 _ rfl (lgR _ _ 0) (by simp [Ab,Aj]) rfl fun G9 sg9 ja js=>?_);rw [lsR,Cd rfl]at sg9;refine ldN (cs:=Ab r (.func (.func gg) #[] cc)) AO (Au (sg9.blk _ (lgR _ _ 0))) trivial ?_;exact⟨j,f',r,hij,hj,by omega,hpr,hm,e4,B2,_,rfl,s2,ag.trans fun k hk=>sg9.old k (s2 k hk),⟨a2,n2,cap2,sg9.lft.rebase⟩,gv.frame sg9.old fun k hk=>hk⟩
  ·rw [decide_eq_true (show t.size≤j by omega)];refine ldN (cs:=Ab r (.func (.func gg) #[] cc)) AO (Au (sg1.blk _ (lgR _ _ 1))) trivial (Bf (cs:=Ab r (.func (.func gg) #[] cc)) sg1 _ rfl (lgR _ _ 0) (by simp [Ab,Aj]) rfl fun G9 sg9 ja js=>?_);rw [lsR,Cd rfl]at sg9;refine ldN (cs:=Ab r (.func (.func gg) #[] cc)) AO (Au (sg9.blk _ (lgR _ _ 0))) trivial ?_;exact⟨j,f',r,hij,hj,by omega,hpr,hm,e4,B2,_,rfl,s2,ag.trans fun k hk=>sg9.old k (s2 k hk),⟨a2,n2,cap2,sg9.lft.rebase⟩,gv.frame sg9.old fun k hk=>hk⟩
theorem QV{t:ByteArray}(ht:t.size≤1048576):∀(n i:Nat),t.size - i≤n→i≤t.size→IC t i
 | 0,i,hn,hi=>fun B H s os ps f fs hE hEB hi hos hfs h1 h2 h3 h4 sc=>T5 hE hEB ht hi hos hfs h1 h2 h3 h4 (fun i' hi'=>fun B H s os ps f fs _ _ hi2=>absurd hi2 (by omega)) sc
 | n+1,i,hn,hi=>fun B H s os ps f fs hE hEB hi hos hfs h1 h2 h3 h4 sc=>T5 hE hEB ht hi hos hfs h1 h2 h3 h4 (fun i' hi'=>by
    by_cases hle:i'≤t.size
    ·exact QV ht n i' (by omega) hle
    ·exact fun B H s os ps f fs _ _ hi2=>absurd hi2 (by omega)) sc
def M2(q2 q3:Nat)(v:Value)(c e:Nat):List Pc:=[pB 28 q2 [v],pB 68 q3 (An c e)]
theorem RM{H:Aa}{q2 q3:Nat}{K:Aa→Prop}(k:K H):Ew Tryz.prog 71 #[.pointer (some ⟨q2,0,none⟩),.pointer (some ⟨q3,0,none⟩)] .returning .returning H K:=by
 refine Ew.mk (R:=fun H'=>H'=H) (Gk (R:=fun H'=>H'=H) Tryz.func71 rfl ⟨⟨_,rfl⟩,rfl,rfl,rfl,rfl,rfl⟩ .ret rfl ?_) (fun H' h=>by rw [h];exact k);(conv=>whnf);refine⟨rfl,?_⟩;refine Uv Tryz.underlying20 ?_;(conv=>whnf)
theorem RL{B:Nat→Prop}{H0 H:Aa}{q2 q3 c e c0 e0:Nat}{v:Value}{ps:List Pc}{K:Aa→Prop}(st:StB B H0 H (M2 q2 q3 v c0 e0++ps))(k:∀H',StB B H0 H' (M2 q2 q3 .nilIface c e++ps)→K H'):
  Ew Tryz.prog 71 #[.pointer (some ⟨q2,0,none⟩),.pointer (some ⟨q3,0,none⟩)] (.panicking (pe (D5 c e))) (.panicking [{v:=D5 c e,recovered:=true}]) H K:=by
 refine Ew.mk (R:=fun H'=>StB B H0 H' (M2 q2 q3 .nilIface c e++ps)) (Gk (R:=fun H'=>StB B H0 H' (M2 q2 q3 .nilIface c e++ps)) Tryz.func71 rfl ⟨⟨_,rfl⟩,rfl,rfl,rfl,rfl,rfl⟩ (.pan _) rfl ?_) k;(conv=>whnf);refine⟨rfl,?_⟩;refine Uu Tryz.underlying20 (Ar.held (fun _=>False) 4 (sq [0,1] (.f 2 (.f 3 .e))) rfl (by kernel_rfl) (P0 Tryz.underlying68 (fun ms h=>by cases h) (AT st 0 EJ rfl (by simp) rfl fun H1 st1=>(⟨fun k hk=>hk.elim,?_⟩))));refine AI (cs:=An c e) st1 1 rfl rfl (Aa7 _) rfl fun H3 st3=>(⟨fun k hk=>hk.elim,?_⟩);(conv=>whnf);have e2:Ae (An c0 e0) 0 (An c e)=An c e:=A8 rfl;rw [e2]at st3;exact st3
def JU(t:ByteArray)(v:Value):Prop:=match D8 t with
 | .inl (c,p)=>v= .tuple #[.nilIface,.agg #[.int .i64 (c:Int),.int .i64 p,.string ⟨#[]⟩]]
 | .inr r=>v= .tuple #[A5 r,.agg #[.int .i64 0,.int .i64 0,.string ⟨#[]⟩]]
theorem VU:(Tryz.prog.info? 68).bind (·.zero)=some (Ej 0 0):=by kernel_rfl
theorem Hf{H:Aa}{b c e:Nat}(h:Blk H b 68 (An c e)):Bi H b 0 (An c e):=h.cells (fun j v hv=>by rw [Aa3];exact hv)
theorem RN{H:Aa}{t:ByteArray}(hE:Fx H):Al Tryz.prog 33 #[.string t] H fun v H'=>Agr (Old H) H H'∧JU t v:=by
 refine Al.of_defer Tryz.func33 rfl (Tryz.call33 _) ⟨rfl,rfl,rfl,⟨_,rfl⟩,rfl,rfl⟩ (fun vs w=>Tryz.call71 _ w) (Ak .nilIface [.nilIface] rfl rfl ?_);intro q2 H1 hq1 hs1 hb1 ha1;have st1:=(St.nil H).box hq1 hs1 hb1 ha1;refine Ak (Ej 0 0) (An 0 0) VU rfl ?_;intro q3 H2 hq2 hs2 hb2 ha2;have st2:=st1.box hq2 hs2 hb2 ha2;replace st2:StB (Old H) H H2 (M2 q2 q3 .nilIface 0 0):=st2;by_cases hbig:1048576<t.size
 ·have d1:decide (1048576<(t.size:Int))=true:=decide_eq_true (by omega);(conv=>whnf);rw [d1];refine A6 Tryz.underlying68 rfl _ rfl (An 1 0) rfl (AT st2 0 EJ rfl (by simp) rfl fun H3 st3=>(AI (cs:=An 1 0) st3 1 rfl rfl (Aa7 _) rfl fun H4 st4=>?_));have e2:Ae (An 0 0) 0 (An 1 0)=An 1 0:=A8 rfl;rw [e2]at st4;refine ld1 (v:=.nilIface) EJ (by rw [(st4.blk 0 rfl).cell];rfl) trivial ?_;refine ldN (cs:=An 1 0) Jw (Hf (st4.blk 1 rfl)) trivial (⟨st4.old,?_⟩);unfold JU D8;rw [if_pos hbig];rfl
 ·have d1:decide (1048576<(t.size:Int))=false:=decide_eq_false (by omega);have hpM:D8 t=BE t ⟨0,DR (-1),[]⟩:=by unfold D8;rw [if_neg hbig]
  have ans:∀{c p:Nat},BE t ⟨0,DR (-1),[]⟩= .inl (c,(p:Int))→JU t (.tuple #[.nilIface,Ej c p]):=fun h=>by
   unfold JU;rw [hpM,h];rfl
  (conv=>whnf);rw [d1];(conv=>whnf);refine⟨rfl,?_⟩;refine A6 Tryz.underlying139 rfl _ rfl (scL t 0 (.slice none 0 0)) rfl (B0 (scL t 0 (.slice none 0 0)) rfl ?_);intro s H3 hq3 hs3 hb3 ha3;have sx3:=((St.nil H2).box hq3 hs3 hb3 ha3).nils tPl 3;have a23:Agr (Old H2) H2 H3:=sx3.old;have hE2:Fx H2:=Er hE (B:=Old H) hE.2 st2.old;have hE3:Fx H3:=Er hE2 (B:=Old H2) hE2.2 a23;have hclos:∀{H4:Aa} {x:Value} (fr:Fr) (K:Aa→Prop),SE (Old H2) H3 t ⟨0,DR (-1),[]⟩ x H4→(∀(c p:Nat) (H5:Aa),JU t (.tuple #[.nilIface,Ej c p])→StB (Old H) H H5 (M2 q2 q3 .nilIface c p)→K H5)→
    Ew Tryz.prog 71 #[.pointer (some ⟨q2,0,none⟩),.pointer (some ⟨q3,0,none⟩)] (.panicking (pe x)) (.panicking [{v:=x,recovered:=true}]) H4 K:=fun fr K ⟨c,p,h1,h2,h3⟩ k=>by
   subst h2;exact RL (ps:=[]) (st2.call (a23.trans h3)) fun H5 st5=>k c p H5 (ans h1) st5
  refine Ah.mk (QV (by omega) t.size 0 (by omega) (by omega) (Old H2) H3 s [] [] (DR (-1)) [] hE3 hE2.2 (by omega) rfl (by decide) rfl rfl rfl rfl ⟨none,0,0,sx3.rebase⟩) ?_ ?_
  ·rintro _ H4 ⟨j,f',r,hij,hj,hend,hpr,hcl,hpl,⟨B1,f1,rfl,s1,a4,⟨a2,n2,cap2,st4⟩,gv⟩⟩;obtain⟨g1,c1,rfl⟩:=gv.fn;have a24:Agr (Old H2) H2 H4:=a23.trans a4;refine Ak (.agg Aj.toArray) Aj CM rfl ?_;intro q5 H5 hq5 hs5 hb5 ha5;have st5:=st4.box hq5 hs5 hb5 ha5;refine Bf (cs:=Ab r (.func (.func g1) #[] c1)) st5 2 rfl rfl (by simp [Ab,Aj]) rfl fun H6 st6 ja6 js6=>?_;replace st6:StB B1 H4 H6 [pSc s t j (.slice a2 n2 cap2),pS tPl 3 a2 n2 cap2 [],pB 142 q5 (Ae Aj 0 (Ab r (.func (.func g1) #[] c1)))]:=st6;rw [Cd rfl]at st6;have a26:Agr (Old H2) H2 H6:=a24.trans fun k hk=>st6.old k (s1 k hk);refine AQ.run (Ah.of (Ao (Ep (st6.blk 0 rfl)) fun H7 ha7=>?_));have st7:=st6.call ha7;have a27:Agr (Old H2) H2 H7:=a26.trans (ha7.mono fun k hk=>As a26 hk);by_cases h0:j<t.size
   ·have h41:bt t j=41:=by rcases hend with h | h;omega;exact h
    rw [decide_eq_false (show¬t.size≤j by omega)];refine VC.fa AC ?_;refine ld1 (v:=.int .i64 ((j:Nat):Int)) ct3 (by rw [(st7.blk 0 rfl).cell];rfl) trivial ?_;refine Ah.mk (CC (c:=20) (e:=j)) (fun _ _ h=>h.elim) ?_;rintro _ _ ⟨rfl,rfl⟩;(conv=>whnf);refine RL (ps:=[]) (st2.call a27) fun H8 st8=>?_;refine ld1 (v:=.nilIface) EJ (by rw [(st8.blk 0 rfl).cell];rfl) trivial ?_;refine ldN (cs:=An 20 j) Jw (Hf (st8.blk 1 rfl)) trivial ?_;exact⟨st8.old,ans (hpr.trans (DS (s:=⟨j,f',[]⟩) h0 (Jl h41)))⟩
   ·rw [decide_eq_true (show t.size≤j by omega)];have hfin:BE t ⟨0,DR (-1),[]⟩=(if 2000<r.nodes then .inl (24,0)else .inr r):=by
     rw [hpr,LB (s:=⟨j,f',[]⟩) h0];show(if 2000<((Cr f').alt.getD .eps).nodes then Sum.inl (24,0)else Sum.inr ((Cr f').alt.getD .eps))=_;rw [hcl];rfl
    have k5:Blk H7 q5 142 (Ab r (.func (.func g1) #[] c1)):=st7.blk 2 rfl;refine VC.fa K7 ?_;refine ld1 (v:=.int .i64 ((szR r:Nat):Int)) ct3 (by rw [k5.cell];rfl) trivial ?_;by_cases hn:2000<r.nodes
    ·have d2:decide (2000<((szR r:Nat):Int))=true:=decide_eq_true (by unfold szR;omega);rw [if_pos hn]at hfin;have st8:=st2.call a27;(conv=>whnf);rw [d2];refine A6 Tryz.underlying68 rfl _ rfl (An 24 0) rfl (AT st8 0 EJ rfl (by simp) rfl fun H9 st9=>(AI (cs:=An 24 0) st9 1 rfl rfl (Aa7 _) rfl fun H10 st10=>?_));have e2:Ae (An 0 0) 0 (An 24 0)=An 24 0:=A8 rfl;rw [e2]at st10;(conv=>whnf);refine RM ?_;refine ld1 (v:=.nilIface) EJ (by rw [(st10.blk 0 rfl).cell];rfl) trivial ?_;refine ldN (cs:=An 24 0) Jw (Hf (st10.blk 1 rfl)) trivial ?_;exact⟨st10.old,ans (c:=24) (p:=0) hfin⟩
    ·have d2:decide (2000<((szR r:Nat):Int))=false:=decide_eq_false (by unfold szR;omega);rw [if_neg hn]at hfin;(conv=>whnf);rw [d2];refine VC.fa K8 ?_;refine ld1 (v:=.func (.func g1) #[] c1) Re (by rw [k5.cell];rfl) trivial ?_;obtain⟨g2,c2,hgc,hgrow⟩:=XC (gv.frame st7.old fun k hk=>hk) (fun k hk=>st7.up hk);injection hgc with hg1 hg2 hg3
     injection hg1 with hg1
     subst hg1 hg3;(conv=>whnf);rw [Kz];refine Ah.of (Ao (hgrow H7 (Agr.refl _ _)) fun H8 ha8=>?_);have st8:=(st2.call a27).call ha8;obtain⟨T1,v1,e1⟩:=Fk r;refine A6 Tryz.underlying68 rfl _ rfl (An 0 0) rfl (AT st8 0 EJ rfl (by simp) (HJ r) fun H9 st9=>(AI (cs:=An 0 0) st9 1 rfl rfl (Aa7 _) rfl fun H10 st10=>?_));have e2:Ae (An 0 0) 0 (An 0 0)=An 0 0:=A8 rfl;rw [e2]at st10;(conv=>whnf);refine RM ?_;refine ld1 (v:=A5 r) EJ (by rw [(st10.blk 0 rfl).cell];rfl) trivial ?_;refine ldN (cs:=An 0 0) Jw (Hf (st10.blk 1 rfl)) trivial (⟨st10.old,?_⟩);unfold JU;rw [hpM,hfin];rfl
  ·intro x H4 h;(conv=>whnf);refine hclos [] _ h fun c p H5 hans st5=>?_;refine ld1 (v:=.nilIface) EJ (by rw [(st5.blk 0 rfl).cell];rfl) trivial ?_;refine ldN (cs:=An c p) Jw (Hf (st5.blk 1 rfl)) trivial ?_;exact⟨st5.old,hans⟩
def Kp(t:ByteArray)(f:AF):Prop:= -1≤f.place∧f.place≤(t.size:Int)
structure V3(t:ByteArray)(s:RdS):Prop where
 f:Kp t s.f
 fs:∀g∈s.fs,Kp t g
def V1(t:ByteArray)(c:Nat)(p:Int):Prop:=c≠0∧c≤30∧ -1≤p∧p≤(t.size:Int)+10
def ML(t:ByteArray):Sum (Nat×Int) ReM→Prop
 | .inl (c,p)=>V1 t c p
 | .inr r=>r.nodes≤2000
theorem Yl{t:ByteArray}{m i:Nat}{e:Nat×Nat}(h:upM t m i= .inl e):e.1=20∧e.2≤i+1:=by
 unfold upM at h;split at h
 ·split at h
  ·cases h
  ·split at h
   ·cases h
   ·cases h;exact⟨rfl,Aa7 _⟩
 ·cases h
theorem VO{t:ByteArray}{p m i:Nat}{n:Int}{e:Nat×Nat}(h:E9 t p m n i= .inl e):(e.1=20∧e.2=i)∨(e.1=22∧e.2=p):=by
 unfold E9 at h;split at h
 ·split at h
  ·cases h;exact .inr ⟨rfl,rfl⟩
  ·cases h
 ·cases h;exact .inl ⟨rfl,rfl⟩
theorem PK{t:ByteArray}{i:Nat}{e:Nat×Nat}(h:BF t i= .inl e):e.1≠0∧e.1≤30∧e.2≤i+10:=by
 unfold BF at h;split at h
 ·obtain⟨a1,a2,-⟩:=FA (t:=t) 3 (i+1) 0;generalize Bz t 3 (i+1) 0=q at*;split at h
  ·rename_i e2 hu;cases h;have:=Yl hu;refine⟨?_,?_,?_⟩<;>omega
  ·rename_i n2 i2 hu;have hi2:i2≤i+9:=by
    unfold upM at hu;split at hu
    ·split at hu
     ·cases hu;omega
     ·split at hu
      ·obtain⟨b1,b2,-⟩:=FA (t:=t) 3 (q.2+1) 0;cases hu;omega
      ·cases hu
    ·cases hu;omega
   rcases VO h with⟨h1,h2⟩ | ⟨h1,h2⟩
   ·refine⟨?_,?_,?_⟩<;>omega
   ·refine⟨?_,?_,?_⟩<;>omega
 ·cases h;exact⟨show(20:Nat)≠0 by decide,show(20:Nat)≤30 by decide,show i+1≤i+10 by omega⟩
theorem UN{t:ByteArray}{s:RdS}{e:Nat×Nat}(hi:s.i<t.size)(h:BO t s= .inl e):e.1≠0∧e.1≤30∧e.2≤t.size+10:=by
 have k:∀c:Nat,c≠0→c≤30→c≠0∧c≤30∧s.i≤t.size+10:=fun c h1 h2=>⟨h1,h2,by omega⟩;unfold BO at h;split at h
 ·split at h
  ·cases h;exact k 20 (by decide) (by decide)
  ·split at h
   ·rename_i e2 hp;cases h;unfold Ec at hp;split at hp
    ·cases hp
    ·split at hp
     ·cases hp
     ·split at hp
      ·cases hp
      ·have:=PK hp;exact⟨this.1,this.2.1,by omega⟩
   ·cases h
 ·split at h
  ·cases h
  ·split at h
   ·cases h
   ·split at h
    ·split at h
     ·cases h;exact k 20 (by decide) (by decide)
     ·cases h
    ·split at h
     ·split at h
      ·cases h;exact k 23 (by decide) (by decide)
      ·cases h
     ·split at h
      ·rename_i e2 hr;cases h;have:=LF hr hi;exact⟨show(10:Nat)≠0 by decide,show(10:Nat)≤30 by decide,by show e2≤_;omega⟩
      ·cases h
theorem M5{t:ByteArray}{f:AF}(h:Kp t f):Kp t (A0 f):=by unfold Kp;rw [(FE f).2.2.2];exact h
theorem Wy{t:ByteArray}{f:AF}(h:Kp t f):Kp t (BY f):=by unfold Kp;rw [(Dj f).2.1];exact h
theorem UK{t:ByteArray}{f:AF}(h:Kp t f):Kp t (Cr f):=by unfold Kp;rw [(Ff f).2.1];exact h
theorem UO{t:ByteArray}{s s':RdS}(hi:s.i<t.size)(hs:V3 t s)(h:BO t s= .inr s'):V3 t s':=by
 unfold BO at h;split at h
 ·split at h
  ·cases h
  ·split at h
   ·cases h
   ·cases h;exact⟨hs.f,hs.fs⟩
 ·split at h
  ·cases h;exact⟨UK hs.f,hs.fs⟩
  ·split at h
   ·cases h;exact⟨Wy hs.f,hs.fs⟩
   ·split at h
    ·split at h
     ·cases h
     ·rename_i g r hfs;cases h;have:=hs.fs;rw [hfs]at this;exact⟨this g AaD,fun x hx=>this x (AaB _ hx)⟩
    ·split at h
     ·split at h
      ·cases h
      ·cases h;refine⟨⟨by show(-1:Int)≤(s.i:Int);omega,by show(s.i:Int)≤_;omega⟩,fun g hg=>?_⟩;rcases AaF.1 hg with rfl | hg
       ·exact M5 hs.f
       ·exact hs.fs g hg
     ·split at h
      ·cases h
      ·cases h;exact⟨M5 hs.f,hs.fs⟩
theorem RO{t:ByteArray}{s:RdS}(hs:V3 t s):ML t (SS s):=by
 unfold SS;split
 ·show ML t (if _ then _ else _);split
  ·exact⟨by decide,by decide,by decide,by omega⟩
  ·rename_i h;show ReM.nodes _≤2000;omega
 ·have:=hs.f;unfold Kp at this;exact⟨by decide,by decide,this.1,by omega⟩
theorem OZ{t:ByteArray}:∀(n:Nat) (s:RdS),V3 t s→ML t (Ge t n s)
 | 0,s,h=>RO h
 | n+1,s,h=>by
   unfold Ge;by_cases hi:s.i<t.size
   ·rw [if_pos hi];cases hp:BO t s with
    | inl e=>
      have:=UN hi hp;exact⟨this.1,this.2.1,by show(-1:Int)≤(e.2:Int);omega,by show(e.2:Int)≤_;omega⟩
    | inr s'=>exact OZ n s' (UO hi h hp)
   ·rw [if_neg hi];exact RO h
theorem JI(t:ByteArray):ML t (D8 t):=by
 unfold D8;split
 ·exact⟨by decide,by decide,by decide,by omega⟩
 ·exact OZ _ _ ⟨⟨by decide,by show(-1:Int)≤_;omega⟩,fun g hg=>by cases hg⟩
theorem M3{t:ByteArray}{c:Nat}{p:Int}(h:D8 t= .inl (c,p)):p≤1048600:=by
 have h1:=JI t;rw [h]at h1;obtain⟨-,-,-,h4⟩:V1 t c p:=h1;unfold D8 at h;split at h
 ·cases h;decide
 ·omega
def fiL(c:Nat)(p:Int):List Value:=[.int .i64 (c:Int),.int .i64 p,.string ⟨#[]⟩]
def Iv(c:Nat)(p:Int):List Lit:=[.int .i64 (c:Int),.int .i64 p,.string []]
theorem Rr{c:Nat}{p:Int}(hc:c<9223372036854775808)(hp:inK .i64 p):Tryz.prog.keyLits 3 68 (fiL c p)=some (Iv c p):=by
 have c0:Tryz.prog.cellsOf 68=3:=by kernel_rfl
 have c1:Tryz.prog.cellsOf 24=1:=by kernel_rfl
 have c2:Tryz.prog.cellsOf 3=1:=by kernel_rfl
 have c3:Tryz.prog.cellsOf 9=1:=by kernel_rfl
 have h00:(⟨#[]⟩:ByteArray).size≤maxLen:=AaK _;simp [Program.keyLits,Tryz.underlying68,Tryz.underlying24,Tryz.underlying3,Tryz.underlying9,c0,c1,c2,c3,fiL,Iv,h00,KH (Bs hc),KH hp]
theorem PV{c c':Nat}{p p':Int}:decide (c=c'∧p=p')=true↔Iv c p=Iv c' p':=by
 unfold Iv;rw [decide_eq_true_eq];constructor
 ·rintro⟨rfl,rfl⟩;rfl
 ·intro h;simp only [List.cons.injEq,Lit.int.injEq,true_and,and_true]at h;exact⟨by omega,by omega⟩
theorem Rq{c c':Nat}{p p':Int}(hc:c<9223372036854775808)(hp:inK .i64 p)(hc':c'<9223372036854775808)(hp':inK .i64 p'){x y:Operand}{S:Nat→Prop}{H:Aa}{K:Value→Prop}(k:K (.bool (decide (c=c'∧p=p')))):
  AH Tryz.prog (do eqGuard .eql 68 x y (.agg (fiL c p).toArray) (.agg (fiL c' p').toArray);binOp .eql 68 (.agg (fiL c p).toArray) (.agg (fiL c' p').toArray)) S H K:=
 veq (m:=3) (la:=Iv c p) (lb:=Iv c' p') (by kernel_rfl) (by decide) (Tryz.eqGuardType68) rfl rfl (Rr hc hp) (Rr hc' hp') PV k
end Go.Proofs.YtfbghcpdinlmcaaGreatDoor
namespace Go.Proofs.YtfbghcpdinlmcaaGreatDoor
open Go.VC
def erI(bad:Bool):Int:=if bad then 30 else 0
def bdE(er:Bool)(n:Nat)(v sub:Value):List Value:=[.int .i64 (n:Int),.int .i64 0,.int .i64 0,v,sub,.int .i64 (erI er)]
section
variable{B:Nat→Prop}{H0 H:Aa}{rest:List Pc}{bb n:Nat}{v sub:Value}{er:Bool}
end
abbrev bdP(bb:Nat)(er:Bool)(n:Nat)(a:Option Addr)(c:Nat)(es:List EdM)(rest:List Pc):List Pc:=pB tBd bb (bdE er n (.slice a es.length c) .nilFunc)::pS tEd 174 a es.length c es::rest
structure PartW(B:Nat→Prop)(H0:Aa)(bb:Nat)(er:Bool)(n:Nat)(es:List EdM)(rest:List Pc)(r:ReM)(v:Value)(H':Aa):Prop where
 ex:∃(p q n':Nat) (es':List EdM) (a':Option Addr) (c':Nat),v= .tuple #[.int .i64 (p:Int),.int .i64 (q:Int)]∧p≤1000000∧q≤1000000∧n≤n'∧n'≤n+2*r.nodes∧es'.length≤es.length+4*r.nodes∧StB B H0 H' (bdP bb (er|| !r.plain) n' a' c' es' rest)
def Yz(H H':Aa)(r:ReM)(v:Value):Prop:=Agr (Old H) H H'∧∃ea ec,v= .tuple #[.agg (nfL (AA r) (.slice ea (AA r).edges.length ec)).toArray,.int .i64 0]∧SlO Cz none_ H' H.size 185 (.slice ea (AA r).edges.length ec) (AA r).edges
abbrev nfZ:List Value:=[.int .i64 0,.int .i64 0,.int .i64 0,.slice none 0 0]
theorem Yq{S:Nat→Prop}{H:Aa}{v:Value}{ns:List RnM}{Av:Int}{r:ReM}{i:Nat}(hpl:r.plain=true)(hn:r.nodes≤2000)(hS:∀k,S k→k<H.size)(hv:ReV S H v ns Av)(ht:Ba ns r i):
  Al Tryz.prog 86 #[v,.int .i64 (i:Int),.slice none 0 0] H fun u H'=>Yz H H' r u:=by
 have hst:=Dm r;have hin:=Bn r hpl 0;obtain⟨hl,na,nc,rfl,h1⟩:=hv;refine Al.of_vc Tryz.func86 rfl (Tryz.call86 _) (B0 (reL (.slice na ns.length nc) Av) rfl ?_);intro p H1 hp hs1 hb1 ha1;have st1:=(St.nil H).box hp hs1 hb1 ha1;refine Ak _ nfZ OR rfl ?_;intro y H2 hy hs2 hb2 ha2;have st2:=st1.box hy hs2 hb2 ha2;refine A6 Tryz.underlying81 rfl _ OR (dbL 0 (.slice none 0 0)) rfl (B0 (dbL 0 (.slice none 0 0)) rfl ?_);intro bb H3 hbb hs3 hb3 ha3;have st3:St H H3 (pB tDb bb (dbL 0 (.slice none 0 0))::pS Cz 185 none 0 0 []::[pB tRe p (reL (.slice na ns.length nc) Av),pB tDb y nfZ]):=((st2.box hbb hs3 hb3 ha3).nils Cz 185).pick [2,3,0,1] (by decide);refine ldN (cs:=reL (.slice na ns.length nc) Av) Dr ((st3.blk 2 rfl).cells fun j v hv=>by rw [Aa3];exact hv) trivial ?_;have hv0:ReV (Old H) H (.agg (reL (.slice na ns.length nc) Av).toArray) ns Av:=⟨hl,na,nc,rfl,h1.mono fun k hk=>hS k hk⟩;refine Ag.mk (Ww (n:=0) (es:=[]) hv0 r hpl ht rfl st3 (by omega) (by simp only [List.length_nil];omega)) ?_;rintro _ H4 ⟨rfl,a4,c4,st4⟩;rw [List.nil_append,Aa3]at st4;have d2:decide ((65536:Int)<(stM r:Int))=false:=decide_eq_false (by omega);refine fa Ck ?_;refine ld1 (v:=.int .i64 (stM r:Int)) ct3 (by rw [(st4.blk 0 rfl).cell];rfl) trivial ?_;(conv=>whnf);rw [d2];refine fa No (AT st4 0 ct3 rfl (show 1<4 by decide) rfl fun H5 st5=>(fa Uk (AT st5 0 ct3 rfl (show 2<4 by decide) rfl fun H6 st6=>?_)));replace st6:St H H6 [pB tDb bb (nfL (AA r) (.slice a4 (AA r).edges.length c4)),pS Cz 185 a4 (AA r).edges.length c4 (AA r).edges,pB tRe p (reL (.slice na ns.length nc) Av),pB tDb y nfZ]:=st6;refine ldN (cs:=nfL (AA r) (.slice a4 (AA r).edges.length c4)) Sp ((st6.blk 0 rfl).cells fun j v hv=>by rw [Aa3];exact hv) trivial ?_;refine AI (cs:=nfL (AA r) (.slice a4 (AA r).edges.length c4)) st6 3 rfl rfl (Aa7 _) rfl fun H7 st7=>?_;rw [Ax (show(nfL (AA r) (.slice a4 (AA r).edges.length c4)).length=nfZ.length from rfl)]at st7;refine ldN (cs:=nfL (AA r) (.slice a4 (AA r).edges.length c4)) Sp ((st7.blk 3 rfl).cells fun j v hv=>by rw [Aa3];exact hv) trivial ?_;(conv=>whnf);exact⟨st7.old,a4,c4,rfl,St.own st7 1 rfl⟩
theorem UY{S:Nat→Prop}{H:Aa}{v:Value}{ns:List RnM}{r:ReM}{i:Nat}(hn:r.nodes≤1000000000)(hS:∀k,S k→k<H.size)(hv:ReV S H v ns (i:Int))(ht:Ba ns r i):
  B8 Tryz.prog 68 #[v] H (.int .i64 (r.nodes:Int)):=by
 obtain⟨hl,na,nc,rfl,h1⟩:=hv;refine Al.of_vc Tryz.func68 rfl (Tryz.call68 _) (B0 (reL (.slice na ns.length nc) (i:Int)) rfl ?_);intro p H1 hp hs1 hb1 ha1;have st1:=(St.nil H).box hp hs1 hb1 ha1;refine CB hl (st1.blk 0 rfl) Dr trivial (h1.frame (st1.old.mono hS)) fun v2 hv2=>(fa Lw ?_);refine ld1 (v:=.int .i64 (i:Int)) ct3 (by rw [(st1.blk 0 rfl).cell];rfl) trivial ?_;refine Ao (W6 r hn (fun k hk=>st1.up (hS k hk)) hv2 ht) fun H2 ha2=>?_;have st2:=st1.call ha2;(conv=>whnf);exact⟨rfl,st2.old⟩
theorem Oy{S:Nat→Prop}{H:Aa}{v:Value}{ns:List RnM}{r:ReM}{i:Nat}(hpl:r.plain=true)(hn:r.nodes≤2000)(hS:∀k,S k→k<H.size)(hv:ReV S H v ns (i:Int))(ht:Ba ns r i):
  Al Tryz.prog 37 #[v] H fun u H'=>Yz H H' r u:=by
 obtain⟨hl,na,nc,rfl,h1⟩:=hv;refine Al.of_vc Tryz.func37 rfl (Tryz.call37 _) (B0 (reL (.slice na ns.length nc) (i:Int)) rfl ?_);intro p H1 hp hs1 hb1 ha1;have st1:=(St.nil H).box hp hs1 hb1 ha1;refine Ak _ nfZ OR rfl ?_;intro y H2 hy hs2 hb2 ha2;have st2:=st1.box hy hs2 hb2 ha2;refine CB hl (st2.blk 0 rfl) Dr trivial (h1.frame (st2.old.mono hS)) fun v2 hv2=>(Ao (UY (by omega) (fun k hk=>st2.up (hS k hk)) hv2 ht) fun H3 ha3=>?_);have st3:=st2.call ha3;have d1:decide ((2000:Int)<(r.nodes:Int))=false:=decide_eq_false (by omega);(conv=>whnf);rw [d1];refine CB hl (st3.blk 0 rfl) Dr trivial (h1.frame (st3.old.mono hS)) fun v3 hv3=>(fa Lw ?_);refine ld1 (v:=.int .i64 (i:Int)) ct3 (by rw [(st3.blk 0 rfl).cell];rfl) trivial ?_;refine Ao (VD r hpl (fun k hk=>st3.up (hS k hk)) hv3 ht) fun H4 ha4=>?_;have st4:=st3.call ha4;refine CB hl (st4.blk 0 rfl) Dr trivial (h1.frame (st4.old.mono hS)) fun v4 hv4=>(fa Lw ?_);refine ld1 (v:=.int .i64 (i:Int)) ct3 (by rw [(st4.blk 0 rfl).cell];rfl) trivial ?_;refine Ag.mk (Yq hpl hn (fun k hk=>st4.up (hS k hk)) hv4 ht) ?_;rintro _ H5 ⟨ha5,ea,ec,rfl,hown⟩;obtain⟨ea',ec',e5,st5⟩:=st4.got ha5 hown;injection e5 with e51 e52 e53
 subst e51;subst e53;refine AI (cs:=nfL (AA r) (.slice ea (AA r).edges.length ec)) st5 1 rfl rfl (Aa7 _) rfl fun H7 st7=>?_;rw [Ax (show(nfL (AA r) (.slice ea (AA r).edges.length ec)).length=nfZ.length from rfl)]at st7;refine ldN (cs:=nfL (AA r) (.slice ea (AA r).edges.length ec)) Sp ((st7.blk 1 rfl).cells fun j v hv=>by rw [Aa3];exact hv) trivial ?_;(conv=>whnf);exact⟨st7.old,ea,ec,rfl,St.own st7 2 rfl⟩
theorem UC{r:ReM}(hpl:r.plain=true)(hn:r.nodes≤2000):(AA r).Rng∧(AA r).edges.length≤33554432:=by
 have hst:=Dm r;have hin:=Bn r hpl 0;have hlen:=BX r hpl 0;refine⟨⟨Bs (by omega),Bs (by omega),Bs (by omega)⟩,?_⟩;show(Ay r 0).2.2.length≤_;omega
end Go.Proofs.YtfbghcpdinlmcaaGreatDoor
namespace Go.Proofs.YtfbghcpdinlmcaaGreatDoor
open Go.VC Go.Lib
theorem O8:(Tryz.prog.info? 68).bind (·.zero)=some (.agg (fiL 0 0).toArray):=by kernel_rfl
theorem RB{H:Aa}{b c:Nat}{p:Int}(h:Blk H b 68 (fiL c p)):Bi H b 0 (fiL c p):=h.cells (fun j v hv=>by rw [Aa3];exact hv)
end Go.Proofs.YtfbghcpdinlmcaaGreatDoor
namespace Go.VC
section
variable{α:Type}{T:Ty α}{B:Nat→Prop}{H0 H H1:Aa}{ps:List Pc}{e te:TypeId}{b:Nat}{w0:Value}{vs:List Value}{ss:Nat→HZ}{xs:List α}{v:Value}{j:Nat}
def pG(te:TypeId)(b:Nat)(w0:Value)(vs:List Value)(ss:Nat→HZ):Pc where
 foot k:=k=b∨∃(i:Nat) (v:Value),vs[i]? =some v∧slB v k
 ok H:=Blk H b te (w0::vs)∧(∀(i:Nat) (v:Value),vs[i]? =some v→(ss i).ok H v)∧(∀(i j:Nat) (v w:Value) (k:Nat),i≠j→vs[i]? =some v→vs[j]? =some w→slB v k→¬slB w k)∧∀(i:Nat) (v:Value),vs[i]? =some v→¬slB v b
 fr h hp:=⟨hp.1.agr h (.inl rfl),fun i v hv=>(ss i).fr h (fun k hk=>.inr ⟨i,v,hv,hk⟩) (hp.2.1 i v hv),hp.2.2⟩
theorem StB.gNew{n:Nat}(st:StB B H0 H ps)(i:Nat)(hp:ps[i]? =some (pB te b (w0::Aa2 n (.slice none 0 0))))(hs:∀j H,(ss j).ok H (.slice none 0 0)):StB B H0 H (ps.set i (pG te b w0 (Aa2 n (.slice none 0 0)) ss)):=by
 have hz:∀(j:Nat) (v:Value),(Aa2 n (Value.slice none 0 0))[j]? =some v→v= .slice none 0 0:=fun j v hv=>by
  exact List.eq_of_mem_replicate (AaA hv)
 refine st.upd i hp (Agr.refl _ _) (pG te b w0 (Aa2 n (.slice none 0 0)) ss) ⟨st.blk i hp,fun j v hv=>by rw [hz j v hv];exact hs j H,fun i j v w k _ hv hw hk=>?_,fun j v hv hk=>?_⟩ (fun k hk=>?_) (fun k hk=>?_) (Aa7 _)
 ·rw [hz i v hv]at hk;exact absurd hk KK
 ·rw [hz j v hv]at hk;exact KK hk
 ·rcases hk with hk | ⟨j,v,hv,hk⟩
  ·exact .inl hk
  ·rw [hz j v hv]at hk;exact absurd hk KK
 ·rcases hk with hk | ⟨j,v,hv,hk⟩
  ·exact(st.in_ i hp hk).2
  ·rw [hz j v hv]at hk;exact absurd hk KK
theorem StB.gblk(st:StB B H0 H ps)(i:Nat)(hp:ps[i]? =some (pG te b w0 vs ss)):Blk H b te (w0::vs):=(st.at_ i hp).1
theorem StB.gview(st:StB B H0 H ps)(i:Nat)(hp:ps[i]? =some (pG te b w0 vs ss))(hv:vs[j]? =some v)(hs:ss j=Mi T e xs):∃a cap,v= .slice a xs.length cap∧SlD T (Old H) H a cap xs:=by
 have h:=(st.at_ i hp).2.1 j v hv;rw [hs]at h;obtain⟨a,cap,h1,h2,-⟩:=SlO.view (S':=Old H) (h:SlO T none_ H 0 e v xs) (fun k hk=>(st.in_ i hp (.inr ⟨j,v,hv,hk⟩)).2) (fun _ f=>f.elim);exact⟨a,cap,h1,h2⟩
def pGm(te:TypeId)(b:Nat)(w0:Value)(vs:List Value)(ss:Nat→HZ)(j:Nat)(s:HZ)(v':Value):Pc where
 foot k:=k=b∨slB v' k∨∃(i:Nat) (v:Value),i≠j∧vs[i]? =some v∧slB v k
 ok H:=Blk H b te (w0::vs)∧j<vs.length∧s.ok H v'∧(∀(i:Nat) (v:Value),i≠j→vs[i]? =some v→(ss i).ok H v)∧(∀(i l:Nat) (v w:Value) (k:Nat),i≠j→l≠j→i≠l→vs[i]? =some v→vs[l]? =some w→slB v k→¬slB w k)∧
  (∀(i:Nat) (v:Value) (k:Nat),i≠j→vs[i]? =some v→slB v k→¬slB v' k)∧(∀(i:Nat) (v:Value),i≠j→vs[i]? =some v→¬slB v b)∧¬slB v' b
 fr h hp:=⟨hp.1.agr h (.inl rfl),hp.2.1,s.fr h (fun k hk=>.inr (.inl hk)) hp.2.2.1,fun i v hi hv=>(ss i).fr h (fun k hk=>.inr (.inr ⟨i,v,hi,hv,hk⟩)) (hp.2.2.2.1 i v hi hv),hp.2.2.2.2⟩
theorem Y6{P:Program}{tt ty q o m cap2 by_:Nat}{z:Value}{ys:List α}{ds:List Value}{K:Value→Aa→Prop}(st:StB B H0 H ps)(i:Nat)(ht:SlT P tt e T.size by_ z)(hp:ps[i]? =some (pG te b w0 vs ss))(hv:vs[j]? =some v)(hs:ss j=Mi T e xs)
  (hd:Bi H q o ds) (hy:T.reps none_ H ds ys) (hm:m=ys.length) (h1:∀u∈ds,u.oneCell'=true) (h63:xs.length+ys.length≤maxLen) (hby:(xs.length+ys.length)*by_≤140737488355328)
  (k:∀v' H',StB B H0 H' (ps.set i (pGm te b w0 vs ss j (Mi T e (xs++ys)) v'))→Agr (fun k=>k<H.size∧¬slB v k) H H'→v'.oneCell'=true→K v' H'):
  By P (Builtin.append_ #[tt,tt] ty [v,.slice (some ⟨q,o,none⟩) m cap2].toArray) H K:=by
 obtain⟨hblk,hall,hap,hb⟩:=st.at_ i hp;have hown:=hall j v hv;rw [hs]at hown;have hjl:=(Aa1.1 hv).1;have hbl:b<H.size:=(st.in_ i hp (.inl rfl)).2;have hlt:∀(l:Nat) (w:Value),vs[l]? =some w→∀k,slB w k→k<H.size:=fun l w hw k hk=>(st.in_ i hp (.inr ⟨l,w,hw,hk⟩)).2;refine BZ (T:=T) (S:=none_) (lo:=0) ht (hown:SlO T none_ H 0 e v xs) (AaK _) (fun k hk=>hk.elim) hd hy hm h1 h63 hby ?_;intro v' H' hv' hagr hsz hfr;refine k v' H' (st.upd i hp (hagr.mono fun k hk=>⟨hk.1,fun hb=>hk.2 (.inr ⟨j,v,hv,hb⟩)⟩) (pGm te b w0 vs ss j (Mi T e (xs++ys)) v') ⟨hblk.agr hagr ⟨hbl,hb j v hv⟩,hjl,hv',fun l w hl hw=>(ss l).fr hagr (fun k hk=>⟨hlt l w hw k hk,hap l j w v k hl hw hv hk⟩) (hall l w hw),fun l l' w w' k _ _ hll=>hap l l' w w' k hll,fun l w k hl hw hk hk'=>?_,fun l w _ hw=>hb l w hw,fun hk=>?_⟩ (fun k hk=>?_) (fun k hk=>?_) hsz) hagr hv'.one
 ·rcases hfr k hk' with h | h
  ·exact hap l j w v k hl hw hv hk h
  ·have:=hlt l w hw k hk;omega
 ·rcases hfr b hk with h | h
  ·exact hb j v hv h
  ·omega
 ·rcases hk with hk | hk | ⟨l,w,-,hw,hk⟩
  ·exact .inl (.inl hk)
  ·rcases hfr k hk with h | h
   ·exact .inl (.inr ⟨j,v,hv,h⟩)
   ·exact .inr h
  ·exact .inl (.inr ⟨l,w,hw,hk⟩)
 ·rcases hk with hk | hk | ⟨l,w,hl,hw,hk⟩
  ·have:k=b:=hk;omega
  ·exact(hv'.lt hk).2
  ·have:=hlt l w hw k hk;omega
theorem stGB{P:Program}{o:Nat}{s:HZ}{t:TypeId}{K:Aa→Prop}(st:StB B H0 H ps)(i:Nat)(ht:BG P t)(hp:ps[i]? =some (pGm te b w0 vs ss j s v))(ho:o=j+1)(h1:v.oneCell'=true)
  (k:∀H',StB B H0 H' (ps.set i (pG te b w0 (vs.set j v) (Vo ss j s)))→K H'):C0 P (Instr.storeAt t (.pointer (some ⟨b,o,none⟩)) v) H K:=by
 subst ho;obtain⟨hblk,hjl,hv',hall,hap,hapv,hb,hvb⟩:=st.at_ i hp;refine VC.st1 ht hblk (by simp only [AaR];omega) h1 ?_;intro H' hb' ha' hs';rw [List.set_cons_succ]at hb';have e1:∀(l:Nat) (w:Value),(vs.set j v)[l]? =some w→(l=j∧w=v)∨(l≠j∧vs[l]? =some w):=fun l w hw=>by
  by_cases hl:l=j
  ·subst hl;rw [AaN hjl]at hw;cases hw;exact .inl ⟨rfl,rfl⟩
  ·rw [AaJ (Ne.symm hl)]at hw;exact .inr ⟨hl,hw⟩
 refine k H' (st.upd i hp (ha'.mono fun k hk hkb=>hk.2 (.inl hkb)) (pG te b w0 (vs.set j v) (Vo ss j s)) ⟨hb',fun l w hw=>?_,fun l l' w w' kk hll hw hw' hk hk'=>?_,fun l w hw=>?_⟩ (fun k hk=>?_) (fun k hk=>?_) (by omega))
 ·rcases e1 l w hw with⟨rfl,rfl⟩ | ⟨hl,hw⟩
  ·rw [MG];exact s.fr ha' (fun k hk hkb=>hvb (hkb ▸ hk)) hv'
  ·rw [Sf hl];exact(ss l).fr ha' (fun k hk hkb=>hb l w hl hw (hkb ▸ hk)) (hall l w hl hw)
 ·rcases e1 l w hw with⟨rfl,rfl⟩ | ⟨hl,hw1⟩<;>rcases e1 l' w' hw' with⟨rfl,rfl⟩ | ⟨hl',hw1'⟩
  ·exact hll rfl
  ·exact hapv l' w' kk hl' hw1' hk' hk
  ·exact hapv l w kk hl hw1 hk hk'
  ·exact hap l l' w w' kk hl hl' hll hw1 hw1' hk hk'
 ·rcases e1 l w hw with⟨rfl,rfl⟩ | ⟨hl,hw⟩
  ·exact hvb
  ·exact hb l w hl hw
 ·refine .inl ?_;rcases hk with hk | ⟨l,w,hw,hk⟩
  ·exact .inl hk
  ·rcases e1 l w hw with⟨rfl,rfl⟩ | ⟨hl,hw⟩
   ·exact .inr (.inl hk)
   ·exact .inr (.inr ⟨l,w,hl,hw,hk⟩)
 ·rw [hs'];rcases hk with hk | ⟨l,w,hw,hk⟩
  ·exact(st.in_ i hp (.inl hk)).2
  ·rcases e1 l w hw with⟨rfl,rfl⟩ | ⟨hl,hw⟩
   ·exact(st.in_ i hp (.inr (.inl hk))).2
   ·exact(st.in_ i hp (.inr (.inr ⟨l,w,hl,hw,hk⟩))).2
theorem stG0{P:Program}{t:TypeId}{u:Value}{K:Aa→Prop}(st:StB B H0 H ps)(i:Nat)(ht:BG P t)(hp:ps[i]? =some (pG te b w0 vs ss))(h1:u.oneCell'=true)
  (k:∀H',StB B H0 H' (ps.set i (pG te b u vs ss))→K H'):C0 P (Instr.storeAt t (.pointer (some ⟨b,0,none⟩)) u) H K:=by
 obtain⟨hblk,hall,hap,hb⟩:=st.at_ i hp;refine VC.st1 ht hblk (by simp only [AaR];omega) h1 ?_;intro H' hb' ha' hs';rw [List.set_cons_zero]at hb';exact k H' (st.upd i hp (ha'.mono fun k hk hkb=>hk.2 (.inl hkb)) (pG te b u vs ss) ⟨hb',fun l w hw=>(ss l).fr ha' (fun k hk hkb=>hb l w hw (hkb ▸ hk)) (hall l w hw),hap,hb⟩ (fun k hk=>.inl hk) (fun k hk=>by rw [hs'];exact(st.in_ i hp hk).2) (by omega))
end
end Go.VC
