/- Parts of the proof: PRefA, PLives, PRefB, PSame5, PTables, PSameW, PCel1, PCOk, PReps, PNode, PGr, PFst, PAmbC, PCatI, PCel2, PBoth, PGam0, PMeg, PDDt, PAtEq, PDLw, PDetB, PNet05, PDCa, PDSe -/
import Derived.Test.YtfbghcpdinlmcaaGreatDoorKDn9
import Derived.Test.YtfbghcpdinlmcaaGreatDoorKDn2
import Derived.Test.YtfbghcpdinlmcaaGreatDoorKDn3
set_option maxHeartbeats 64000000
open BitVec renaming getLsbD_and → AaF, getLsbD_allOnes → AaY, getLsbD_not → AbF, eq_of_getLsbD_eq → AbL
open Bool renaming and_eq_true → AaM, eq_iff_iff → Ac1
open Int renaming eq_ofNat_of_zero_le → AaH, toNat_natCast → AaK
open List renaming getElem?_eq_some_iff → Aa0, replicate → Aa1, mem_of_getElem? → Aa2, getElem?_eq_none → Aa3, getElem?_append_right → Aa4, length_map → Aa6, getElem?_append_left → Aa7, mem_singleton → Aa8, length_singleton → Aa9, findIdx?_eq_some_iff_getElem → AaA, mem_filter → AaB, range → AaC, getElem?_cons_zero → AaD, getElem?_map → AaE, mem_append → AaG, take_length → AaI, getD_eq_getElem?_getD → AaJ, length_append → AaO, pairwise_iff_getElem → AaP, length_nil → AaQ, ext_getElem? → AaS, length_cons → AaT, all_eq_true → AaV, mem_map → AaW, map_append → AaX, set_append_right → Ab0, getElem?_of_mem → Ab1, mem_append_left → Ab2, getElem?_eq_getElem → Ab3, foldl_nil → Ab5, filter_cons_of_neg → Ab6, filter_cons_of_pos → Ab7, getElem?_set → Ab8, foldl_append → Ab9, take_append_drop → AbA, foldl_cons → AbB, getElem?_range → AbC, mem_range → AbD, filter_append → AbE, length_take → AbH, prefix_refl → AbJ, mem_flatMap → AbK, pairwise_singleton → AbM, filter_nil → AbN, range_succ → AbO, length_set → AbP, pairwise_flatMap → AbQ, findIdx?_append → AbR, mem_cons_of_mem → AbS, map_cons → AbT, getElem_of_mem → AbU, map_nil → AbV, pairwise_cons → AbX, mem_cons_self → AbY, ne_nil_of_mem → AbZ, all_append → Ac0
open Nat renaming zero_add → Aa5, le_refl → AaL, zero_le → AaZ, sub_self → Ab4, lt_trichotomy → AbG, le_trans → AbW, add_assoc → Ac3
open Option renaming bind_some → AaN, map_some → AaR, some → AaU, getD_some → AbI, map_none → Ac2
set_option linter.unusedVariables false
set_option linter.unusedSimpArgs false
set_option maxRecDepth 100000
namespace Go.Proofs.YtfbghcpdinlmcaaGreatDoor
open Go.VC
attribute [local irreducible] Cp
def cnt(cells:List (BitVec 256))(b:Nat):Nat:=(cells.filter fun x=>x.getLsbD b).length
def ind(x:BitVec 256)(b:Nat):Nat:=if x.getLsbD b then 1 else 0
theorem Lj(c:BitVec 256)(cs:List (BitVec 256))(b:Nat):cnt (c::cs) b=ind c b+cnt cs b:=by
 unfold cnt ind;rw [List.filter_cons];split<;>simp<;>omega
theorem Oe{a c:BitVec 256}:a &&& c=0#256↔∀b,b<256→ind a b+ind c b≤1:=by
 constructor
 ·intro h b hb;have h1:(a &&& c).getLsbD b=false:=by rw [h];simp
  rw [AaF]at h1;unfold ind;cases ha:a.getLsbD b<;>cases hc:c.getLsbD b<;>simp_all
 ·intro h;apply AbL;intro b hb;have h1:=h b hb;rw [AaF];unfold ind at h1;cases ha:a.getLsbD b<;>cases hc:c.getLsbD b<;>simp_all
theorem Uw{a c:BitVec 256}(h:a &&& c=0#256){b:Nat}(hb:b<256):ind (a ||| c) b=ind a b+ind c b:=by
 have h1:=Oe.1 h b hb;unfold ind at h1 ⊢;rw [BitVec.getLsbD_or];cases ha:a.getLsbD b<;>cases hc:c.getLsbD b<;>simp_all
theorem GY:∀(cs:List (BitVec 256)) (all:BitVec 256),(∃x,Du all cs=some x)↔∀b,b<256→ind all b+cnt cs b≤1
 | [],all=>by
   simp only [Du,cnt,AbN,AaQ];refine⟨fun _ b _=>?_,fun _=>⟨_,rfl⟩⟩;unfold ind;split<;>omega
 | c::cs,all=>by
   simp only [Du];split
   ·rename_i h;rw [GY cs (all ||| c)];constructor
    ·intro h1 b hb;have:=h1 b hb;rw [Uw h hb]at this;rw [Lj];omega
    ·intro h1 b hb;have:=h1 b hb;rw [Lj]at this;rw [Uw h hb];omega
   ·rename_i h;refine⟨fun⟨x,hx⟩=>(by cases hx),fun h1=>absurd (Oe.2 fun b hb=>?_) h⟩;have:=h1 b hb;rw [Lj]at this;omega
theorem Rb{cs:List (BitVec 256)}{b:Nat}:(cs.any fun c=>c.getLsbD b)=true↔1≤cnt cs b:=by
 unfold cnt;rw [List.any_eq_true];constructor
 ·rintro⟨x,hx,hb⟩;exact List.length_pos_of_mem (AaB.2 ⟨hx,hb⟩)
 ·intro h;obtain⟨x,hx⟩:=List.exists_mem_of_length_pos h;exact⟨x,(AaB.1 hx).1,(AaB.1 hx).2⟩
theorem QC{cells:List (BitVec 256)}{next:List (List Int)}{fl:Nat}:BK cells next fl=true↔(1≤next.length∧next.length≤65536∧next.length=fl)∧(∀b,b<256→cnt cells b=1)∧∀row∈next,GL next.length cells.length row=true:=by
 have hz:∀b,ind 0#256 b=0:=fun b=>by simp [ind]
 constructor
 ·intro h;have hr:=FF h;unfold BK at h;split at h
  ·cases h
  ·rename_i all hall;simp only [AaM,beq_iff_eq,decide_eq_true_eq,AaV]at h;refine⟨⟨hr.1,hr.2.1,hr.2.2.1⟩,fun b hb=>?_,h.2⟩;have h1:=(GY cells 0#256).1 ⟨all,hall⟩ b hb;rw [hz]at h1;have h2:=GX hall b;rw [h.1.1.1.1,AaY]at h2;simp only [hb,decide_true,BitVec.getLsbD_zero,Bool.false_or]at h2;have h3:=Rb.1 h2.symm;omega
 ·rintro⟨⟨h1,h2,h3⟩,h4,h5⟩;obtain⟨all,hall⟩:=(GY cells 0#256).2 fun b hb=>by rw [hz,h4 b hb];omega
  unfold BK;rw [hall];simp only [AaM,beq_iff_eq,decide_eq_true_eq,AaV];refine⟨⟨⟨⟨AbL fun b hb=>?_,h1⟩,h2⟩,h3⟩,h5⟩;rw [GX hall b,AaY,Rb.2 (by rw [h4 b hb];omega)];simp [hb]
theorem WA:SlT Tryz.prog 117 157 tB.size 256 (Tryz.t157.zero.getD undef):=RW
theorem Vz(S:Nat→Prop)(H:Aa):tB.rep S H ((Tryz.t157.zero.getD undef).cells.toList) 0#256:=by
 show _=Ap 0#256;kernel_rfl
theorem ZY(v1 v2:Value)(ca:Option Addr)(cc:Nat)(cells:List (BitVec 256))(S:Nat→Prop)(H:Aa)(hS:∀k,S k→k<H.size)(hc:SlD Dz S H ca cc cells)(hn:cells.length≤33554432):
  Al Tryz.prog 56 #[.agg #[.slice ca cells.length cc,v1,v2]] H fun v H'=>Agr (Old H) H H'∧H.size≤H'.size∧∃b,v= .slice (some ⟨b,0,none⟩) cells.length cells.length∧H.size≤b∧
   SlO tB (fun _=>False) H' H.size 157 v cells:=by
 refine Al.of_vc Tryz.func56 rfl (Tryz.call56 _) (B0 [.slice ca cells.length cc,v1,v2] rfl ?_);intro pb H1 hpb hs1 hb1 ha1;refine VC.fa PY ?_;refine ld1 Xu (by rw [hb1.cell];rfl) trivial ?_;refine Vu (T:=tB) (v:=0#256) (S:=fun _=>False) WA (Vz _ _) (by omega) rfl (by omega) (by omega) ?_;intro nb H2 hnb hs2 hb2 ha2;rw [AaK]at hb2;(conv=>whnf);refine A3.mk [4] (fun k:Nat=>[.int .i64 k]) (fun k H3=>k≤cells.length∧Agr (fun j=>j<H2.size∧j≠nb) H2 H3∧H2.size≤H3.size∧
  SlO tB (fun _=>False) H3 H.size 157 (.slice (some ⟨nb,0,none⟩) cells.length cells.length) (cells.take k++Aa1 (cells.length - k) 0#256)) (fun k _=>cells.length - k) ?_ ?_
 ·(conv=>whnf);refine⟨0,rfl,by omega,Agr.refl _ _,AaL _,?_⟩;rw [Uc];exact SlO.made (by omega) hb2 (Vz _ _) (by unfold maxLen;omega)
 ·rintro k H3 junk ⟨hk,ha3,hs3,hown⟩;have hb13:=(hb1.agr ha2 (show pb<nb by omega)).agr ha3 ⟨by omega,by omega⟩;refine VC.fa PY ?_;refine ld1 Xu (by rw [hb13.cell];rfl) trivial ?_;refine AB.mk (fun h=>?_) (fun h=>?_)<;>simp only [decide_eq_true_eq,decide_eq_false_iff_not]at h
  ·obtain⟨x,hx⟩:=Ad (l:=cells) (k:=k) (by omega);have hA:Agr (Old H) H H3:=((ha1.mono fun j hj=>by unfold Old at hj;omega).trans (ha2.mono fun j hj=>by unfold Old at hj;omega)).trans (ha3.mono fun j hj=>by unfold Old at hj;omega);refine VC.fa PY ?_;refine ld1 Xu (by rw [hb13.cell];rfl) trivial ?_;refine ixr ZZ (hc.frame (hA.mono hS)) hx rfl ?_;rintro b4 o4 cs4 hSb4 hcells4 rfl;refine ldN (cs:=Af x) Y2 hcells4 trivial (Ao (X9 x H3) fun H4 ha4=>?_);have hs4:=Bx ha4;have hown4:=hown.agr ha4 (fun b hb=>(hown.lt hb).2) (fun _ f=>f.elim);obtain⟨-,-,hlo5,l5,hblk5,hlen5,hget5,hput5⟩:=hown4.placeS (i:=k) (by rw [Ue hk];omega);have hszB:tB.size=256:=rfl;refine ix WA (by omega) (by omega) ?_;refine VC.stN (cs:=Ap x) (by rw [show(Ap x).length=256 from Bj _ _];rfl) hblk5 (by rw [Aa5,AaK,show(Ap x).length=256 from Bj _ _];exact hlen5) (EX x 256) ?_;intro H6 hb6 ha6 hs6;rw [Aa5,AaK]at hb6;have hown6:=hput5 H6 (Ap x) x hb6 (fun j hj=>hj.elim) rfl;rw [Uf hx]at hown6;(conv=>whnf);rw [w64 (x:=(k:Int)+1) (by omega) (by omega)];exact⟨rfl,k+1,by simp,⟨by omega,(ha3.trans (ha4.mono fun j hj=>by unfold Old;omega)).trans (ha6.mono fun j hj=>hj.2),by omega,hown6⟩,by omega⟩
  ·obtain rfl:k=cells.length:=by omega
   rw [Ud]at hown;(conv=>whnf);exact⟨((ha1.mono fun j hj=>by unfold Old at hj;omega).trans (ha2.mono fun j hj=>by unfold Old at hj;omega)).trans (ha3.mono fun j hj=>by unfold Old at hj;omega),by omega,nb,rfl,by omega,hown⟩
theorem Tg:SlT Tryz.prog 117 157 tF.size 256 (Tryz.t157.zero.getD undef):=RW
def BJ(cells:List (BitVec 256))(a b:Nat):Bool:=cells.all fun c=>c.getLsbD a==c.getLsbD b
def Aw(cells:List (BitVec 256)):Nat→List Nat×List Nat
 | 0=>([],[])
 | b+1=>match(Aw cells b).1.findIdx? fun g=>BJ cells b g with
   | some k=>((Aw cells b).1,(Aw cells b).2++[k])
   | none=>((Aw cells b).1++[b],(Aw cells b).2++[(Aw cells b).1.length])
def GV(ps:List Nat)(k:Nat)(b:Nat):Bool:=ps[b]? ==some k
def DJ(ps:List Nat)(n:Nat):List (Nat→Bool):=(AaC n).map (GV ps)
structure Yt(cells:List (BitVec 256))(b:Nat)(f ps:List Nat):Prop where
 plen:ps.length=b
 flen:f.length≤b
 lt:∀p∈ps,p<f.length
 first:∀(k g:Nat),f[k]? =some g→g<b∧ps[g]? =some k
 sig:∀(i p g:Nat),ps[i]? =some p→f[p]? =some g→BJ cells i g=true∧g≤i
theorem LP(cells:List (BitVec 256))(a:Nat):BJ cells a a=true:=by simp [BJ]
theorem Fe(cells:List (BitVec 256)):∀b,Yt cells b (Aw cells b).1 (Aw cells b).2
 | 0=>⟨rfl,AaL _,(fun p h=>by cases h),(fun k g h=>by cases h),(fun i p g h=>by cases h)⟩
 | b+1=>by
   have ih:=Fe cells b;unfold Aw;split
   ·rename_i k hk;rw [AaA]at hk;obtain⟨hlt,hsig,_⟩:=hk;refine⟨by simp [ih.plen],by have:=ih.flen;simp only;omega,fun p hp=>?_,fun k' g hg=>?_,fun i p g hi hg=>?_⟩
    ·rcases AaG.1 hp with h | h
     ·exact ih.lt p h
     ·rw [Aa8]at h;subst h;exact hlt
    ·obtain⟨h1,h2⟩:=ih.first k' g hg
     exact⟨by omega,by simp only;rw [Aa7 (by rw [ih.plen];exact h1)];exact h2⟩
    ·simp only at hi hg;by_cases hib:i<b
     ·rw [Aa7 (by rw [ih.plen];exact hib)]at hi;exact ih.sig i p g hi hg
     ·rw [Aa4 (by rw [ih.plen];omega),ih.plen]at hi;have hi0:i - b=0:=by
       have:=(Aa0.1 hi).1;simp only [Aa9]at this;omega
      rw [hi0,AaD]at hi;cases hi;rw [Ab3 hlt]at hg;cases hg;have hib':i=b:=by omega
      subst hib';exact⟨hsig,by have:=(ih.first _ _ (Ab3 hlt)).1;omega⟩
   ·rename_i hk;refine⟨by simp [ih.plen],by have:=ih.flen;simp;omega,fun p hp=>?_,fun k' g hg=>?_,fun i p g hi hg=>?_⟩
    ·simp only [AaO,Aa9];rcases AaG.1 hp with h | h
     ·have:=ih.lt p h;omega
     ·rw [Aa8]at h;subst h;omega
    ·simp only at hg ⊢;by_cases hkl:k'<(Aw cells b).1.length
     ·rw [Aa7 hkl]at hg;obtain⟨h1,h2⟩:=ih.first k' g hg
      exact⟨by omega,by rw [Aa7 (by rw [ih.plen];exact h1)];exact h2⟩
     ·rw [Aa4 (by omega)]at hg;have h0:=(Aa0.1 hg).1;simp only [Aa9]at h0;rw [show k' - (Aw cells b).1.length=0 by omega,AaD]at hg;cases hg;exact⟨by omega,by rw [Aa4 (by rw [ih.plen];omega),ih.plen,Ab4,AaD];congr 1;omega⟩
    ·simp only at hi hg;by_cases hib:i<b
     ·rw [Aa7 (by rw [ih.plen];exact hib)]at hi;have hp:=ih.lt p (Aa2 hi);rw [Aa7 hp]at hg;exact ih.sig i p g hi hg
     ·rw [Aa4 (by rw [ih.plen];omega),ih.plen]at hi;have hi0:i - b=0:=by
       have:=(Aa0.1 hi).1;simp only [Aa9]at this;omega
      rw [hi0,AaD]at hi;cases hi;rw [Aa4 (AaL _),Ab4,AaD]at hg;cases hg;have hib':i=b:=by omega
      subst hib';exact⟨LP _ _,AaL _⟩
def asI(l:List Nat):List Int:=l.map fun(n:Nat)=>(n:Int)
theorem Kx{l:List Nat}{i n:Nat}(h:l[i]? =some n):(asI l)[i]? =some (n:Int):=by unfold asI;rw [AaE,h];rfl
theorem Dh(l:List Nat):(asI l).length=l.length:=by simp [asI]
theorem Cf(ps:List Nat)(n:Nat):(DJ ps n).length=n:=by simp [DJ]
theorem Ee{ps:List Nat}{n k:Nat}(h:k<n):(DJ ps n)[k]? =some (GV ps k):=by unfold DJ;rw [AaE,AbC h];rfl
theorem Ie{ps:List Nat}{n k:Nat}(hk:k<n):(DJ ps n).set k (fun b=>decide (b=ps.length)|| GV ps k b)=DJ (ps++[k]) n:=by
 apply AaS;intro i;by_cases hi:i<n
 ·rw [Ab8,Cf,Ee hi,Ee hi];have key:∀j,GV (ps++[k]) j=fun b=>(decide (b=ps.length)&&decide (j=k))|| GV ps j b:=by
   intro j;funext b;unfold GV;rcases AbG b ps.length with h | h | h
   ·rw [Aa7 h,decide_eq_false (by omega)];simp
   ·subst h;rw [Aa4 (AaL _),Ab4,AaD,Aa3 (AaL _)];simp [eq_comm];by_cases h:k=j<;>simp [h]
   ·rw [Aa3 (by simp;omega),Aa3 (by omega),decide_eq_false (by omega)];simp
  rw [key];by_cases hik:k=i
  ·subst hik;simp [hi]
  ·rw [if_neg hik];have:(decide (i=k))=false:=decide_eq_false (Ne.symm hik);simp [this]
 ·rw [Aa3 (by simp [Cf];omega),Aa3 (by simp [Cf];omega)]
theorem Of(ps:List Nat)(n:Nat)(h:∀p∈ps,p<n):DJ ps (n+1)=DJ ps n++[fun _=>false]:=by
 unfold DJ;rw [AbO,AaX]
 congr 1
 simp only [AbT,AbV,List.cons.injEq,and_true];funext b;unfold GV;cases hb:ps[b]? with
 | none=>rfl
 | some p=>have:=h p (Aa2 hb);simp;omega
theorem QE{l c:List Value}{o b:Nat}{v:Value}(h:∀i,i<c.length→l[o+i]? =c[i]?)(hl:o+c.length≤l.length)(hb:b<c.length):Ae l o (c.set b v)=l.set (o+b) v:=by
 apply AaS;intro j;rw [Cy (by rw [AbP];exact hl),AbP,Ab8 (l:=l)];by_cases hj:o≤j∧j<o+c.length
 ·rw [if_pos hj,Ab8];by_cases hjb:o+b=j
  ·rw [if_pos hjb,if_pos (by omega),if_pos (by omega),if_pos (by omega)]
  ·rw [if_neg hjb,if_neg (by omega),←h (j - o) (by omega),show o+(j - o)=j by omega]
 ·rw [if_neg hj,if_neg (by omega)]
theorem SlO.byte{H:Aa}{lo:Nat}{e:TypeId}{v:Value}{xs:List (Nat→Bool)}{k b:Nat}{f:Nat→Bool}(h:SlO tF (fun _=>False) H lo e v xs)(hk:xs[k]? =some f)(hb:b<256):
  ∃vb cap l,v= .slice (some ⟨vb,0,none⟩) xs.length cap∧lo≤vb∧Blk H vb e l∧k*256+b<l.length∧∀H',Blk H' vb e (l.set (k*256+b) (.bool true))→SlO tF (fun _=>False) H' lo e v (xs.set k fun i=>decide (i=b)|| f i):=by
 have hlt:=(Aa0.1 hk).1;obtain⟨vb,cap,l,cs,e1,h1,h2,h3,h4,h5,h6⟩:=h.place hlt;have hsz:tF.size=256:=rfl;rw [hsz]at h3 h4 h6;obtain⟨c,hc,rfl⟩:=h4 f hk;refine⟨vb,cap,l,e1,h1,h2,by omega,fun H' hb'=>h6 H' (CZ fun i=>decide (i=b)|| f i) _ ?_ (fun _ f=>f.elim) rfl⟩;rw [←Uo f hb,QE (by
  intro i hi;obtain⟨u,hu⟩:=Ad hi;have:=hc i u hu;rw [h2.cell]at this;rw [this,hu]) (by rw [BN];exact h3) (by rw [BN];exact hb)]
 exact hb'
theorem Ic{cells:List (BitVec 256)}{b k:Nat}(h:(Aw cells b).1.findIdx? (fun g=>BJ cells b g)=some k):Aw cells (b+1)=((Aw cells b).1,(Aw cells b).2++[k]):=by
 rw [Aw,h]
theorem Lb{cells:List (BitVec 256)}{b:Nat}(h:(Aw cells b).1.findIdx? (fun g=>BJ cells b g)=none):Aw cells (b+1)=((Aw cells b).1++[b],(Aw cells b).2++[(Aw cells b).1.length]):=by
 rw [Aw,h]
def fdI(cells:List (BitVec 256))(b:Nat)(l:List Nat):Int:=match l.findIdx? fun g=>BJ cells b g with
 | some k=>(k:Int)
 | none=> -1
theorem Ha{cells:List (BitVec 256)}{b:Nat}{l:List Nat}:fdI cells b l<0↔(l.findIdx? fun g=>BJ cells b g)=none:=by
 unfold fdI;split
 ·rename_i k h;rw [h];simp
 ·rename_i h;rw [h];simp
theorem PU{cells:List (BitVec 256)}{b:Nat}{l:List Nat}: -1≤fdI cells b l∧fdI cells b l<l.length:=by
 unfold fdI;split
 ·rename_i k h;have:=(AaA.1 h).1;omega
 ·omega
theorem Lq{cells:List (BitVec 256)}{b g:Nat}{l:List Nat}(h:fdI cells b l<0):fdI cells b (l++[g])=if BJ cells b g then(l.length:Int)else -1:=by
 have h1:=Ha.1 h;unfold fdI;rw [AbR,h1];simp only [List.findIdx?_singleton,Option.none_or];cases hs:BJ cells b g<;>simp
theorem O7{cells:List (BitVec 256)}{b k:Nat}{l:List Nat}(h:0≤fdI cells b (l.take k)):fdI cells b l=fdI cells b (l.take k):=by
 have h1:(l.take k).findIdx? (fun g=>BJ cells b g)≠none:=fun h2=>by have:=Ha.2 h2;omega
 cases h2:(l.take k).findIdx? (fun g=>BJ cells b g)with
 | none=>exact absurd h2 h1
 | some k0=>
   have h3:l.findIdx? (fun g=>BJ cells b g)=some k0:=by
    conv=>lhs;rw [←AbA k l]
    rw [AbR,h2];rfl
   unfold fdI;rw [h2,h3]
def EH(cells:List (BitVec 256))(b g j:Nat):Bool:=(cells.take j).all fun c=>c.getLsbD b==c.getLsbD g
theorem MN{cells:List (BitVec 256)}{b g j:Nat}{c:BitVec 256}(h:cells[j]? =some c):EH cells b g (j+1)=(EH cells b g j&&(c.getLsbD b==c.getLsbD g)):=by
 unfold EH;rw [Ac h,Ac0];simp
theorem Oa(cells:List (BitVec 256))(b g:Nat):EH cells b g cells.length=BJ cells b g:=by unfold EH BJ;rw [AaI]
theorem PC{cells:List (BitVec 256)}{b g j:Nat}(h:EH cells b g j=false):BJ cells b g=false:=by
 unfold EH at h;unfold BJ;rw [←AbA j cells,Ac0,h];rfl
theorem VB(ca:Option Addr)(cc:Nat)(cells:List (BitVec 256))(S:Nat→Prop)(H:Aa)(hS:∀k,S k→k<H.size)(hc:SlD tB S H ca cc cells)(hn:cells.length≤33554432):
  Al Tryz.prog 123 #[.slice ca cells.length cc] H fun v H'=>Agr (Old H) H H'∧H.size≤H'.size∧∃a cap,v= .slice a (Aw cells 256).1.length cap∧
   SlD tF (D9 H H') H' a cap (DJ (Aw cells 256).2 (Aw cells 256).1.length):=by
 refine Al.of_vc Tryz.func123 rfl (Tryz.call123 _) ?_;(conv=>whnf);refine A3.mk [3,4,5] (fun x:Nat×Value×Value=>match x with | (b,vo,vf)=>[vo,vf,.int .i64 b]) (fun x H2=>x.1≤256∧Agr (Old H) H H2∧H.size≤H2.size∧
  SlO tF (fun _=>False) H2 H.size 157 x.2.1 (DJ (Aw cells x.1).2 (Aw cells x.1).1.length)∧SlO tI (fun _=>False) H2 H.size 3 x.2.2 (asI (Aw cells x.1).1)∧∀j,slB x.2.1 j→¬slB x.2.2 j) (fun x _=>256 - x.1) ?_ ?_
 ·(conv=>whnf);exact⟨(0,.slice none 0 0,.slice none 0 0),rfl,by simp,Agr.refl _ _,AaL _,SlO.nil,SlO.nil,fun j hj=>by obtain⟨o,n,c,h⟩:=hj;cases h⟩
 ·rintro⟨b,vo,vf⟩ H2 junk ⟨hb,ha2,hs2,ho,hf,hap⟩;simp only at hb ho hf hap;have hok:=Fe cells b;have hfl:=hok.flen;obtain⟨fa,fcap,rfl,hfv,-⟩:=hf.view (S':=Old H2) (fun j hj=>(hf.lt hj).2) (fun _ f=>f.elim);obtain⟨oa,ocap,rfl,hov,-⟩:=ho.view (S':=Old H2) (fun j hj=>(ho.lt hj).2) (fun _ f=>f.elim);rw [Dh,Cf]at*;have hcS:=hc.frame (ha2.mono hS);refine AB.mk (fun h=>?_) (fun h=>?_)<;>simp only [decide_eq_true_eq,decide_eq_false_iff_not]at h
  ·(conv=>whnf);refine A3.mk [6,7] (fun k:Nat=>[.int .i64 (fdI cells b ((Aw cells b).1.take k)),.int .i64 k]) (fun k H3=>k≤(Aw cells b).1.length∧H3=H2) (fun k _=>(Aw cells b).1.length - k) ?_ ?_
   ·(conv=>whnf);exact⟨0,rfl,by omega,rfl⟩
   ·rintro k H3 junk3 ⟨hk,rfl⟩;by_cases hkl:k<(Aw cells b).1.length
    ·have d1:decide ((k:Int)<((Aw cells b).1.length:Int))=true:=decide_eq_true (by omega);(conv=>whnf);rw [d1];refine AB.mk (fun h1=>?_) (fun h1=>?_)<;>simp only [decide_eq_true_eq,decide_eq_false_iff_not]at h1
     ·obtain⟨g,hg⟩:=Ad hkl;have hgb:=(hok.first k g hg).1;refine Am.run ?_;(conv=>whnf);refine A3.mk [8,9] (fun j:Nat=>[.bool (EH cells b g j),.int .i64 j]) (fun j H4=>j≤cells.length∧H4=H3) (fun j _=>cells.length - j) ?_ ?_
      ·(conv=>whnf);exact⟨0,rfl,by omega,rfl⟩
      ·rintro j H4 junk4 ⟨hj,rfl⟩;by_cases hjl:j<cells.length
       ·have d2:decide ((j:Int)<(cells.length:Int))=true:=decide_eq_true (by omega);cases hal:EH cells b g j with
        | true=>
          obtain⟨x,hx⟩:=Ad hjl;(conv=>whnf);rw [d2];refine Ar.lex rfl (by kernel_rfl) (ixr WA hcS hx rfl ?_);rintro b5 o5 cs5 hSb5 hcells5 rfl;refine ixa C1 (by omega) (by omega) ?_;refine ld1 (v:=.bool (x.getLsbD b)) ct4 (by rw [show o5+((b:Nat):Int).toNat*1=o5+b by omega];exact hcells5 b _ (FU x (by omega))) trivial ?_;refine JE AL hfv (Dh _).symm (Kx hg) rfl ?_;rintro b6 o6 cs6 hSb6 hcells6 ⟨rfl,-⟩;refine ld1 ct3 hcells6.one trivial (ixr WA hcS hx rfl ?_);rintro b7 o7 cs7 hSb7 hcells7 rfl;refine ixa C1 (by omega) (by omega) ?_;refine ld1 (v:=.bool (x.getLsbD g)) ct4 (by rw [show o7+((g:Nat):Int).toNat*1=o7+g by omega];exact hcells7 g _ (FU x (by omega))) trivial ?_;refine WZ rfl ?_;(conv=>whnf);rw [w64 (x:=(j:Int)+1) (by omega) (by omega)];exact⟨rfl,j+1,by rw [MN hx,hal];simp,⟨by omega,rfl⟩,by omega⟩
        | false=>
          have hs:=PC hal;(conv=>whnf);rw [d2];(conv=>whnf);rw [w64 (x:=(k:Int)+1) (by omega) (by omega)];refine⟨rfl,k+1,?_,⟨by omega,rfl⟩,by omega⟩;rw [Ac hg,Lq h1,hs];have:fdI cells b ((Aw cells b).1.take k)= -1:=by have:=(PU (cells:=cells) (b:=b) (l:=(Aw cells b).1.take k)).1;omega
          rw [this];simp
       ·obtain rfl:j=cells.length:=by omega
        have d2:decide ((cells.length:Int)<(cells.length:Int))=false:=decide_eq_false (by omega);rw [Oa];cases hs:BJ cells b g with
        | true=>
          (conv=>whnf);rw [d2];(conv=>whnf);rw [w64 (x:=(k:Int)+1) (by omega) (by omega)];refine⟨rfl,k+1,?_,⟨by omega,rfl⟩,by omega⟩;rw [Ac hg,Lq h1,hs];simp;omega
        | false=>
          (conv=>whnf);rw [d2];(conv=>whnf);rw [w64 (x:=(k:Int)+1) (by omega) (by omega)];refine⟨rfl,k+1,?_,⟨by omega,rfl⟩,by omega⟩;rw [Ac hg,Lq h1,hs];have:fdI cells b ((Aw cells b).1.take k)= -1:=by have:=(PU (cells:=cells) (b:=b) (l:=(Aw cells b).1.take k)).1;omega
          rw [this];simp
     ·rw [←O7 (by omega)];replace h1:0≤fdI cells b (Aw cells b).1:=by rw [O7 (k:=k) (by omega)];omega
      cases hfi:(Aw cells b).1.findIdx? fun g=>BJ cells b g with
      | none=>exact absurd (Ha.2 hfi) (by omega)
      | some k0=>
        have hk0:=(AaA.1 hfi).1;have hfd:fdI cells b (Aw cells b).1=(k0:Int):=by unfold fdI;rw [hfi]
        rw [hfd];have hnext:Aw cells (b+1)=((Aw cells b).1,(Aw cells b).2++[k0]):=Ic hfi;obtain⟨vb,cap,l,e1,hlo,hblk,hlen,hput⟩:=SlO.byte ho (Ee hk0) (show b<256 by omega);rw [Cf]at e1;injection e1 with e2 e3 e4
        subst e2;subst e4;refine Am.run (ix Tg (by omega) (by omega) (ixa C1 (by omega) (by omega) ?_));refine st1 ct4 hblk (by rw [show tF.size=256 from rfl];omega) rfl ?_;intro H6 hb6 ha6 hs6;rw [show 0+((k0:Nat):Int).toNat*tF.size+((b:Nat):Int).toNat*1=k0*256+b by rw [show tF.size=256 from rfl];omega]at hb6;have ho6:=hput H6 hb6;have hput2:=Ie (ps:=(Aw cells b).2) hk0;rw [hok.plen]at hput2;rw [hput2]at ho6;have hf6:=hf.agr ha6 (fun j hj=>by rintro rfl;exact hap _ ⟨0,_,_,rfl⟩ hj) (fun _ f=>f.elim);(conv=>whnf);rw [w64 (x:=(b:Int)+1) (by omega) (by omega)];refine⟨rfl,(b+1,.slice (some ⟨vb,0,none⟩) (Aw cells b).1.length ocap,.slice fa (Aw cells b).1.length fcap),by simp,⟨by simp only;omega,ha2.trans (ha6.mono fun j hj=>by unfold Old at hj;omega),by omega,?_,?_,hap⟩,by simp only;omega⟩
        ·simp only [hnext];exact ho6
        ·simp only [hnext];exact hf6
    ·obtain rfl:k=(Aw cells b).1.length:=by omega
     have d1:decide (((Aw cells b).1.length:Int)<((Aw cells b).1.length:Int))=false:=decide_eq_false (by omega);rw [AaI];(conv=>whnf);rw [d1];by_cases h1:fdI cells b (Aw cells b).1<0
     ·have hfi:=Ha.1 h1;have hfd:fdI cells b (Aw cells b).1= -1:=by have:=(PU (cells:=cells) (b:=b) (l:=(Aw cells b).1)).1;omega
      rw [hfd];have hnext:Aw cells (b+1)=((Aw cells b).1++[b],(Aw cells b).2++[(Aw cells b).1.length]):=Lb hfi;have hlt':∀p∈(Aw cells b).2,p<(Aw cells b).1.length:=hok.lt;refine Am.run (Cv C1 (Tryz.t157.zero.getD undef) rfl (Aa1 256 (.bool false)) rfl (A2 Tg (Aa1 256 (.bool false)) rfl rfl (by decide) (by decide) ?_));intro q4 H4 hq4 hs4 hb4 ha4;have ho4:=ho.agr ha4 (fun j hj=>by have:=(ho.lt hj).2;omega) (fun _ f=>f.elim);have hf4:=hf.agr ha4 (fun j hj=>by have:=(hf.lt hj).2;omega) (fun _ f=>f.elim);refine BZ (T:=tF) (S:=fun _=>False) (ys:=[fun _=>false]) (ds:=Aa1 256 (.bool false)) (lo:=H.size) (xs:=DJ (Aw cells b).2 (Aw cells b).1.length) Tg ho4 (by omega) (fun j hj=>hj.elim)
       (hb4.cells (fun j v hv=>by rw [Aa5];exact hv)) (Ty.reps_one (show Aa1 256 (Value.bool false)=CZ (fun _=>false)from SB.symm)) rfl (by intro u hu;rw [List.eq_of_mem_replicate hu];rfl) (by rw [Cf];simp only [maxLen,Aa9];omega) (by rw [Cf];simp only [Aa9];omega) ?_
      intro v5 H5 ho5 ha5 hs5 hfr5;rw [←Of _ _ hlt']at ho5;have hf5:=hf4.agr ha5 (fun j hj=>⟨(hf4.lt hj).2,fun h=>hap j h hj⟩) (fun _ f=>f.elim);have hb5:Blk H5 q4 157 (Aa1 256 (.bool false)):=hb4.agr ha5 ⟨hb4.lt,fun h=>by have:=(ho.lt h).2;omega⟩;refine A2 AL [.int .i64 (b:Int)] rfl rfl (by decide) (by decide) ?_;intro q6 H6 hq6 hs6 hb6 ha6;have ho6:=ho5.agr ha6 (fun j hj=>by have:=(ho5.lt hj).2;omega) (fun _ f=>f.elim);have hf6:=hf5.agr ha6 (fun j hj=>by have:=(hf5.lt hj).2;omega) (fun _ f=>f.elim);refine BZ (T:=tI) (S:=fun _=>False) (ys:=[(b:Int)]) (ds:=[.int .i64 (b:Int)]) (lo:=H.size) (xs:=asI (Aw cells b).1) AL hf6 (by omega) (fun j hj=>hj.elim)
       (hb6.cells (fun j v hv=>by simpa using hv)) (Ty.reps_one ⟨rfl,Bs (by omega)⟩) rfl (by intro u hu;cases Aa8.1 hu;rfl) (by rw [Dh];simp only [maxLen,Aa9];omega) (by rw [Dh];simp only [Aa9];omega) ?_
      intro v7 H7 hf7 ha7 hs7 hfr7;have hap5:∀j,slB v5 j→¬slB (.slice fa (Aw cells b).1.length fcap) j:=fun j hj hj'=>by
       rcases hfr5 j hj with h | h
       ·exact hap j h hj'
       ·have:=(hf.lt hj').2;omega
      have ho7:=ho6.agr ha7 (fun j hj=>⟨(ho6.lt hj).2,hap5 j hj⟩) (fun _ f=>f.elim);have hap7:∀j,slB v5 j→¬slB v7 j:=fun j hj hj'=>by
       rcases hfr7 j hj' with h | h
       ·exact hap5 j hj h
       ·have:=(ho6.lt hj).2;omega
      have hget7:(DJ (Aw cells b).2 ((Aw cells b).1.length+1))[(Aw cells b).1.length]? =some (GV (Aw cells b).2 (Aw cells b).1.length):=Ee (by omega);obtain⟨vb,cap,l,e1,hlo,hblk,hlen,hput⟩:=SlO.byte ho7 hget7 (show b<256 by omega);subst e1;rw [Cf]at*;have hnn:(Aw cells b).1.length<(Aw cells b).1.length+1:=by omega
      refine ix Tg (by omega) (by omega) (ixa C1 (by omega) (by omega) ?_);refine st1 ct4 hblk (by rw [show tF.size=256 from rfl];omega) rfl ?_;intro H8 hb8 ha8 hs8;rw [show 0+(((Aw cells b).1.length:Nat):Int).toNat*tF.size+((b:Nat):Int).toNat*1=(Aw cells b).1.length*256+b by rw [show tF.size=256 from rfl];omega]at hb8;have ho8:=hput H8 hb8;have hput2:=Ie (ps:=(Aw cells b).2) hnn;rw [hok.plen]at hput2;rw [hput2]at ho8;have hf8:=hf7.agr ha8 (fun j hj=>by rintro rfl;exact hap7 _ ⟨0,_,_,rfl⟩ hj) (fun _ f=>f.elim);have hA8:Agr (Old H) H H8:=((((ha2.trans (ha4.mono fun j hj=>by have:=As ha2 hj;omega)).trans (ha5.mono fun j hj=>⟨by have:=As ha2 hj;omega,fun h=>by have:=(ho.lt h).1;unfold Old at hj;omega⟩)).trans (ha6.mono fun j hj=>by have:=As ha2 hj;omega)).trans (ha7.mono fun j hj=>⟨by have:=As ha2 hj;omega,fun h=>by have:=(hf.lt h).1;unfold Old at hj;omega⟩)).trans (ha8.mono fun j hj=>by unfold Old at hj;omega);(conv=>whnf);rw [w64 (x:=(b:Int)+1) (by omega) (by omega)];refine⟨rfl,(b+1,_,_),rfl,⟨by simp only;omega,hA8,by omega,?_,?_,hap7⟩,by simp only;omega⟩
      ·simp only [hnext,AaO,Aa9];exact ho8
      ·simp only [hnext,asI,AaX,AbT,AbV];exact hf8
     ·replace h1:0≤fdI cells b (Aw cells b).1:=by omega
      cases hfi:(Aw cells b).1.findIdx? fun g=>BJ cells b g with
      | none=>exact absurd (Ha.2 hfi) (by omega)
      | some k0=>
        have hk0:=(AaA.1 hfi).1;have hfd:fdI cells b (Aw cells b).1=(k0:Int):=by unfold fdI;rw [hfi]
        rw [hfd];have hnext:Aw cells (b+1)=((Aw cells b).1,(Aw cells b).2++[k0]):=Ic hfi;obtain⟨vb,cap,l,e1,hlo,hblk,hlen,hput⟩:=SlO.byte ho (Ee hk0) (show b<256 by omega);rw [Cf]at e1;injection e1 with e2 e3 e4
        subst e2;subst e4;refine Am.run (ix Tg (by omega) (by omega) (ixa C1 (by omega) (by omega) ?_));refine st1 ct4 hblk (by rw [show tF.size=256 from rfl];omega) rfl ?_;intro H6 hb6 ha6 hs6;rw [show 0+((k0:Nat):Int).toNat*tF.size+((b:Nat):Int).toNat*1=k0*256+b by rw [show tF.size=256 from rfl];omega]at hb6;have ho6:=hput H6 hb6;have hput2:=Ie (ps:=(Aw cells b).2) hk0;rw [hok.plen]at hput2;rw [hput2]at ho6;have hf6:=hf.agr ha6 (fun j hj=>by rintro rfl;exact hap _ ⟨0,_,_,rfl⟩ hj) (fun _ f=>f.elim);(conv=>whnf);rw [w64 (x:=(b:Int)+1) (by omega) (by omega)];refine⟨rfl,(b+1,.slice (some ⟨vb,0,none⟩) (Aw cells b).1.length ocap,.slice fa (Aw cells b).1.length fcap),by simp,⟨by simp only;omega,ha2.trans (ha6.mono fun j hj=>by unfold Old at hj;omega),by omega,?_,?_,hap⟩,by simp only;omega⟩
        ·simp only [hnext];exact ho6
        ·simp only [hnext];exact hf6
  ·obtain rfl:b=256:=by omega
   obtain⟨oa2,ocap2,e2,hov2,-⟩:=ho.view (S':=D9 H H2) (fun j hj=>ho.lt hj) (fun _ f=>f.elim);rw [Cf]at e2;injection e2 with e3 e4 e5
   subst e3;subst e5;(conv=>whnf);exact⟨ha2,hs2,_,_,rfl,hov2⟩
end Go.Proofs.YtfbghcpdinlmcaaGreatDoor
namespace Go.Proofs.YtfbghcpdinlmcaaGreatDoor
open Go.VC
attribute [local irreducible] Cp Aw
def Bp(cell:List Int)(rv nv fv:Value):List Value:=cell.map (Value.int .i64)++[rv,nv,fv]
section
variable{cell:List Int}{rv nv fv v:Value}
theorem Bd(h:cell.length=256):(Bp cell rv nv fv).length=259:=by simp [Bp,h]
theorem VK{b:Nat}{c:Int}(h:cell[b]? =some c):(Bp cell rv nv fv)[b]? =some (.int .i64 c):=by
 unfold Bp;rw [Aa7 (by simpa using(Aa0.1 h).1),AaE,h];rfl
theorem IM(h:cell.length=256):(Bp cell rv nv fv)[256]? =some rv:=by
 unfold Bp;rw [Aa4 (by simp [h]),Aa6,h];rfl
theorem IN(h:cell.length=256):(Bp cell rv nv fv)[257]? =some nv:=by
 unfold Bp;rw [Aa4 (by simp [h]),Aa6,h];rfl
theorem O3(h:cell.length=256):(Bp cell rv nv fv)[258]? =some fv:=by
 unfold Bp;rw [Aa4 (by simp [h]),Aa6,h];rfl
theorem TS{b:Nat}{c:Int}(h:b<cell.length):(Bp cell rv nv fv).set b (.int .i64 c)=Bp (cell.set b c) rv nv fv:=by
 unfold Bp;rw [List.set_append_left _ _ (by simpa using h),List.map_set]
theorem O4(h:cell.length=256):(Bp cell rv nv fv).set 256 v=Bp cell v nv fv:=by
 unfold Bp;rw [Ab0 _ _ (by simp [h]),Aa6,h];rfl
theorem O5(h:cell.length=256):(Bp cell rv nv fv).set 257 v=Bp cell rv v fv:=by
 unfold Bp;rw [Ab0 _ _ (by simp [h]),Aa6,h];rfl
theorem O6(h:cell.length=256):(Bp cell rv nv fv).set 258 v=Bp cell rv nv v:=by
 unfold Bp;rw [Ab0 _ _ (by simp [h]),Aa6,h];rfl
theorem CD(h1:rv.oneCell'=true)(h2:nv.oneCell'=true)(h3:fv.oneCell'=true):(Bp cell rv nv fv).all (·.oneCell')=true:=by
 rw [AaV];intro u hu;unfold Bp at hu;rcases AaG.1 hu with hu | hu
 ·obtain⟨x,-,rfl⟩:=AaW.1 hu;rfl
 ·simp only [List.mem_cons,List.mem_nil_iff,or_false]at hu;rcases hu with rfl | rfl | rfl
  ·exact h1
  ·exact h2
  ·exact h3
end
def Ds(ps:List Nat)(i n:Nat):List Int:=(AaC 256).map fun b=>match ps[b]? with
 | some p=>if p<i∨(p=i∧256≤b+n)then(p:Int)else 0
 | none=>0
def Ka(ps:List Nat)(i:Nat):Nat→Int
 | 0=> -1
 | n+1=>if ps[255 - n]? =some i then((255 - n:Nat):Int)else Ka ps i n
theorem BT(ps:List Nat)(i n:Nat):(Ds ps i n).length=256:=by simp [Ds]
theorem Eg(ps:List Nat)(i n:Nat){b:Nat}(h:b<256):(Ds ps i n)[b]? =some (match ps[b]? with
 | some p=>if p<i∨(p=i∧256≤b+n)then(p:Int)else 0
 | none=>0):=by
 unfold Ds;rw [AaE,AbC h];rfl
theorem Lh{ps:List Nat}{i n j m:Nat}(h:∀(b p:Nat),b<256→ps[b]? =some p→((p<i∨(p=i∧256≤b+n))↔(p<j∨(p=j∧256≤b+m)))):Ds ps i n=Ds ps j m:=by
 apply AaS;intro b;by_cases hb:b<256
 ·rw [Eg _ _ _ hb,Eg _ _ _ hb];cases hp:ps[b]? with
  | none=>rfl
  | some p=>
    have:=h b p hb hp;simp only [this]
 ·rw [Aa3 (by rw [BT];omega),Aa3 (by rw [BT];omega)]
theorem PM{ps:List Nat}{i n:Nat}(hn:n<256)(h:ps[255 - n]? =some i):(Ds ps i n).set (255 - n) (i:Int)=Ds ps i (n+1):=by
 apply AaS;intro b;by_cases hb:b<256
 ·rw [Eg _ _ _ hb,Ab8,BT];by_cases hbn:255 - n=b
  ·subst hbn;rw [if_pos rfl,if_pos (by omega),h];simp only;rw [if_pos (.inr ⟨trivial,by omega⟩)]
  ·rw [if_neg hbn,Eg _ _ _ hb];cases hp:ps[b]? with
   | none=>rfl
   | some p=>
     have:(256≤b+n)↔(256≤b+(n+1)):=by omega
     simp only [this]
 ·rw [Aa3 (by rw [AbP,BT];omega),Aa3 (by rw [BT];omega)]
theorem Sy{ps:List Nat}{i n:Nat}(hn:n<256)(h:ps[255 - n]? ≠some i):Ds ps i n=Ds ps i (n+1):=by
 refine Lh fun b p hb hp=>?_;by_cases hbn:b=255 - n
 ·subst hbn;rw [hp]at h;have:p≠i:=fun e=>h (by rw [e]);simp [this]
 ·have:(256≤b+n)↔(256≤b+(n+1)):=by omega
  rw [this]
theorem Oo(ps:List Nat)(i:Nat):Ds ps i 256=Ds ps (i+1) 0:=by
 refine Lh fun b p hb hp=>?_;omega
theorem Oq(ps:List Nat):Ds ps 0 0=Aa1 256 0:=by
 apply AaS;intro b;by_cases hb:b<256
 ·rw [Eg _ _ _ hb,List.getElem?_replicate,if_pos hb];cases hp:ps[b]? with
  | none=>rfl
  | some p=>simp only;rw [if_neg (by omega)]
 ·rw [Aa3 (by rw [BT];omega),Aa3 (by simp;omega)]
theorem PL{ps:List Nat}{n:Nat}(hl:ps.length=256)(h:∀p∈ps,p<n):Ds ps n 0=asI ps:=by
 apply AaS;intro b;by_cases hb:b<256
 ·obtain⟨p,hp⟩:=Ad (l:=ps) (k:=b) (by omega);rw [Eg _ _ _ hb,Kx hp,hp];simp only;rw [if_pos (.inl (h p (Aa2 hp)))]
 ·rw [Aa3 (by rw [BT];omega),Aa3 (by rw [Dh];omega)]
theorem Kb{ps:List Nat}{i g:Nat}(hg:g<256)(h:ps[g]? =some i)(hno:∀b,b<g→ps[b]? ≠some i):∀m,m≤g→Ka ps i (256 - g+m)=(g:Int)
 | 0,_=>by
   rw [Nat.add_zero,show 256 - g=(255 - g)+1 by omega,Ka,show 255 - (255 - g)=g by omega,if_pos h]
 | m+1,hm=>by
   have ih:=Kb hg h hno m (by omega);rw [show 256 - g+(m+1)=(256 - g+m)+1 by omega,Ka,if_neg (hno _ (by omega)),ih]
theorem Uh{cells:List (BitVec 256)}{b:Nat}{f ps:List Nat}(h:Yt cells b f ps){i g:Nat}(hg:f[i]? =some g):∀j,j<g→ps[j]? ≠some i:=by
 intro j hj hji;have:=(h.sig j i g hji hg).2;omega
theorem UJ(ca:Option Addr)(cc:Nat)(cells:List (BitVec 256))(S:Nat→Prop)(H:Aa)(hS:∀k,S k→k<H.size)(hc:SlD tB S H ca cc cells)(hn:cells.length≤33554432):
  Al Tryz.prog 61 #[.slice ca cells.length cc] H fun v H'=>Agr (Old H) H H'∧H.size≤H'.size∧∃ra rc,v= .agg (Bp (asI (Aw cells 256).2) (.slice ra (Aw cells 256).1.length rc) (.slice none 0 0) (.slice none 0 0)).toArray∧
   SlD tI (D9 H H') H' ra rc (asI (Aw cells 256).1):=by
 have hok:=Fe cells 256;have hfl:=hok.flen;refine Al.of_vc Tryz.func61 rfl (Tryz.call61 _) (Ak _ (Bp (Aa1 256 0) (.slice none 0 0) (.slice none 0 0) (.slice none 0 0)) rfl (by kernel_rfl) ?_);intro p1 H1 hp1 hs1 hb1 ha1;refine Ak _ (Bp (Aa1 256 0) (.slice none 0 0) (.slice none 0 0) (.slice none 0 0)) rfl (by kernel_rfl) ?_;intro p2 H2 hp2 hs2 hb2 ha2;have hA2:Agr (Old H) H H2:=(ha1.mono fun j hj=>by unfold Old at hj;omega).trans (ha2.mono fun j hj=>by unfold Old at hj;omega);refine Ag.mk (VB ca cc cells S H2 (fun k hk=>As hA2 (hS k hk)) (hc.frame (hA2.mono hS)) hn) ?_;rintro v3 H3 ⟨ha3,hs3,aa,ac,rfl,hat⟩;have hA3:=hA2.trans (ha3.mono fun k hk=>As hA2 hk);have hb13:=(hb1.agr ha2 (show p1<p2 by omega)).agr ha3 (show p1<H2.size by omega);have hb23:=hb2.agr ha3 (show p2<H2.size by omega);generalize hfeq:(Aw cells 256).1=f at*;generalize hpeq:(Aw cells 256).2=ps at*;(conv=>whnf);refine A3.mk [5] (fun i:Nat=>[.int .i64 i]) (fun i H4=>i≤f.length∧Agr (fun j=>j<H3.size∧j≠p2) H3 H4∧H3.size≤H4.size∧∃vr,Blk H4 p2 43 (Bp (Ds ps i 0) vr (.slice none 0 0) (.slice none 0 0))∧SlO tI (fun _=>False) H4 H3.size 3 vr (asI (f.take i))) (fun i _=>f.length - i) ?_ ?_
 ·(conv=>whnf);exact⟨0,rfl,by omega,Agr.refl _ _,AaL _,.slice none 0 0,by rw [Oq];exact hb23,by rw [List.take_zero];exact SlO.nil⟩
 ·rintro i H4 junk ⟨hi,ha4,hs4,vr,hb4,hr4⟩;refine AB.mk (fun h=>?_) (fun h=>?_)<;>simp only [decide_eq_true_eq,decide_eq_false_iff_not]at h
  ·have hil:i<f.length:=by omega
   obtain⟨g,hg⟩:=Ad hil;have hati:∀{H':Aa},Agr (fun j=>j<H3.size∧j≠p2) H3 H'→SlD tF (D9 H2 H3) H' aa ac (DJ ps f.length):=fun h=>hat.frame (h.mono fun k hk=>by have:=hk.1;exact⟨hk.2,by omega⟩);(conv=>whnf);refine A3.mk [6,7] (fun n:Nat=>[.int .i64 (Ka ps i n),.int .i64 (255 - (n:Int))]) (fun n H5=>n≤256∧Agr (fun j=>j≠p2) H4 H5∧H4.size=H5.size∧Blk H5 p2 43 (Bp (Ds ps i n) vr (.slice none 0 0) (.slice none 0 0))) (fun n _=>256 - n) ?_ ?_
   ·(conv=>whnf);exact⟨0,rfl,by omega,Agr.refl _ _,rfl,hb4⟩
   ·rintro n H5 junk5 ⟨hn5,ha5,hs5,hb5⟩;refine AB.mk (fun h=>?_) (fun h=>?_)<;>simp only [decide_eq_true_eq,decide_eq_false_iff_not]at h
    ·have hn256:n<256:=by omega
     refine Am.run (JE Tg (hati (ha4.trans (ha5.mono fun j hj=>hj.2))) (Cf _ _).symm (Ee hil) rfl ?_);rintro b6 o6 cs6 hSb6 hcells6 rfl;refine ixa C1 (by omega) (by omega) ?_;refine ld1 (v:=.bool (GV ps i (255 - n))) ct4 (by rw [show o6+(255 - (n:Int)).toNat*1=o6+(255 - n) by omega];exact hcells6 (255 - n) _ (Gb _ (by omega))) trivial ?_;refine AB.mk (fun hbit=>?_) (fun hbit=>?_)
     ·have hpi:ps[255 - n]? =some i:=by simpa [GV]using hbit
      refine VC.fa Ui (ixa Y9 (by omega) (by omega) ?_);refine st1 ct3 hb5 (by rw [Bd (BT _ _ _)];omega) rfl ?_;intro H6 hb6 ha6 hs6;rw [show 0+0+(255 - (n:Int)).toNat*1=255 - n by omega,TS (by rw [BT];omega),PM hn256 hpi]at hb6;(conv=>whnf);rw [w64 (x:=255 - (n:Int) - 1) (by omega) (by omega)];refine⟨rfl,n+1,?_,⟨by omega,ha5.trans (ha6.mono fun j hj=>hj),by omega,hb6⟩,by omega⟩;rw [Ka,if_pos hpi,show((255 - n:Nat):Int)=255 - (n:Int) by omega,show 255 - ((n+1:Nat):Int)=255 - (n:Int) - 1 by omega]
     ·have hpi:ps[255 - n]? ≠some i:=by simpa [GV]using hbit
      rw [Sy hn256 hpi]at hb5;(conv=>whnf);rw [w64 (x:=255 - (n:Int) - 1) (by omega) (by omega)];refine⟨rfl,n+1,?_,⟨by omega,ha5,by omega,hb5⟩,by omega⟩;rw [Ka,if_neg hpi,show 255 - ((n+1:Nat):Int)=255 - (n:Int) - 1 by omega]
    ·obtain rfl:n=256:=by omega
     have hg256:=(hok.first i g hg).1;have hlst:Ka ps i 256=(g:Int):=by
      have:=Kb hg256 (hok.first i g hg).2 (Uh hok hg) g (AaL _);rwa [show 256 - g+g=256 by omega]at this
     rw [hlst,Oo]at*;have hr5:=hr4.agr ha5 (fun j hj=>by have:=(hr4.lt hj).1;omega) (fun _ f=>f.elim);refine VC.fa Lu ?_;refine ld1 CW (by rw [hb5.cell,Aa5];exact IM (BT _ _ _)) trivial ?_;refine A2 AL [.int .i64 (g:Int)] rfl rfl (by decide) (by decide) ?_;intro q6 H6 hq6 hs6 hb6 ha6;have hr6:=hr5.agr ha6 (fun j hj=>by have:=(hr5.lt hj).2;omega) (fun _ f=>f.elim);have hb56:=hb5.agr ha6 (show p2<q6 by have:=hb5.lt;omega);have hp2:=hb56.lt
     refine BZ (T:=tI) (S:=fun _=>False) (ys:=[(g:Int)]) (ds:=[.int .i64 (g:Int)]) (lo:=H3.size) (xs:=asI (f.take i)) AL hr6 (by omega) (fun j hj=>hj.elim)
       (hb6.cells (fun j v hv=>by simpa using hv)) (Ty.reps_one ⟨rfl,Bs (by omega)⟩) rfl (by intro u hu;cases Aa8.1 hu;rfl) (by rw [Dh];simp only [maxLen,Aa9,AbH];omega) (by rw [Dh];simp only [Aa9,AbH];omega) ?_
     intro v7 H7 hr7 ha7 hs7 hfr7;have hb7:=hb56.agr ha7 ⟨hp2,fun hb=>by have:=(hr6.lt hb).1;omega⟩;refine VC.fa Lu ?_;refine st1 CW hb7 (by rw [Bd (BT _ _ _)];omega) hr7.one ?_;intro H8 hb8 ha8 hs8;rw [Aa5,O4 (BT _ _ _)]at hb8;have hr8:=hr7.agr ha8 (fun j hj=>by have:=(hr7.lt hj).1;omega) (fun _ f=>f.elim);(conv=>whnf);rw [w64 (x:=(i:Int)+1) (by omega) (by omega)];refine⟨rfl,i+1,by simp,⟨by omega,?_,by omega,v7,hb8,?_⟩,by omega⟩
     ·exact(((ha4.trans (ha5.mono fun j hj=>hj.2)).trans (ha6.mono fun j hj=>by omega)).trans (ha7.mono fun j hj=>⟨by omega,fun hb=>by have:=(hr6.lt hb).1;omega⟩)).trans (ha8.mono fun j hj=>hj.2)
     ·rw [Ac hg];unfold asI at hr8 ⊢;rw [AaX];exact hr8
  ·obtain rfl:i=f.length:=by omega
   rw [PL hok.plen hok.lt]at hb4;rw [AaI]at hr4;have hA4:Agr (Old H) H H4:=hA3.trans (ha4.mono fun j hj=>by have:=As hA3 hj;unfold Old at hj;omega);obtain⟨ra,rc,rfl,hrv,-⟩:=hr4.view (S':=fun j=>H3.size≤j∧j<H4.size) (fun j hj=>hr4.lt hj) (fun _ f=>f.elim);rw [Dh]at hb4;have hpl:(asI ps).length=256:=by rw [Dh,hok.plen]
   have hl259:(Bp (asI ps) (.slice ra f.length rc) (.slice none 0 0) (.slice none 0 0)).length=259:=Bd hpl;refine ldN (cs:=Bp (asI ps) (.slice ra f.length rc) (.slice none 0 0) (.slice none 0 0)) (by rw [hl259];exact MM) (hb4.cells fun j v hv=>by rw [Aa5];exact hv) trivial ?_;refine VC.stN (cs:=Bp (asI ps) (.slice ra f.length rc) (.slice none 0 0) (.slice none 0 0)) (by rw [hl259];rfl) (hb13.agr ha4 ⟨by omega,by omega⟩) (Nat.le_of_eq (by rw [hl259,Bd (by simp)])) (CD rfl rfl rfl) ?_;intro H6 hb6 ha6 hs6;rw [Ax (by rw [hl259,Bd (by simp)])]at hb6;refine ldN (cs:=Bp (asI ps) (.slice ra f.length rc) (.slice none 0 0) (.slice none 0 0)) (by rw [hl259];exact MM) (hb6.cells fun j v hv=>by rw [Aa5];exact hv) trivial ?_;exact⟨hA4.trans (ha6.mono fun j hj=>by unfold Old at hj;omega),by omega,ra,rc,rfl,(hrv.frame (ha6.mono fun j hj=>by omega)).mono fun j hj=>by unfold D9 at*;omega⟩
end Go.Proofs.YtfbghcpdinlmcaaGreatDoor
namespace Go.Proofs.YtfbghcpdinlmcaaGreatDoor
open Go.VC
attribute [local irreducible] Cp
structure TabIn(S:Nat→Prop)(H:Aa)(v:Value)(cells:List (BitVec 256))(next:List (List Int))(final:List Bool):Prop where
 lt:∀k,S k→k<H.size
 rep:∃ca na fa cc nc fc,v= .agg #[.slice ca cells.length cc,.slice na next.length nc,.slice fa final.length fc]∧SlD Dz S H ca cc cells∧SlD GP S H na nc next∧SlD A1 S H fa fc final
 cn:cells.length≤1048576
 nn:next.length≤1048576
 rn:∀row∈next,row.length≤1048576
 fn:final.length≤1048576
section
open Classical
theorem PD{A:AM}(hok:A.Ok){q:Int}{b:Nat}(h0:0≤q)(h1:q<A.next.length)(hb:b<256)(h:E8 (some A) (C4 (some A) q b)=true):E8 (some A) q=true:=by
 obtain⟨n,rfl⟩:=AaH h0;obtain⟨row,hrow⟩:=Ad (l:=A.next) (k:=n) (by omega);obtain⟨c,hc⟩:=Ad (l:=A.cell) (k:=b) (by rw [hok.cell];exact hb);have hrl:=hok.rows row (Aa2 hrow);have hcp:=hok.places c (Aa2 hc);obtain⟨t,ht⟩:=Ad (l:=row) (k:=c) (by omega);obtain⟨t',rfl⟩:=AaH (hrl.2 t (Aa2 ht)).1;have hst:C4 (some A) n b=(t':Int):=by
  unfold C4;rw [if_neg (by simp [stN];omega)];simp only [AaK,hrow,AaJ,hc,AbI,ht]
 rw [hst]at h;simp only [E8,decide_eq_true_eq,AaK]at h ⊢;exact .step hrow (Aa2 ht) h
theorem Ob{A:AM}{q:Int}(h:HP (some A) q=true):E8 (some A) q=true:=by
 simp only [HP,AaM,decide_eq_true_eq]at h;simp only [E8,decide_eq_true_eq];refine .fin ?_;cases hf:A.final[q.toNat]? with
 | none=>rw [hf]at h;simp at h
 | some f=>rw [hf]at h;simp at h;rw [h.2]
theorem So{A:AM}(hok:A.Ok){s:ByteArray}(h:Fb (some A) s=true):∀k,k≤s.size→E8 (some A) (Ku (some A) s k)=true:=by
 have key:∀j,j≤s.size→E8 (some A) (Ku (some A) s (s.size - j))=true:=by
  intro j
  induction j with
  | zero=>intro _;rw [Nat.sub_zero];exact Ob h
  | succ j ih=>
    intro hj;have h1:=ih (by omega);obtain⟨b,hb⟩:=Lz (s:=s) (k:=s.size - (j+1)) (by omega);rw [show s.size - j=s.size - (j+1)+1 by omega,JP hb]at h1;obtain⟨h2,h3⟩:=LK hok s (s.size - (j+1)) (by omega);exact PD hok h2 h3 (UInt8.toNat_lt b) h1
 intro k hk;have:=key (s.size - k) (by omega);rwa [show s.size - (s.size - k)=k by omega]at this
end
end Go.Proofs.YtfbghcpdinlmcaaGreatDoor
namespace Go.Proofs.YtfbghcpdinlmcaaGreatDoor
open Go.VC
attribute [local irreducible] Cp Aw
structure DM where
 cell:List Int
 reps:List Int
 next:List (List Int)
 final:List Bool
structure HW(S:Nat→Prop)(H:Aa)(v:Value)(D:DM):Prop where
 len:D.cell.length=256
 rep:∃ra rc na nc fa fc,v= .agg (Bp D.cell (.slice ra D.reps.length rc) (.slice na D.next.length nc) (.slice fa D.final.length fc)).toArray∧SlD tI S H ra rc D.reps∧SlD GP S H na nc D.next∧SlD A1 S H fa fc D.final
theorem HW.frame{S:Nat→Prop}{H H':Aa}{v:Value}{D:DM}(h:HW S H v D)(k:Agr S H H'):HW S H' v D:=by
 obtain⟨hl,ra,rc,na,nc,fa,fc,e,h1,h2,h3⟩:=h;exact⟨hl,ra,rc,na,nc,fa,fc,e,h1.frame k,h2.frame k,h3.frame k⟩
theorem HW.mono{S S':Nat→Prop}{H:Aa}{v:Value}{D:DM}(h:HW S H v D)(k:∀i,S i→S' i):HW S' H v D:=by
 obtain⟨hl,ra,rc,na,nc,fa,fc,e,h1,h2,h3⟩:=h;exact⟨hl,ra,rc,na,nc,fa,fc,e,h1.mono k,h2.mono k,h3.mono k⟩
def CF:DM:=⟨Aa1 256 0,[0],[[0]],[false]⟩
theorem Qv(H:Aa):Al Tryz.prog 54 #[] H fun v H'=>Agr (Old H) H H'∧H.size≤H'.size∧HW (D9 H H') H' v CF:=by
 refine Al.of_vc Tryz.func54 rfl (Tryz.call54 _) (Ak _ (Bp (Aa1 256 0) (.slice none 0 0) (.slice none 0 0) (.slice none 0 0)) rfl (by kernel_rfl) ?_);intro p1 H1 hp1 hs1 hb1 ha1;refine A2 AL [.int .i64 0] rfl rfl (by decide) (by decide) ?_;intro b2 H2 hb2 hs2 hk2 ha2;refine A2 AL [.int .i64 0] rfl rfl (by decide) (by decide) ?_;intro b3 H3 hb3 hs3 hk3 ha3;refine A2 DH [.slice (some ⟨b3,0,none⟩) 1 1] rfl rfl (by decide) (by decide) ?_;intro b4 H4 hb4 hs4 hk4 ha4;refine A2 Cs [.bool false] rfl rfl (by decide) (by decide) ?_;intro b5 H5 hb5 hs5 hk5 ha5;refine A6 rfl rfl _ rfl (Bp (Aa1 256 0) (.slice (some ⟨b2,0,none⟩) 1 1) (.slice (some ⟨b4,0,none⟩) 1 1) (.slice (some ⟨b5,0,none⟩) 1 1)) (by kernel_rfl) ?_;have hb15:=(((hb1.agr ha2 (show p1<b2 by omega)).agr ha3 (show p1<b3 by omega)).agr ha4 (show p1<b4 by omega)).agr ha5 (show p1<b5 by omega);have hk25:=((hk2.agr ha3 (show b2<b3 by omega)).agr ha4 (show b2<b4 by omega)).agr ha5 (show b2<b5 by omega);have hk35:=(hk3.agr ha4 (show b3<b4 by omega)).agr ha5 (show b3<b5 by omega);have hk45:=hk4.agr ha5 (show b4<b5 by omega);have hl259:(Bp (Aa1 256 0) (.slice (some ⟨b2,0,none⟩) 1 1) (.slice (some ⟨b4,0,none⟩) 1 1) (.slice (some ⟨b5,0,none⟩) 1 1)).length=259:=Bd (by simp);refine VC.stN (cs:=Bp (Aa1 256 0) (.slice (some ⟨b2,0,none⟩) 1 1) (.slice (some ⟨b4,0,none⟩) 1 1) (.slice (some ⟨b5,0,none⟩) 1 1)) (by rw [hl259];rfl) hb15 (Nat.le_of_eq (by rw [hl259,Bd (by simp)])) (CD rfl rfl rfl) ?_;intro H6 hb6 ha6 hs6;rw [Ax (by rw [hl259,Bd (by simp)])]at hb6;refine ldN (cs:=Bp (Aa1 256 0) (.slice (some ⟨b2,0,none⟩) 1 1) (.slice (some ⟨b4,0,none⟩) 1 1) (.slice (some ⟨b5,0,none⟩) 1 1)) (by rw [hl259];exact MM) (hb6.cells fun j v hv=>by rw [Aa5];exact hv) trivial ?_;have z:∀{b:Nat},Blk H6 b 3 [.int .i64 0]→D9 H H6 b→SlD tI (D9 H H6) H6 (some ⟨b,0,none⟩) 1 [0]:=fun h hf=>SlD.ofBlk h hf (Ty.reps_one ⟨rfl,Bs (x:=0) (by decide)⟩) rfl (by decide);refine⟨((((((ha1.mono fun j hj=>by unfold Old at hj;omega).trans (ha2.mono fun j hj=>by unfold Old at hj;omega)).trans (ha3.mono fun j hj=>by unfold Old at hj;omega)).trans (ha4.mono fun j hj=>by unfold Old at hj;omega)).trans (ha5.mono fun j hj=>by unfold Old at hj;omega)).trans (ha6.mono fun j hj=>by unfold Old at hj;omega)),by omega,by simp [CF],_,_,_,_,_,_,rfl,?_,?_,?_⟩
 ·exact z (hk25.agr ha6 (show b2≠p1 by omega)) ⟨by omega,by omega⟩
 ·exact SlD.ofBlk (hk45.agr ha6 (show b4≠p1 by omega)) ⟨by omega,by omega⟩ (Ty.reps_one ⟨_,_,rfl,z (hk35.agr ha6 (show b3≠p1 by omega)) ⟨by omega,by omega⟩⟩) rfl (by decide)
 ·exact SlD.ofBlk (hk5.agr ha6 (show b5≠p1 by omega)) ⟨by omega,by omega⟩ (Ty.reps_one rfl) rfl (by decide)
structure DM.Ok(D:DM):Prop where
 n1:1≤D.next.length
 n2:D.next.length≤65536
 fl:D.final.length=D.next.length
 cell:D.cell.length=256
 rows:∀row∈D.next,row.length≤256∧(∀c∈D.cell,0≤c∧c<(row.length:Int))∧∀t∈row,0≤t∧t<(D.next.length:Int)
def Jq(D:DM)(q:Int)(b:Nat):Int:=if q<0∨(D.next.length:Int)≤q then -1 else((D.next[q.toNat]?).getD []).getD (D.cell.getD b 0).toNat 0
def O9(D:DM)(q:Int):Bool:=decide (0≤q)&&(D.final[q.toNat]?).getD false
theorem VL{S:Nat→Prop}{H:Aa}{v:Value}{D:DM}{K:Value→Aa→Prop}{t:TypeId}(h:HW S H v D)
  (k:∀ra rc na nc fa fc,v= .agg (Bp D.cell (.slice ra D.reps.length rc) (.slice na D.next.length nc) (.slice fa D.final.length fc)).toArray→SlD tI S H ra rc D.reps→SlD GP S H na nc D.next→SlD A1 S H fa fc D.final→
   New H (fun b H'=>K (.pointer (some ⟨b,0,none⟩)) H') t (Bp D.cell (.slice ra D.reps.length rc) (.slice na D.next.length nc) (.slice fa D.final.length fc))):By Tryz.prog (Instr.box t v) H K:=by
 obtain⟨hl,ra,rc,na,nc,fa,fc,rfl,h1,h2,h3⟩:=h;exact B0 (Bp D.cell (.slice ra D.reps.length rc) (.slice na D.next.length nc) (.slice fa D.final.length fc)) rfl (k ra rc na nc fa fc rfl h1 h2 h3)
theorem Pu{D:DM}{q b:Nat}{row:List Int}{c:Nat}{t:Int}(hr:D.next[q]? =some row)(hc:D.cell[b]? =some (c:Int))(ht:row[c]? =some t):Jq D (q:Int) b=t:=by
 have:=(Aa0.1 hr).1;unfold Jq;rw [if_neg (by omega)];simp only [AaK,hr,AaJ,hc,AbI,ht]
theorem DM.Ok.at{D:DM}(h:D.Ok){q b:Nat}(hq:q<D.next.length)(hb:b<256):∃row c t,D.next[q]? =some row∧D.cell[b]? =some ((c:Nat):Int)∧row[c]? =some t∧c<256∧0≤t∧t<(D.next.length:Int)∧t∈row:=by
 obtain⟨row,hr⟩:=Ad hq;obtain⟨ci,hc⟩:=Ad (l:=D.cell) (k:=b) (by rw [h.cell];exact hb);obtain⟨h1,h2,h3⟩:=h.rows row (Aa2 hr);obtain⟨h4,h5⟩:=h2 ci (Aa2 hc);obtain⟨c,rfl⟩:=AaH h4;obtain⟨t,ht⟩:=Ad (l:=row) (k:=c) (by omega);have:=h3 t (Aa2 ht);exact⟨row,c,t,hr,hc,ht,by omega,this.1,this.2,Aa2 ht⟩
structure MkOk(D:DM)(u:List Bool):Prop where
 len:u.length=D.next.length
 live:∀q:Nat,u[q]? =some true→GK D.next D.final q
 fin:∀q:Nat,D.final[q]? =some true→u[q]? =some true
def HY(D:DM)(u:List Bool)(q:Nat):Prop:=u[q]? =some true∨∀(row:List Int) (t:Nat),D.next[q]? =some row→(t:Int)∈row→u[t]? ≠some true
open Classical in
noncomputable def Xr(D:DM)(q:Int):Bool:=decide (GK D.next D.final q.toNat)
end Go.Proofs.YtfbghcpdinlmcaaGreatDoor
namespace Go.Proofs.YtfbghcpdinlmcaaGreatDoor
open Go.VC
section
variable{S:Nat→Prop}{H:Aa}{v:Value}{cells:List (BitVec 256)}{next:List (List Int)}{final:List Bool}
end
structure Z4(next:List (List Int))(cells:List (BitVec 256))(b:Nat)(st:MS):Prop where
 at_:∀(i p:Nat),st.cell[i]? =some p→∃c,st.cols[p]? =some c∧Fc next c (CU cells i)=true
 some_:∀p,p<st.cols.length→∃i,i<b∧st.cell[i]? =some p
theorem NZ(next:List (List Int))(c:Nat):Fc next c c=true:=by simp [Fc]
theorem OJ{next:List (List Int)}{cells:List (BitVec 256)}{sp:Nat→BitVec 256}(hc:∀b,b<256→CU cells b<cells.length):∀b,b≤256→Z4 next cells b (Cp next cells sp b)
 | 0,_=>⟨(fun i p h=>by simp [Cp]at h),(fun p h=>by simp [Cp]at h)⟩
 | b+1,hb=>by
   have ih:=OJ (next:=next) (sp:=sp) hc b (by omega);have ho:=HH (next:=next) (sp:=sp) hc b (by omega);unfold Cp OK GQ;cases hf:My next (Cp next cells sp b).cols (CU cells b)with
   | some k=>
     unfold My at hf;obtain⟨hk,hal,_⟩:=AaA.1 hf;refine⟨fun i p h=>?_,fun p hp=>?_⟩
     ·simp only at h ⊢;by_cases hib:i<b
      ·rw [Aa7 (by rw [ho.cell];exact hib)]at h;exact ih.at_ i p h
      ·rw [Aa4 (by rw [ho.cell];omega),ho.cell]at h;have h0:=(Aa0.1 h).1;simp only [Aa9]at h0;rw [show i - b=0 by omega,AaD]at h;cases h;rw [show i=b by omega];exact⟨_,Ab3 hk,hal⟩
     ·simp only at hp ⊢;obtain⟨i,h1,h2⟩:=ih.some_ p hp;exact⟨i,by omega,by rw [Aa7 (by rw [ho.cell];exact h1)];exact h2⟩
   | none=>
     refine⟨fun i p h=>?_,fun p hp=>?_⟩
     ·simp only at h ⊢;by_cases hib:i<b
      ·rw [Aa7 (by rw [ho.cell];exact hib)]at h;obtain⟨c,h1,h2⟩:=ih.at_ i p h;exact⟨c,by rw [Aa7 (Aa0.1 h1).1];exact h1,h2⟩
      ·rw [Aa4 (by rw [ho.cell];omega),ho.cell]at h;have h0:=(Aa0.1 h).1;simp only [Aa9]at h0;rw [show i - b=0 by omega,AaD]at h;cases h;rw [show i=b by omega];exact⟨CU cells b,by simp,NZ _ _⟩
     ·simp only [AaO,Aa9]at hp ⊢;by_cases hpl:p<(Cp next cells sp b).cols.length
      ·obtain⟨i,h1,h2⟩:=ih.some_ p hpl;exact⟨i,by omega,by rw [Aa7 (by rw [ho.cell];exact h1)];exact h2⟩
      ·exact⟨b,by omega,by rw [Aa4 (by rw [ho.cell];omega),ho.cell,Ab4,AaD];congr 1;omega⟩
attribute [local irreducible] Cp Aw
theorem PB{next:List (List Int)}{c d:Nat}{row:List Int}(h:Fc next c d=true)(hr:row∈next):row[c]? =row[d]? :=by
 unfold Fc at h;simp only [Bool.or_eq_true,beq_iff_eq,AaV]at h;rcases h with h | h
 ·rw [h]
 ·exact h row hr
section
variable{cells:List (BitVec 256)}{next:List (List Int)}{final:List Bool}(hs:BK cells next final.length=true)
include hs
theorem SG{q b:Nat}{row:List Int}(hq:next[q]? =some row)(hb:b<256):∃rA p,(Dp cells next final).next[q]? =some rA∧(Dp cells next final).cell[b]? =some p∧rA[p]? =some (row.getD (CU cells b) 0):=by
 have hc:=fun b hb=>(DV hs (b:=b) hb).1;have ho:=HH (next:=next) (sp:=fun b=>AE b b) hc 256 (AaL _);have h2:=OJ (next:=next) (sp:=fun b=>AE b b) hc 256 (AaL _);obtain⟨p,hp⟩:=Ad (l:=(Cp next cells (fun b=>AE b b) 256).cell) (k:=b) (by rw [ho.cell];exact hb);obtain⟨c,hcol,hal⟩:=h2.at_ b p hp;refine⟨Fq (Cp next cells (fun b=>AE b b) 256).cols row,p,by simp only [Dp];rw [AaE,hq];rfl,hp,?_⟩;unfold Fq;rw [AaE,hcol];simp only [AaR,AaU.injEq];rw [AaJ,AaJ,PB hal (Aa2 hq)]
theorem Qo{q b:Nat}{row:List Int}(hq:next[q]? =some row)(hb:b<256):C4 (some (Dp cells next final)) (q:Int) b=row.getD (CU cells b) 0:=by
 obtain⟨rA,p,h1,h2,h3⟩:=SG hs hq hb;have:=(Aa0.1 h1).1;unfold C4;rw [if_neg (by simp [stN];omega)];simp only [AaK,h1,AaJ,h2,AbI,h3]
end
section
variable(cells:List (BitVec 256))(next:List (List Int))(final:List Bool)
end
end Go.Proofs.YtfbghcpdinlmcaaGreatDoor
namespace Go.Proofs.YtfbghcpdinlmcaaGreatDoor
open Go.VC
attribute [local irreducible] Cp Aw
theorem XV{S:Nat→Prop}{H:Aa}{v w:Value}{o:Option AM}{D:DM}(hS:∀k,S k→k<H.size)(hv:Db S H v o)(hw:HW S H w D)(hok:D.Ok)(hn:stN o=D.next.length)(hst:∀(q:Int) (b:Nat),b<256→C4 o q b=Jq D q b)(hfi:∀q:Int,HP o q=O9 D q):
  B8 Tryz.prog 40 #[v,w] H (.bool true):=by
 have hlen:=hw.len;have hn1:=hok.n1;have hn2:=hok.n2;have hfl:=hok.fl;refine Al.of_vc Tryz.func40 rfl (Tryz.call40 _) (VL hw fun ra rc na nc fa fc he h1 h2 h3=>?_);subst he;intro pb H1 hpb hs1 hb1 ha1;have hA1:Agr (Old H) H H1:=ha1.mono fun j hj=>by unfold Old at hj;omega
 have hF:∀{H':Aa},Agr (Old H) H H'→Db S H' v o:=fun h=>hv.frame (h.mono hS);have up:∀{H':Aa},Agr (Old H) H H'→∀k,S k→k<H'.size:=fun h k hk=>As h (hS k hk);have tr:∀{H2 H':Aa},Agr (Old H) H H2→Agr (Old H2) H2 H'→Agr (Old H) H H':=fun h k=>h.trans (k.mono fun j hj=>As h hj);(conv=>whnf);refine Ar.quiet (Old H1) rfl (by kernel_rfl) (RS (fun H' h'=>LS (hF (tr hA1 h'))) (VC.fa Lv ?_));refine ld1 DZ (by rw [hb1.cell,Aa5];exact IN hlen) hb1.lt ?_;have e0:((stN o:Int) != (D.next.length:Int))=false:=by rw [hn];simp
 (conv=>whnf);rw [e0];(conv=>whnf);intro H2 ha2;have hA2:=tr hA1 ha2;(conv=>whnf);refine A3.mk [5] (fun q:Nat=>[.int .i64 q]) (fun q H3=>q≤D.next.length∧Agr (Old H1) H1 H3) (fun q _=>D.next.length - q) ?_ ?_
 ·(conv=>whnf);exact⟨0,rfl,by omega,ha2⟩
 ·rintro q H3 junk ⟨hq,ha3⟩;have hA3:=tr hA1 ha3;have hb3:=hb1.agr ha3 hb1.lt;refine VC.fa Lv ?_;refine ld1 DZ (by rw [hb3.cell,Aa5];exact IN hlen) trivial ?_;refine AB.mk (fun h=>?_) (fun h=>?_)<;>simp only [decide_eq_true_eq,decide_eq_false_iff_not]at h
  ·obtain⟨f,hf⟩:=Ad (l:=D.final) (k:=q) (by omega);have hfin:HP o (q:Int)=f:=by rw [hfi];simp [O9,hf]
   (conv=>whnf);refine Ar.quiet (Old H3) rfl (by kernel_rfl) (RS (fun H' h'=>Rs (hF (tr hA3 h'))) (VC.fa PZ ?_));refine ld1 FM (by rw [hb3.cell,Aa5];exact O3 hlen) hb3.lt ?_;refine ixr Cs (h3.frame (hA3.mono hS)) hf rfl ?_;rintro b4 o4 cs4 hSb4 hcells4 rfl;refine ld1 ct4 hcells4.one (up hA3 _ hSb4) (Lf rfl ?_);rw [hfin,show(!(f==f))=false by simp];(conv=>whnf);intro H4 ha4;have ha14:=ha3.trans (ha4.mono fun k hk=>As ha3 hk);(conv=>whnf);refine A3.mk [6] (fun b:Nat=>[.int .i64 b]) (fun b H5=>b≤256∧Agr (Old H1) H1 H5) (fun b _=>256 - b) ?_ ?_
   ·(conv=>whnf);exact⟨0,rfl,by omega,ha14⟩
   ·rintro b H5 junk5 ⟨hb,ha5⟩;have hA5:=tr hA1 ha5;have hb5:=hb1.agr ha5 hb1.lt;refine AB.mk (fun h=>?_) (fun h=>?_)<;>simp only [decide_eq_true_eq,decide_eq_false_iff_not]at h
    ·obtain⟨row,c,t,hr,hc,ht,hc256,_⟩:=hok.at (q:=q) (b:=b) (by omega) (by omega);have hstep:C4 o (q:Int) b=t:=by rw [hst _ _ (by omega),Pu hr hc ht]
     (conv=>whnf);refine Ar.quiet (Old H5) rfl (by kernel_rfl) ?_;(conv=>whnf);rw [w8 (x:=(b:Int)) (by omega) (by omega)];refine RS (fun H' h'=>Vh (up (tr hA5 h')) (hF (tr hA5 h')) (show b<256 by omega)) (VC.fa Lv ?_);refine ld1 DZ (by rw [hb5.cell,Aa5];exact IN hlen) hb5.lt ?_;refine ixr DH (h2.frame (hA5.mono hS)) hr rfl ?_;rintro b6 o6 cs6 hSb6 hcells6 ⟨xa,xc,rfl,hx⟩;refine ld1 CW hcells6.one (up hA5 _ hSb6) (VC.fa Ui (ixa Y9 (by omega) (by omega) ?_));refine ld1 (v:=.int .i64 (c:Int)) ct3 (by rw [hb5.cell,show 0+0+((b:Nat):Int).toNat*1=b by omega];exact VK hc) hb5.lt ?_;refine ixr AL hx ht rfl ?_;rintro b7 o7 cs7 hSb7 hcells7 ⟨rfl,-⟩;refine ld1 ct3 hcells7.one (up hA5 _ hSb7) ?_;rw [hstep];have e1:(t != t)=false:=by simp
     (conv=>whnf);rw [e1];(conv=>whnf);intro H6 ha6;(conv=>whnf);rw [w64 (x:=(b:Int)+1) (by omega) (by omega)];exact⟨rfl,b+1,by simp,⟨by omega,ha5.trans (ha6.mono fun k hk=>As ha5 hk)⟩,by omega⟩
    ·(conv=>whnf);rw [w64 (x:=(q:Int)+1) (by omega) (by omega)];exact⟨rfl,q+1,by simp,⟨by omega,ha5⟩,by omega⟩
  ·(conv=>whnf);exact⟨rfl,hA3⟩
end Go.Proofs.YtfbghcpdinlmcaaGreatDoor
namespace Go.Proofs.YtfbghcpdinlmcaaGreatDoor
open Go.VC
def HQ(sim:Nat→Nat→Bool):Nat→List Nat×List Nat
 | 0=>([],[])
 | b+1=>match(HQ sim b).1.findIdx? fun g=>sim b g with
   | some k=>((HQ sim b).1,(HQ sim b).2++[k])
   | none=>((HQ sim b).1++[b],(HQ sim b).2++[(HQ sim b).1.length])
structure GrOk(sim:Nat→Nat→Bool)(b:Nat)(f ps:List Nat):Prop where
 plen:ps.length=b
 flen:f.length≤b
 lt:∀p∈ps,p<f.length
 first:∀(k g:Nat),f[k]? =some g→g<b∧ps[g]? =some k
 sig:∀(i p g:Nat),ps[i]? =some p→f[p]? =some g→sim i g=true∧g≤i
attribute [local irreducible] Cp HQ
end Go.Proofs.YtfbghcpdinlmcaaGreatDoor
namespace Go.Proofs.YtfbghcpdinlmcaaGreatDoor
open Go.VC
attribute [local irreducible] Cp HQ
structure Zt(o:Option AM)(ls:List Nat):Prop where
 len:ls.length=(Li o).length
 up:ls.Pairwise (·<·)
 least:∀(k:Nat) (c:BitVec 256),(Li o)[k]? =some c→∃l,ls[k]? =some l∧l<256∧(Bt c 0).1=l∧c.getLsbD l=true
 keeps:∀(k:Nat) (c:BitVec 256) (l b:Nat),(Li o)[k]? =some c→ls[k]? =some l→b<256→c.getLsbD b=true→l≤b∧∀q:Int,0≤q→q<stN o→C4 o q b=C4 o q l
 cols:∀A,o=some A→∀k,k<A.sets.length→∃b,b<256∧A.cell[b]? =some k
 part:∀b,b<256→∃(k:Nat) (c:BitVec 256),(Li o)[k]? =some c∧c.getLsbD b=true∧∀(k':Nat) (c':BitVec 256),(Li o)[k']? =some c'→c'.getLsbD b=true→k'=k
end Go.Proofs.YtfbghcpdinlmcaaGreatDoor
namespace Go.VC
section
variable{α:Type}{T:Ty α}{e:TypeId}{a:Option Addr}{n cap:Nat}{xs:List α}{B:Nat→Prop}{H0 H:Aa}{ps:List Pc}
end
end Go.VC
namespace Go.Proofs.YtfbghcpdinlmcaaGreatDoor
open Go.VC
attribute [local irreducible] Cp HQ Aw
end Go.Proofs.YtfbghcpdinlmcaaGreatDoor
namespace Go.Proofs.YtfbghcpdinlmcaaGreatDoor
open Go.VC
structure Nd where
 s:Int
 x:Int
 y:Int
deriving DecidableEq
def Nd.Ok(n:Nd):Prop:=inK .i64 n.s∧inK .i64 n.x∧inK .i64 n.y
def ndV(n:Nd):Value:=.agg #[.int .i64 n.s,.int .i64 n.x,.int .i64 n.y]
def ndL(n:Nd):List Value:=[.int .i64 n.s,.int .i64 n.x,.int .i64 n.y]
def tNd:Ty Nd where
 size:=3
 rep _ _ cs n:=cs=ndL n
 len h:=by rw [h];rfl
 frame h _:=h
 mono h _:=h
end Go.Proofs.YtfbghcpdinlmcaaGreatDoor
namespace Go.Proofs.YtfbghcpdinlmcaaGreatDoor
structure Gr where
 next:Nd→Nat→List Nd
 ends:Nd→Bool
def NR(g:Gr):List Nat→Nd→Prop
 | [],n=>g.ends n=true
 | b::w,n=>∃t,t∈g.next n b∧NR g w t
def Ts(g:Gr)(P:Nd→Prop)(w:List Nat):Prop:=∃n,P n∧NR g w n
def MD(g:Gr)(P:Nd→Prop)(b:Nat):Nd→Prop:=fun t=>∃n,P n∧t∈g.next n b
def Wn:List Nat→List Nat→Prop
 | a::s,b::t=>a<b∨(a=b∧Wn s t)
 | _,_=>True
def TI(w:List Nat):Prop:=∀b∈w,b<256
def QQ(g:Gr)(P:Nd→Prop)(k:Nat)(w:List Nat):Prop:=w.length=k∧TI w∧Ts g P w∧∀u,u.length=k→TI u→Ts g P u→Wn w u
inductive DI(g:Gr)(by_:List Nat)(a:Nd):Nd→Prop
 | refl:DI g by_ a a
 | step {n t:Nd} {b:Nat} (h:DI g by_ a n) (hb:b∈by_) (ht:t∈g.next n b):DI g by_ a t
structure Zz(g:Gr)(by_:List Nat)(a:Nd)(left:Nd→Option Nat):Prop where
 ends:∀n,DI g by_ a n→g.ends n=true→left n=some 0
 pred:∀n k,left n=some k→∀p b,DI g by_ a p→b∈by_→n∈g.next p b→∃j,j≤k+1∧left p=some j
 word:∀n k,left n=some k→DI g by_ a n∧∃w,w.length=k∧(∀b∈w,b∈by_)∧NR g w n
section
variable{g:Gr}{by_:List Nat}{a:Nd}{left:Nd→Option Nat}
variable(hby:∀c,c<256→∃r∈by_,r≤c∧∀n,g.next n r=g.next n c)
include hby
end
end Go.Proofs.YtfbghcpdinlmcaaGreatDoor
namespace Go.Proofs.YtfbghcpdinlmcaaGreatDoor
open Go.VC
def QR(g:Gr)(by_:List Nat)(a n:Nd)(left:Nd→Option Nat)(k:Nat):Prop:=∀p b,DI g by_ a p→b∈by_→n∈g.next p b→∃j,j≤k+1∧left p=some j
structure BInv(g:Gr)(by_:List Nat)(a:Nd)(left:Nd→Option Nat)(todo:List Nd)(k:Nat):Prop where
 ends:∀n,DI g by_ a n→g.ends n=true→left n=some 0
 word:∀n j,left n=some j→DI g by_ a n∧∃w,w.length=j∧(∀b∈w,b∈by_)∧NR g w n
 q:∀n∈todo,∃j,left n=some j∧k≤j
 up:∀n j,left n=some j→j≤k+1
 sorted:todo.Pairwise fun n p=>∀i j,left n=some i→left p=some j→i≤j
 done:∀n j,left n=some j→n∉todo→QR g by_ a n left j
structure BMid(g:Gr)(by_:List Nat)(a:Nd)(left:Nd→Option Nat)(todo:List Nd)(n:Nd)(k:Nat)(d:Nd→Prop):Prop where
 ends:∀n,DI g by_ a n→g.ends n=true→left n=some 0
 word:∀n j,left n=some j→DI g by_ a n∧∃w,w.length=j∧(∀b∈w,b∈by_)∧NR g w n
 here:left n=some k
 q:∀n∈todo,∃j,left n=some j∧k≤j
 up:∀n j,left n=some j→j≤k+1
 sorted:todo.Pairwise fun n p=>∀i j,left n=some i→left p=some j→i≤j
 done:∀m j,left m=some j→m∉todo→m≠n→QR g by_ a m left j
 now:∀p,d p→∃j,j≤k+1∧left p=some j
section
variable{g:Gr}{by_:List Nat}{a n p:Nd}{left:Nd→Option Nat}{todo:List Nd}{k:Nat}{d:Nd→Prop}
end
end Go.Proofs.YtfbghcpdinlmcaaGreatDoor
namespace Go.Proofs.YtfbghcpdinlmcaaGreatDoor
structure RInv(g:Gr)(by_:List Nat)(a:Nd)(order:List Nd)(bk:Nd→Nd→Prop)(d:Nd→Nat→Nd→Prop):Prop where
 first:order[0]? =some a
 nodup:order.Nodup
 reach:∀n∈order,DI g by_ a n
 back:∀t p,bk t p→DI g by_ a p∧∃b,b∈by_∧t∈g.next p b
 done:∀n b t,d n b t→t∈order∧bk t n
section
variable{g:Gr}{by_:List Nat}{a n t:Nd}{b:Nat}{order:List Nd}{bk bk':Nd→Nd→Prop}{d:Nd→Nat→Nd→Prop}
end
def To(g:Gr):List Nat→Nd→Nd→Prop
 | [],n,t=>n=t
 | b::w,n,t=>∃m,m∈g.next n b∧To g w m t
abbrev NW:=Nd×List Nat
structure RowOk(g:Gr)(by_:List Nat)(a:Nd)(L:Nat)(F:List NW):Prop where
 nd:(F.map (·.1)).Nodup
 ok:∀x∈F,x.2.length=L∧(∀b∈x.2,b∈by_)∧To g x.2 a x.1
 all:∀w t,w.length=L→(∀b∈w,b∈by_)→To g w a t→∃x∈F,x.1=t∧Wn x.2 w
structure Z7(g:Gr)(by_:List Nat)(a:Nd)(L:Nat)(F:List NW)(d:Nd→List Nat→Prop):Prop where
 nd:(F.map (·.1)).Nodup
 ok:∀x∈F,x.2.length=L∧(∀b∈x.2,b∈by_)∧To g x.2 a x.1
 all:∀t w,d t w→w.length=L→∃x∈F,x.1=t∧Wn x.2 w
section
variable{g:Gr}{by_:List Nat}{a n t:Nd}{L:Nat}{F F':List NW}{d d':Nd→List Nat→Prop}{w:List Nat}{r:Bool}
variable(hby:∀c,c<256→∃r∈by_,r≤c∧∀n,g.next n r=g.next n c)
include hby
end
end Go.Proofs.YtfbghcpdinlmcaaGreatDoor
namespace Go.Proofs.YtfbghcpdinlmcaaGreatDoor
open Go.VC
def Av:Nd:=⟨0,0,0⟩
section
variable{a b:Option AM}
end
section
variable{a:Option AM}
end
end Go.Proofs.YtfbghcpdinlmcaaGreatDoor
namespace Go.VC
section
variable{α β:Type}{Ok:α→Prop}{enc:α→Value}{T:Ty β}{e:TypeId}{b:Nat}{m:α→Option Value}{B:Nat→Prop}{H0 H H':Aa}{ps:List Pc}
end
end Go.VC
namespace Go.Proofs.YtfbghcpdinlmcaaGreatDoor
open Go.VC
structure Zu(g:Gr)(by_:List Nat)(M C:Nat):Prop where
 byl:∀b∈by_,b<256
 nb:by_.length≤256
 ok:∀n,DI g by_ Av n→n.Ok
 card:∀l:List Nd,l.Nodup→(∀n∈l,DI g by_ Av n)→l.length≤M
 occ:∀n b t,DI g by_ Av n→b∈by_→(g.next n b).count t≤C
 c0:1≤C
 big:C*(256*M)≤5864062014805
structure Z3(S:Nat→Prop)(H:Aa)(v:Value)(g:Gr)(by_:List Nat):Prop where
 out:∃(pg:Nat) (ba:Option Addr) (bc:Nat) (f e:FuncId) (fs cs es ds:List Value),v= .pointer (some ⟨pg,0,none⟩)∧S pg∧
  Blk H pg 206 [.slice ba by_.length bc,.func (.func f) fs.toArray cs.toArray,.func (.func e) es.toArray ds.toArray]∧SlD (HT .u8) S H ba bc (by_.map fun(b:Nat)=>(b:Int))∧
  (∀H',Agr S H H'→∀n b,DI g by_ Av n→b∈by_→Al Tryz.prog f (fs++[ndV n,.int .u8 (b:Int)]++cs).toArray H' fun v H''=>Agr (Old H') H' H''∧SlO tNd none_ H'' H'.size 208 v (g.next n b))∧
  (∀H',Agr S H H'→∀n,DI g by_ Av n→B8 Tryz.prog e (es++[ndV n]++ds).toArray H' (.bool (g.ends n)))
end Go.Proofs.YtfbghcpdinlmcaaGreatDoor
namespace Go.VC
end Go.VC
namespace Go.Proofs.YtfbghcpdinlmcaaGreatDoor
open Go.VC
structure Pre(g:Gr)(a:Nd)(lf:Nd→Option Nat)(L r:Nat)(w:List Nat)(P:Nd→Prop):Prop where
 len:w.length+r=L
 fst:∀v,QQ g P r v→QQ g (·=a) L (w++v)
 all:∀n,P n→lf n=some r
 ne:∃n,P n
section
variable{g:Gr}{by_:List Nat}{a:Nd}{lf:Nd→Option Nat}{L k b:Nat}{w:List Nat}{P Q:Nd→Prop}
variable(hby:∀c,c<256→∃r∈by_,r≤c∧∀n,g.next n r=g.next n c)
include hby
end
structure Seen(g:Gr)(by_:List Nat)(lf:Nd→Option Nat)(seen:List Nd):Prop where
 nd:seen.Nodup
 mem:∀n,(lf n).isSome=true↔n∈seen
 le:∀n j,lf n=some j→j≤seen.length
 rch:∀n∈seen,DI g by_ Av n
end Go.Proofs.YtfbghcpdinlmcaaGreatDoor
namespace Go.Proofs.YtfbghcpdinlmcaaGreatDoor
open Go.VC
attribute [local irreducible] Cp HQ Aw
def inA(o:Option AM)(q:Int):Prop:=0≤q∧q<stN o
structure Z8(o:Option AM):Prop where
 n1:1≤stN o
 n2:stN o≤65536
 step:∀q b,inA o q→b<256→inA o (C4 o q b)
structure InR(K:Nat)(n:Nd):Prop where
 s0:0≤n.s
 s1:n.s≤K
 x0:0≤n.x
 x1:n.x<65536
 y0:0≤n.y
 y1:n.y<65536
 z:n.s=0→n.y=0
section
variable{a b:Option AM}
end
structure VarA(S:Nat→Prop)(H:Aa)(p:Nat)(o:Option AM):Prop where
 out:∃v,S p∧Blk H p 23 [v]∧Db S H v o
structure VarF(S:Nat→Prop)(H:Aa)(p pa:Nat):Prop where
 in_:S p
 blk:Blk H p 269 [.func (.func 148) #[] #[.pointer (some ⟨pa,0,none⟩)]]
end Go.Proofs.YtfbghcpdinlmcaaGreatDoor
namespace Go.Proofs.YtfbghcpdinlmcaaGreatDoor
open Go.VC
attribute [local irreducible] Cp Aw HQ
end Go.Proofs.YtfbghcpdinlmcaaGreatDoor
namespace Go.Proofs.YtfbghcpdinlmcaaGreatDoor
open Go.VC
attribute [local irreducible] Cp Aw
structure Both(o:Option AM)(D:DM):Prop where
 ok:D.Ok
 n:stN o=D.next.length
 step:∀(q:Int) (b:Nat),b<256→C4 o q b=Jq D q b
 fin:∀q:Int,HP o q=O9 D q
 alive:∀q:Int,E8 o q=Xr D q
section
variable{o:Option AM}{D:DM}
end
end Go.Proofs.YtfbghcpdinlmcaaGreatDoor
namespace Go.Proofs.YtfbghcpdinlmcaaGreatDoor
open Go.VC
attribute [local irreducible] Cp HQ Aw
end Go.Proofs.YtfbghcpdinlmcaaGreatDoor
namespace Go.VC
theorem StB.cat{B:Nat→Prop}{H0 H H':Aa}{ps qs:List Pc}(st:StB B H0 H ps)(st2:St H H' qs):StB B H0 H' (ps++qs):=by
 have h1:=st.call st2.old;refine⟨h1.old,h1.lt0,h1.size,fun p hp=>?_,fun p hp k hk=>?_,?_⟩
 ·rcases AaG.1 hp with hp | hp
  ·exact h1.oks p hp
  ·exact st2.oks p hp
 ·rcases AaG.1 hp with hp | hp
  ·exact h1.rng p hp k hk
  ·obtain⟨h2,h3⟩:=st2.rng p hp k hk;exact⟨fun hB=>h2 (st.up hB),h3⟩
 ·refine List.pairwise_append.2 ⟨h1.dis,st2.dis,fun p hp q hq k hk hk'=>?_⟩;exact(st2.rng q hq k hk').1 (st.rng p hp k hk).2
end Go.VC
namespace Go.Proofs.YtfbghcpdinlmcaaGreatDoor
open Go.VC
attribute [local irreducible] Cp HQ Aw
def pV(a:Option Addr)(cap:Nat)(xs:List Int)(S:Nat→Prop):Pc:=⟨S,fun H=>SlD tI S H a cap xs,fun h hp=>hp.frame h⟩
theorem CO{l cs:List Value}(h:l.length=cs.length):Ae l 0 cs=cs:=by
 apply AaS;intro j;by_cases hj:j<cs.length
 ·rw [Cy (by omega),if_pos ⟨AaZ _,by omega⟩,Nat.sub_zero]
 ·rw [Aa3 (by rw [D1 (by omega)];omega),Aa3 (by omega)]
theorem ZE:(Tryz.prog.info? 190).bind (·.zero)=some (.agg (Value.slice none 0 0::Aa1 1024 (Value.slice none 0 0)).toArray):=by kernel_rfl
theorem TD(j:Nat)(H:Aa):(Gj [] j).ok H (.slice none 0 0):=SlO.nil
def DD(a:NfM):List (BitVec 256):=(a.edges.filter fun e=> !e.sil).map fun e=>e.set
def Me(a:NfM):List Nat:=(Aw (DD a) 256).1
abbrev zD:List Value:=Bp (Aa1 256 0) (.slice none 0 0) (.slice none 0 0) (.slice none 0 0)
theorem TV(e:EdM):∀(j:Nat) (v:Value),(Ap e.set)[j]? =some v→(EL e)[3+j]? =some v:=by
 intro j v h;unfold EL;rw [Aa4 (by simp)];simpa using h
theorem Pm{a:NfM}{i:Nat}{e:EdM}(h:a.edges[i]? =some e):((a.edges.take (i+1)).filter fun e=> !e.sil).map (fun e=>e.set)=(((a.edges.take i).filter fun e=> !e.sil).map fun e=>e.set)++if e.sil then []else [e.set]:=by
 rw [Ac h,AbE,AaX];cases hs:e.sil<;>simp [hs]
theorem W5{row:List Nat}{m k t:Nat}(hr:row.length=k)(hk:k<m):(Bg row++Aa1 (m - row.length) 0).set k (t:Int)=Bg (row++[t])++Aa1 (m - (row++[t]).length) 0:=by
 have hl:(Bg row).length=k:=by unfold Bg;rw [Aa6,hr]
 obtain⟨d,hd⟩:∃d,m - row.length=d+1:=⟨m - row.length - 1,by omega⟩;rw [hd,List.replicate_succ,Ab0 _ _ (by omega),hl,Ab4,List.set_cons_zero];unfold Bg;rw [AaX,List.append_assoc,AaO,show m - (row.length+[t].length)=d by simp only [AaT,AaQ];omega];rfl
theorem S5{S:Nat→Prop}{H:Aa}{v:Value}{a:NfM}{b:Int}(h:NdV S H v a)(hb:b<1∨4096<b):
  Al Tryz.prog 39 #[v,.int .i64 b] H fun r H'=>Agr (Old H) H H'∧∃l:List Value,r= .tuple #[.agg l.toArray,.int .i64 2]∧l.length=259∧l.all (·.oneCell')=true:=by
 refine Al.of_vc Tryz.func39 rfl (Tryz.call39 _) (Qr h fun ea ec he0 h1=>?_);subst he0;intro p H1 hp hs1 hb1 ha1;have st1:=(St.nil H).box hp hs1 hb1 ha1;refine Ak _ zD rfl (by kernel_rfl) ?_;intro p4 H2 hp4 hs2 hb2 ha2;have st2:=st1.box hp4 hs2 hb2 ha2;have go:∀(K:Prop),(∀v3 H3,Agr (Old H2) H2 H3→HW (D9 H2 H3) H3 v3 CF→K)→True:=fun _ _=>trivial;by_cases hl:b<1
 ·have d1:decide (b<(1:Int))=true:=decide_eq_true hl;(conv=>whnf);rw [d1];refine Ag.mk (Qv H2) ?_;rintro v3 H3 ⟨ha3,-,hv3⟩;obtain⟨hl3,x1,x2,x3,x4,x5,x6,rfl,-,-,-⟩:=hv3;have st3:=st2.call ha3;refine AI (cs:=Bp CF.cell (.slice x1 CF.reps.length x2) (.slice x3 CF.next.length x4) (.slice x5 CF.final.length x6)) st3 1 (by rw [Bd hl3];rfl) rfl (by rw [Bd hl3];decide) (CD rfl rfl rfl) fun H4 st4=>?_;rw [CO (by rw [Bd hl3];rfl)]at st4;refine ldN (cs:=Bp CF.cell (.slice x1 CF.reps.length x2) (.slice x3 CF.next.length x4) (.slice x5 CF.final.length x6)) (by rw [Bd hl3];exact MM) ((st4.blk 1 rfl).cells fun j v hv=>by rw [Aa5];exact hv) trivial ?_;exact⟨st4.old,_,rfl,Bd hl3,CD rfl rfl rfl⟩
 ·have d1:decide (b<(1:Int))=false:=decide_eq_false hl;have d2:decide ((4096:Int)<b)=true:=decide_eq_true (by omega);(conv=>whnf);rw [d1];(conv=>whnf);rw [d2];refine Ag.mk (Qv H2) ?_;rintro v3 H3 ⟨ha3,-,hv3⟩;obtain⟨hl3,x1,x2,x3,x4,x5,x6,rfl,-,-,-⟩:=hv3;have st3:=st2.call ha3;refine AI (cs:=Bp CF.cell (.slice x1 CF.reps.length x2) (.slice x3 CF.next.length x4) (.slice x5 CF.final.length x6)) st3 1 (by rw [Bd hl3];rfl) rfl (by rw [Bd hl3];decide) (CD rfl rfl rfl) fun H4 st4=>?_;rw [CO (by rw [Bd hl3];rfl)]at st4;refine ldN (cs:=Bp CF.cell (.slice x1 CF.reps.length x2) (.slice x3 CF.next.length x4) (.slice x5 CF.final.length x6)) (by rw [Bd hl3];exact MM) ((st4.blk 1 rfl).cells fun j v hv=>by rw [Aa5];exact hv) trivial ?_;exact⟨st4.old,_,rfl,Bd hl3,CD rfl rfl rfl⟩
noncomputable def Yv(a:NfM)(budget:Nat)(H H':Aa)(r:Value):Prop:=Agr (Old H) H H'∧
 match FN budget (AR a) (Me a) (Cu (EI a))with
 | none=>∃l:List Value,r= .tuple #[.agg l.toArray,.int .i64 40]∧l.length=259∧l.all (·.oneCell')=true
 | some (F,rows)=>∃v,r= .tuple #[v,.int .i64 0]∧HW (D9 H H') H' v ⟨asI (Aw (DD a) 256).2,asI (Me a),rows.map Bg,F.map fun l=>decide (a.fin∈l)⟩
theorem Xx{S0:Nat→Prop}{H:Aa}{v:Value}{a:NfM}{budget:Nat}(hS0:∀k,S0 k→k<H.size)(h:NdV S0 H v a)(hb1:1≤budget)(hb2:budget≤4096):
  Al Tryz.prog 39 #[v,.int .i64 (budget:Int)] H fun r H'=>Yv a budget H H' r:=by
 have hr:=h.1;have hl:=h.2.1;have d1:decide ((budget:Int)<1)=false:=decide_eq_false (by omega);have d2:decide ((4096:Int)<(budget:Int))=false:=decide_eq_false (by omega);have hnle:=HK a;refine Al.of_vc Tryz.func39 rfl (Tryz.call39 _) (Qr h fun ea ec he0 h1=>?_);subst he0;intro p H1 hp hs1 hbb1 ha1;have st1:=(St.nil H).box hp hs1 hbb1 ha1;refine Ak _ zD rfl (by kernel_rfl) ?_;intro p4 H2 hp4 hs2 hbb2 ha2;have st2:=st1.box hp4 hs2 hbb2 ha2;(conv=>whnf);rw [d1];(conv=>whnf);rw [d2];have st3:=st2.nils tB 157;have hcap:∀i,(((a.edges.take i).filter fun e=> !e.sil).map fun e=>e.set).length≤i:=fun i=>by
  rw [Aa6];exact AbW (List.length_filter_le _ _) (List.length_take_le _ _)
 (conv=>whnf);refine A3.mk [6,7] (fun x:Nat×Option Addr×Nat=>match x with | (i,a5,c5)=>[.slice a5 (((a.edges.take i).filter fun e=> !e.sil).map fun e=>e.set).length c5,.int .i64 (i:Int)])
  (fun x H3=>match x with | (i,a5,c5)=>i≤a.edges.length∧St H H3 [pB 81 p (nfL a (.slice ea a.edges.length ec)),pB 43 p4 zD,pS tB 157 a5 (((a.edges.take i).filter fun e=> !e.sil).map fun e=>e.set).length c5 (((a.edges.take i).filter fun e=> !e.sil).map fun e=>e.set)]) (fun x _=>a.edges.length - x.1) ?_ ?_
 ·(conv=>whnf);exact⟨(0,none,0),rfl,AaZ _,st3⟩
 ·rintro⟨i,a5,c5⟩ H3 junk3 ⟨hi,st4⟩;have hcapi:=hcap i;have hp4':=st4.blk 0 rfl;refine VC.fa Gs ?_;refine ld1 (v:=.slice ea a.edges.length ec) J6 (by rw [hp4'.cell];rfl) trivial ?_;refine AB.mk (fun hz=>?_) (fun hz=>?_)<;>simp only [decide_eq_true_eq,decide_eq_false_iff_not]at hz
  ·obtain⟨e,he⟩:=Ad (l:=a.edges) (k:=i) (by omega);have hsn:=Pm he;refine Am.run (VC.fa Gs ?_);refine ld1 (v:=.slice ea a.edges.length ec) J6 (by rw [hp4'.cell];rfl) trivial ?_;refine ixr (i:=i) HS (h1.frame (st4.old.mono hS0)) he rfl ?_;rintro b6 o6 c6 hS6 hc6 ⟨rfl,hok⟩;refine VC.fa Nm (ld1 (v:=.bool e.sil) ct4 (hc6 2 _ rfl) trivial ?_);cases hsil:e.sil with
   | true=>
     rw [hsil,if_pos rfl,List.append_nil]at hsn;(conv=>whnf);rw [w64 (x:=(i:Int)+1) (by omega) (by omega)];refine⟨rfl,(i+1,a5,c5),by simp only [hsn];simp,⟨by omega,?_⟩,by simp only;omega⟩;rw [hsn];exact st4
   | false=>
     rw [hsil,if_neg (by decide)]at hsn;refine VC.fa Gs ?_;refine ld1 (v:=.slice ea a.edges.length ec) J6 (by rw [hp4'.cell];rfl) trivial ?_;refine ixr (i:=i) HS (h1.frame (st4.old.mono hS0)) he rfl ?_;rintro b7 o7 c7 hS7 hc7 ⟨rfl,hok⟩;refine VC.fa Ry ?_;refine ldN (cs:=Ap e.set) (by rw [show(Ap e.set).length=256 from Bj _ _];exact KW) (fun j v hv=>by rw [Ac3];exact hc7 (3+j) v (TV e j v hv)) trivial ?_;refine A2 RW (Ap e.set) rfl (Bj _ _) (by decide) (by decide) ?_;intro q8 H8 hq8 hs8 hb8 ha8;refine MO (ys:=[e.set]) (st4.skip hq8 ha8) 2 RW rfl (hb8.cells (o:=0) (cs:=Ap e.set) fun j v hv=>by rw [Aa5];exact hv) (Ty.reps_one rfl) rfl (fun u hu=>AaV.1 (EX e.set 256) u hu) (by unfold maxLen;simp only [AaT,AaQ];omega) (by simp only [AaT,AaQ];omega) fun a9 c9 H9 st9 _=>?_;have e2:(((a.edges.take i).filter fun e=> !e.sil).map fun e=>e.set).length+[e.set].length=(((a.edges.take (i+1)).filter fun e=> !e.sil).map fun e=>e.set).length:=by rw [hsn];exact AaO.symm
     rw [←hsn,e2]at st9;rw [e2];(conv=>whnf);rw [w64 (x:=(i:Int)+1) (by omega) (by omega)];exact⟨rfl,(i+1,a9,c9),by simp,⟨by omega,st9⟩,by simp only;omega⟩
  ·obtain rfl:i=a.edges.length:=by omega
   rw [AaI]at st4 hcapi;rw [AaI];change St H H3 [_,_,pS tB 157 a5 (DD a).length c5 (DD a)]at st4;change (DD a).length≤_ at hcapi;rw [show((a.edges.filter fun e=> !e.sil).map fun e=>e.set)=DD a from rfl];refine Ag.mk (UJ a5 c5 (DD a) (Old H3) H3 (fun k hk=>hk) (st4.view 2 rfl) (by omega)) ?_;rintro v5 H5 ⟨ha5,-,ra,rc,rfl,hreps⟩;have hcl:(asI (Aw (DD a) 256).2).length=256:=by rw [Dh];exact(Fe (DD a) 256).plen
   have hrlt:∀r∈(Aw (DD a) 256).1,r<256:=fun r hr=>by obtain⟨i,hi⟩:=Ab1 hr;exact((Fe (DD a) 256).first i r hi).1
   have hrlen:(Aw (DD a) 256).1.length≤256:=(Fe (DD a) 256).flen;obtain⟨reps,hreq⟩:∃reps,reps=(Aw (DD a) 256).1:=⟨_,rfl⟩;obtain⟨cell,hceq⟩:∃cell,cell=asI (Aw (DD a) 256).2:=⟨_,rfl⟩;rw [←hreq]at hreps hrlt hrlen;rw [←hceq]at hcl;rw [←hreq,←hceq];have hgoal:Yv a budget=fun(H H':Aa) (r:Value)=>Agr (Old H) H H'∧match FN budget (AR a) reps (Cu (EI a))with
    | none=>∃l:List Value,r= .tuple #[.agg l.toArray,.int .i64 40]∧l.length=259∧l.all (·.oneCell')=true
    | some (F,rows)=>∃v,r= .tuple #[v,.int .i64 0]∧HW (D9 H H') H' v ⟨cell,asI reps,rows.map Bg,F.map fun l=>decide (a.fin∈l)⟩:=by
    rw [hreq,hceq];rfl
   rw [hgoal];clear hgoal;have st5:=st4.add ha5 (pV ra rc (asI reps) (D9 H3 H5)) hreps (fun k hk=>hk);obtain⟨SV,hSV⟩:∃SV,SV=D9 H3 H5:=⟨_,rfl⟩;rw [←hSV]at st5;have hl259:∀nv fv,(Bp cell (.slice ra reps.length rc) nv fv).length=259:=fun nv fv=>Bd hcl;refine Ak _ zD rfl (by kernel_rfl) ?_;intro p8 H6 hp8 hs6 hb6 ha6;have st6:=st5.box hp8 hs6 hb6 ha6;refine AI (cs:=Bp cell (.slice ra reps.length rc) (.slice none 0 0) (.slice none 0 0)) st6 4 (by rw [hl259];rfl) rfl (by rw [hl259];decide) (CD rfl rfl rfl) fun H7 st7=>?_;rw [CO (by rw [hl259];rfl)]at st7;refine N3 hr hl (st7.blk 0 rfl) Sp trivial (h1.frame (st7.old.mono hS0)) fun v8 hv8=>(Ag.mk (Vl (fun k hk=>st7.up (hS0 k hk)) hv8) ?_);rintro _ H8 ⟨nb,tb,ma,mc,vt,rfl,u8⟩;have st8:=st7.cat u8;rw [←Wq]at st8;refine A6 Tryz.underlying190 rfl _ ZE (Value.slice none 0 0::Aa1 1024 (Value.slice none 0 0)) rfl (B0 (Value.slice none 0 0::Aa1 1024 (Value.slice none 0 0)) rfl ?_);intro bb H9 hbb hs9 hb9 ha9;have st9:St H H9 [pB tTb nb (tbL (AG a) (.slice (some ⟨tb,0,none⟩) (AG a) (AG a)) (.slice ma (AG a) mc)),pT Cz 185 79 tb vt (FP a),pS A1 4 ma (AG a) mc (mkM (AG a) []),pN (tSl tIk) none_ 41 none 0 0 [],pG Fv bb (.slice none 0 0) (Aa1 1024 (.slice none 0 0)) (Gj []),pN (tSl tIk) none_ 41 none 0 0 [],pS A1 4 none 0 0 [],pB 43 p8 (Bp cell (.slice ra reps.length rc) (.slice none 0 0) (.slice none 0 0)),pV ra rc (asI reps) SV,pB 81 p (nfL a (.slice ea a.edges.length ec)),pB 43 p4 zD]:=
    (((((st8.box hbb hs9 hb9 ha9).gNew (ss:=Gj []) 8 rfl TD).nils (tSl tIk) 41).nils (tSl tIk) 41).nils A1 4).pick [5,6,7,9,8,10,11,4,3,0,1] (by decide)
   have hvl0:(Aa1 1024 (Value.slice none 0 0)).length=1024:=by simp
   generalize Aa1 1024 (Value.slice none 0 0)=vs0 at*;have hbeg:∀q∈Cu (EI a),a.has q=true:=fun q hq=>DK a q ((Fi (Dk (DK a)) q).1 hq);have hhn:a.has a.start=(decide (0≤a.start)&&decide (a.start<(AG a:Int))):=Hb a a.start;(conv=>whnf);refine Am.cut (α:=Option Addr×Nat) [11] (fun x=>[.slice x.1 (Cu (EI a)).length x.2]) (fun x H10=>St H H10 [pB tTb nb (tbL (AG a) (.slice (some ⟨tb,0,none⟩) (AG a) (AG a)) (.slice ma (AG a) mc)),pT Cz 185 79 tb vt (FP a),pS A1 4 ma (AG a) mc (mkM (AG a) []),pS tIk 3 x.1 (Cu (EI a)).length x.2 (Cu (EI a)),pN (tSl tIk) none_ 41 none 0 0 [],pG Fv bb (.slice none 0 0) vs0 (Gj []),pN (tSl tIk) none_ 41 none 0 0 [],pS A1 4 none 0 0 [],pB 43 p8 (Bp cell (.slice ra reps.length rc) (.slice none 0 0) (.slice none 0 0)),pV ra rc (asI reps) SV,pB 81 p (nfL a (.slice ea a.edges.length ec)),pB 43 p4 zD]) ?_ ?_
   ·have hp9:=st9.blk 9 rfl;have ht9:=st9.blk 0 rfl;have hno:a.has a.start=false→Cu (EI a)=[]:=fun hst=>by
     rw [HG (X:=EI a) (l:=[]) (Dk (DK a)) List.Pairwise.nil fun q=>⟨fun h=>(by cases h),fun h=>by
      obtain⟨r,⟨-,h2⟩,-⟩:=h;rw [hst]at h2;cases h2⟩]
    have st9n:St H H9 [pB tTb nb (tbL (AG a) (.slice (some ⟨tb,0,none⟩) (AG a) (AG a)) (.slice ma (AG a) mc)),pT Cz 185 79 tb vt (FP a),pS A1 4 ma (AG a) mc (mkM (AG a) []),pS tIk 3 none 0 0 [],pN (tSl tIk) none_ 41 none 0 0 [],pG Fv bb (.slice none 0 0) vs0 (Gj []),pN (tSl tIk) none_ 41 none 0 0 [],pS A1 4 none 0 0 [],pB 43 p8 (Bp cell (.slice ra reps.length rc) (.slice none 0 0) (.slice none 0 0)),pV ra rc (asI reps) SV,pB 81 p (nfL a (.slice ea a.edges.length ec)),pB 43 p4 zD]:=(st9.nils tIk 3).pick [0,1,2,11,3,4,5,6,7,8,9,10] (by decide);refine Ar.lex rfl (by kernel_rfl) (VC.fa No ?_);refine ld1 (v:=.int .i64 a.start) ct3 (by rw [hp9.cell];rfl) trivial ?_;by_cases c0:0≤a.start
    ·have e0:decide (0≤a.start)=true:=decide_eq_true c0;(conv=>whnf);rw [e0];refine VC.fa No ?_;refine ld1 (v:=.int .i64 a.start) ct3 (by rw [hp9.cell];rfl) trivial ?_;refine VC.fa Gp ?_;refine ld1 (v:=.int .i64 (AG a:Int)) ct3 (by rw [ht9.cell];rfl) trivial ?_;by_cases c1:a.start<(AG a:Int)
     ·have e1:decide (a.start<(AG a:Int))=true:=decide_eq_true c1;have hst:a.has a.start=true:=by rw [hhn,e0,e1];rfl
      (conv=>whnf);rw [e1];refine VC.fa No ?_;refine ld1 (v:=.int .i64 a.start) ct3 (by rw [hp9.cell];rfl) trivial ?_;refine A2 AL [.int .i64 a.start] rfl rfl (by decide) (by decide) ?_;intro y H10 hy hs10 hb10 ha10;have st10:St H H10 [pB tTb nb (tbL (AG a) (.slice (some ⟨tb,0,none⟩) (AG a) (AG a)) (.slice ma (AG a) mc)),pT Cz 185 79 tb vt (FP a),pS A1 4 ma (AG a) mc (mkM (AG a) []),pS tIk 3 (some ⟨y,0,none⟩) [a.start].length 1 [a.start],pN (tSl tIk) none_ 41 none 0 0 [],pG Fv bb (.slice none 0 0) vs0 (Gj []),pN (tSl tIk) none_ 41 none 0 0 [],pS A1 4 none 0 0 [],pB 43 p8 (Bp cell (.slice ra reps.length rc) (.slice none 0 0) (.slice none 0 0)),pV ra rc (asI reps) SV,pB 81 p (nfL a (.slice ea a.edges.length ec)),pB 43 p4 zD]:=
       (st9.new (T:=tIk) (n:=1) (xs:=[a.start]) hy hs10 hb10 ha10 (Ty.reps_one ⟨rfl,L2 ⟨c0,by omega⟩⟩) rfl (by unfold maxLen;omega)).pick [0,1,2,11,3,4,5,6,7,8,9,10] (by decide)
      have e:(fun q=>q∈[a.start])=fun q=>q=a.start∧a.has a.start=true:=funext fun q=>propext (by simp [hst]);refine MC (X:=[a.start]) st10 (fun q hq=>by rw [Aa8]at hq;subst hq;exact hst) (by simp only [AaT,AaQ];omega) hl fun xa xc H11 st11=>?_;rw [e]at st11 ⊢;(conv=>whnf);exact⟨rfl,(xa,xc),rfl,st11⟩
     ·have e1:decide (a.start<(AG a:Int))=false:=decide_eq_false c1;have hst:a.has a.start=false:=by rw [hhn,e0,e1];rfl
      (conv=>whnf);rw [e1];(conv=>whnf);refine⟨rfl,(none,0),by rw [hno hst];rfl,?_⟩;rw [hno hst];exact st9n
    ·have e0:decide (0≤a.start)=false:=decide_eq_false c0;have hst:a.has a.start=false:=by rw [hhn,e0];rfl
     (conv=>whnf);rw [e0];(conv=>whnf);refine⟨rfl,(none,0),by rw [hno hst];rfl,?_⟩;rw [hno hst];exact st9n
   ·rintro⟨xa,xc⟩ H10 junk10 st10;simp only at st10;have hbegl:(Cu (EI a)).length≤65536:=Hi _;have hF0:Kn a [Cu (EI a)]:=fun l hl=>by rw [Aa8]at hl;subst hl;exact⟨hbeg,hbegl⟩
    have hrowsF0:BI budget (AR a) reps (Cu (EI a)) 0=some ([Cu (EI a)],[]):=rfl;generalize Cu (EI a)=l0 at*;refine WR (F:=[]) (S:=none_) (st10.pick [3,4,5,0,1,2,6,7,8,9,10,11] (by decide)) hvl0 (by simp) (fun q hq=>by have:=NfM.has_iff.1 (hbeg q hq);omega) fun sa sc vs S H11 hvl st11=>?_;replace st11:St H H11 [pB tTb nb (tbL (AG a) (.slice (some ⟨tb,0,none⟩) (AG a) (AG a)) (.slice ma (AG a) mc)),pT Cz 185 79 tb vt (FP a),pS A1 4 ma (AG a) mc (mkM (AG a) []),pN (tSl tIk) S 41 sa [l0].length sc [l0],pG Fv bb (.slice sa [l0].length sc) vs (Gj [l0]),pN (tSl tIk) none_ 41 none 0 0 [],pS A1 4 none 0 0 [],pB 43 p8 (Bp cell (.slice ra reps.length rc) (.slice none 0 0) (.slice none 0 0)),pV ra rc (asI reps) SV,pB 81 p (nfL a (.slice ea a.edges.length ec)),pB 43 p4 zD]:=st11.pick [2,3,4,0,1,5,6,7,8,9,10] (by decide);clear st10 st9 st8 st7 st6 st5 st4 st3 st2 st1 u8;(conv=>whnf);refine A3.mk [5,12] (fun q:Nat=>[.int .i64 0,.int .i64 (q:Int)]) (fun q H4=>∃F rows sa sc vs S na nc fa fc Sn,q≤F.length∧F.length≤budget∧F.Nodup∧Kn a F∧rows.length=q∧BI budget (AR a) reps l0 q=some (F,rows)∧vs.length=1024∧St H H4 [pB tTb nb (tbL (AG a) (.slice (some ⟨tb,0,none⟩) (AG a) (AG a)) (.slice ma (AG a) mc)),pT Cz 185 79 tb vt (FP a),pS A1 4 ma (AG a) mc (mkM (AG a) []),pN (tSl tIk) S 41 sa F.length sc F,pG Fv bb (.slice sa F.length sc) vs (Gj F),pN (tSl tIk) Sn 41 na q nc (rows.map Bg),pS A1 4 fa q fc ((F.take q).map fun l=>decide (a.fin∈l)),pB 43 p8 (Bp cell (.slice ra reps.length rc) (.slice na q nc) (.slice fa q fc)),pV ra rc (asI reps) SV,pB 81 p (nfL a (.slice ea a.edges.length ec)),pB 43 p4 zD]) (fun q _=>budget - q) ?_ ?_
    ·(conv=>whnf);exact⟨0,rfl,[l0],[],sa,sc,vs,S,none,0,none,0,none_,AaZ _,by simp only [AaT,AaQ];omega,by simp,hF0,rfl,hrowsF0,hvl,st11⟩
    ·clear st11 hvl sa sc vs S;rintro q H12 junk12 ⟨F,rows,sa,sc,vs,S,na,nc,fa,fc,Sn,hqF,hFm,hnd,hHF,hrl,hrun,hvl,st12⟩;have hbk:=st12.gblk 4 rfl;refine VC.fa DN ?_;refine ld1 (v:=.slice sa F.length sc) DZ (by rw [hbk.cell];rfl) trivial ?_;refine AB.mk (fun hz=>?_) (fun hz=>?_)<;>simp only [decide_eq_true_eq,decide_eq_false_iff_not]at hz
     ·obtain⟨x,hx⟩:=Ad (l:=F) (k:=q) (by omega);obtain⟨hxh,hxl⟩:=hHF x (Aa2 hx);have hnext:BI budget (AR a) reps l0 (q+1)=(reps.foldl (DG budget (AR a) x) (some (F,[]))).map fun r=>(r.1,rows++[r.2]):=by
       show(BI budget (AR a) reps l0 q).bind _=_;rw [hrun];simp only [AaN,hx]
      refine VC.fa Lu ?_;refine ld1 (v:=.slice ra reps.length rc) CW (by rw [(st12.blk 7 rfl).cell,Aa5];exact IM hcl) trivial ?_;refine Eo AL rfl (by omega) (by omega) (by omega) (by omega) ?_;intro rb H13 hrb hs13 hb13 ha13;rw [AaK]at hb13 ⊢;have hz0:tIk.reps none_ H13 (Aa1 reps.length (Value.int .i64 0)) (Aa1 reps.length (0:Int)):=by
       have:=DT (T:=tIk) (S:=none_) (H:=H13) (c:=[Value.int .i64 0]) (v:=(0:Int)) ⟨rfl,L2 ⟨by decide,by decide⟩⟩ reps.length;simpa using this
      have st13:=st12.new (T:=tIk) (n:=reps.length) (xs:=Aa1 reps.length (0:Int)) hrb hs13 (by simpa using hb13) ha13 hz0 (by simp) (by unfold maxLen;omega);(conv=>whnf);refine A3.mk [14,15] (fun i:Nat=>[.bool (decide (a.fin∈x.take i)),.int .i64 (i:Int)]) (fun i H4=>i≤x.length∧St H H4 [pB tTb nb (tbL (AG a) (.slice (some ⟨tb,0,none⟩) (AG a) (AG a)) (.slice ma (AG a) mc)),pT Cz 185 79 tb vt (FP a),pS A1 4 ma (AG a) mc (mkM (AG a) []),pN (tSl tIk) S 41 sa F.length sc F,pG Fv bb (.slice sa F.length sc) vs (Gj F),pN (tSl tIk) Sn 41 na q nc (rows.map Bg),pS A1 4 fa q fc ((F.take q).map fun l=>decide (a.fin∈l)),pB 43 p8 (Bp cell (.slice ra reps.length rc) (.slice na q nc) (.slice fa q fc)),pV ra rc (asI reps) SV,pB 81 p (nfL a (.slice ea a.edges.length ec)),pB 43 p4 zD,pS tIk 3 (some ⟨rb,0,none⟩) reps.length reps.length (Aa1 reps.length (0:Int))]) (fun i _=>x.length - i) ?_ ?_
      ·(conv=>whnf);exact⟨0,by simp,AaZ _,st13⟩
      ·clear st13;rintro i H14 junk14 ⟨hi,st14⟩;have hbk4:=st14.gblk 4 rfl;have hnf:=st14.blk 9 rfl;refine VC.fa DN ?_;refine ld1 (v:=.slice sa F.length sc) DZ (by rw [hbk4.cell];rfl) trivial ?_;refine ixO (j:=q) DH st14 3 rfl hx rfl ?_;rintro b3 o3 c3 hS3 hc3 ⟨xa3,xc3,rfl,hxd⟩;refine ld1 CW hc3.one trivial ?_;refine AB.mk (fun hz2=>?_) (fun hz2=>?_)<;>simp only [decide_eq_true_eq,decide_eq_false_iff_not]at hz2
       ·obtain⟨y,hy⟩:=Ad (l:=x) (k:=i) (by omega);have htk:=Ac hy;refine Ar.lex rfl (by kernel_rfl) ?_;by_cases hm:a.fin∈x.take i
        ·have e1:decide (a.fin∈x.take i)=true:=decide_eq_true hm;have e2:decide (a.fin∈x.take (i+1))=true:=decide_eq_true (by rw [htk];exact Ab2 _ hm);(conv=>whnf);rw [e1];(conv=>whnf);rw [w64 (x:=(i:Int)+1) (by omega) (by omega)];exact⟨rfl,i+1,by rw [e2];rfl,⟨by omega,st14⟩,by omega⟩
        ·have e1:decide (a.fin∈x.take i)=false:=decide_eq_false hm;have e2:decide (a.fin∈x.take (i+1))=(y==a.fin):=by
          rw [htk,Ac1,decide_eq_true_eq,AaG,Aa8,beq_iff_eq];exact⟨fun h=>(h.resolve_left hm).symm,fun h=>.inr h.symm⟩
         (conv=>whnf);rw [e1];refine VC.fa DN ?_;refine ld1 (v:=.slice sa F.length sc) DZ (by rw [hbk4.cell];rfl) trivial ?_;refine ixO (j:=q) DH st14 3 rfl hx rfl ?_;rintro b4 o4 c4 hS4 hc4 ⟨xa4,xc4,rfl,hxd4⟩;refine ld1 CW hc4.one trivial (ixr (i:=i) AL hxd4 hy rfl ?_);rintro b5 o5 c5 hS5 hc5 ⟨rfl,-⟩;refine ld1 ct3 hc5.one trivial (VC.fa Uk ?_);refine ld1 (v:=.int .i64 a.fin) ct3 (by rw [hnf.cell];rfl) trivial ?_;(conv=>whnf);rw [w64 (x:=(i:Int)+1) (by omega) (by omega)];exact⟨rfl,i+1,by rw [e2];rfl,⟨by omega,st14⟩,by omega⟩
       ·obtain rfl:i=x.length:=by omega
        rw [AaI];(conv=>whnf);refine A3.mk [5,16] (fun k:Nat=>[.int .i64 0,.int .i64 (k:Int)]) (fun k H4=>∃F2 row sa sc vs S,k≤reps.length∧F2.length≤budget∧F2.Nodup∧Kn a F2∧F <+: F2∧row.length=k∧(reps.take k).foldl (DG budget (AR a) x) (some (F,[]))=some (F2,row)∧vs.length=1024∧St H H4 [pB tTb nb (tbL (AG a) (.slice (some ⟨tb,0,none⟩) (AG a) (AG a)) (.slice ma (AG a) mc)),pT Cz 185 79 tb vt (FP a),pS A1 4 ma (AG a) mc (mkM (AG a) []),pN (tSl tIk) S 41 sa F2.length sc F2,pG Fv bb (.slice sa F2.length sc) vs (Gj F2),pN (tSl tIk) Sn 41 na q nc (rows.map Bg),pS A1 4 fa q fc ((F.take q).map fun l=>decide (a.fin∈l)),pB 43 p8 (Bp cell (.slice ra reps.length rc) (.slice na q nc) (.slice fa q fc)),pV ra rc (asI reps) SV,pB 81 p (nfL a (.slice ea a.edges.length ec)),pB 43 p4 zD,pS tIk 3 (some ⟨rb,0,none⟩) reps.length reps.length (Bg row++Aa1 (reps.length - row.length) 0)]) (fun k _=>reps.length - k) ?_ ?_
        ·(conv=>whnf);exact⟨0,rfl,F,[],sa,sc,vs,S,AaZ _,hFm,hnd,hHF,AbJ _,rfl,rfl,hvl,st14⟩
        ·clear st14 hbk4 hnf hxd hc3 hS3 hbk hvl st12;rintro k H15 junk15 ⟨F2,row,sa,sc,vs,S,hk,hF2m,hnd2,hHF2,hpre,hrowl,hfold,hvl,st15⟩;have hx2:=Eu hpre hx;refine VC.fa Lu ?_;refine ld1 (v:=.slice ra reps.length rc) CW (by rw [(st15.blk 7 rfl).cell,Aa5];exact IM hcl) trivial ?_;refine AB.mk (fun hz2=>?_) (fun hz2=>?_)<;>simp only [decide_eq_true_eq,decide_eq_false_iff_not]at hz2
         ·obtain⟨r,hrk⟩:=Ad (l:=reps) (k:=k) (by omega);have hr256:=hrlt r (Aa2 hrk);have st16:=st15.nils tIk 3;(conv=>whnf);refine A3.mk [17,18] (fun y:Nat×List Int×Option Addr×Nat=>match y with | (i,T,t5,t6)=>[.slice t5 T.length t6,.int .i64 (i:Int)])
           (fun y H4=>match y with | (i,T,t5,t6)=>i≤x.length∧T.length≤i*33554432∧(∀p,p∈T↔Je a (·∈x.take i) r p)∧St H H4 [pB tTb nb (tbL (AG a) (.slice (some ⟨tb,0,none⟩) (AG a) (AG a)) (.slice ma (AG a) mc)),pT Cz 185 79 tb vt (FP a),pS A1 4 ma (AG a) mc (mkM (AG a) []),pN (tSl tIk) S 41 sa F2.length sc F2,pG Fv bb (.slice sa F2.length sc) vs (Gj F2),pN (tSl tIk) Sn 41 na q nc (rows.map Bg),pS A1 4 fa q fc ((F.take q).map fun l=>decide (a.fin∈l)),pB 43 p8 (Bp cell (.slice ra reps.length rc) (.slice na q nc) (.slice fa q fc)),pV ra rc (asI reps) SV,pB 81 p (nfL a (.slice ea a.edges.length ec)),pB 43 p4 zD,pS tIk 3 (some ⟨rb,0,none⟩) reps.length reps.length (Bg row++Aa1 (reps.length - row.length) 0),pS tIk 3 t5 T.length t6 T]) (fun y _=>x.length - y.1) ?_ ?_
          ·(conv=>whnf);refine⟨(0,[],none,0),rfl,AaZ _,AaZ _,fun p=>⟨fun h=>(by cases h),fun h=>?_⟩,st16⟩;obtain⟨e,-,-,-,h,-⟩:=h;simp at h
          ·clear st16;rintro⟨i,T,t5,t6⟩ H17 junk17 ⟨hi,hTl,hT,st17⟩;have hbk17:=st17.gblk 4 rfl;refine VC.fa DN ?_;refine ld1 (v:=.slice sa F2.length sc) DZ (by rw [hbk17.cell];rfl) trivial ?_;refine ixO (j:=q) DH st17 3 rfl hx2 rfl ?_;rintro b3 o3 c3 hS3 hc3 ⟨xa3,xc3,rfl,hxd⟩;refine ld1 CW hc3.one trivial ?_;refine AB.mk (fun hz3=>?_) (fun hz3=>?_)<;>simp only [decide_eq_true_eq,decide_eq_false_iff_not]at hz3
           ·obtain⟨y,hy⟩:=Ad (l:=x) (k:=i) (by omega);have hyh:=hxh y (Aa2 hy);obtain⟨row2,hrow2,hrl2,hrm⟩:=OU hyh;have hyn:0≤y∧y<(AG a:Int):=by
             have:=Hb a y;rw [hyh]at this;simpa using this.symm
            obtain⟨ea2,ec2,hvr,-⟩:=st17.row 1 rfl hrow2;refine Ar.lex rfl (by kernel_rfl) (VC.fa IY ?_);refine ld1 (v:=.slice (some ⟨tb,0,none⟩) (AG a) (AG a)) Ow (by rw [(st17.blk 0 rfl).cell];rfl) trivial ?_;refine VC.fa DN ?_;refine ld1 (v:=.slice sa F2.length sc) DZ (by rw [hbk17.cell];rfl) trivial ?_;refine ixO (j:=q) DH st17 3 rfl hx2 rfl ?_;rintro b4 o4 c4 hS4 hc4 ⟨xa4,xc4,rfl,hxd4⟩;refine ld1 CW hc4.one trivial (ixr (i:=i) AL hxd4 hy rfl ?_);rintro b5 o5 c5 hS5 hc5 ⟨rfl,-⟩;refine ld1 ct3 hc5.one trivial (ix Pq (by omega) (by omega) (ld1 J6 (st17.tcell 1 rfl hvr (by rw [Aa5,Nat.mul_one])) trivial ?_));(conv=>whnf);refine A3.mk [17,20] (fun z:Nat×List Int×Option Addr×Nat=>match z with | (j,T',t5,t6)=>[.slice t5 T'.length t6,.int .i64 (j:Int)])
             (fun z H4=>match z with | (j,T',t5,t6)=>j≤row2.length∧T'.length≤i*33554432+j∧(∀p,p∈T'↔Je a (·∈x.take i) r p∨∃e∈row2.take j,e.sil=false∧e.set.getLsbD r=true∧p=e.to)∧St H H4 [pB tTb nb (tbL (AG a) (.slice (some ⟨tb,0,none⟩) (AG a) (AG a)) (.slice ma (AG a) mc)),pT Cz 185 79 tb vt (FP a),pS A1 4 ma (AG a) mc (mkM (AG a) []),pN (tSl tIk) S 41 sa F2.length sc F2,pG Fv bb (.slice sa F2.length sc) vs (Gj F2),pN (tSl tIk) Sn 41 na q nc (rows.map Bg),pS A1 4 fa q fc ((F.take q).map fun l=>decide (a.fin∈l)),pB 43 p8 (Bp cell (.slice ra reps.length rc) (.slice na q nc) (.slice fa q fc)),pV ra rc (asI reps) SV,pB 81 p (nfL a (.slice ea a.edges.length ec)),pB 43 p4 zD,pS tIk 3 (some ⟨rb,0,none⟩) reps.length reps.length (Bg row++Aa1 (reps.length - row.length) 0),pS tIk 3 t5 T'.length t6 T']) (fun z _=>row2.length - z.1) ?_ ?_
            ·(conv=>whnf);exact⟨(0,T,t5,t6),rfl,AaZ _,AbW hTl (Nat.le_add_right _ _),fun p=>by rw [hT p];simp,st17⟩
            ·clear st17 hT hTl hbk17 hxd4 hc4 hS4 hc5 hS5 hxd hc3 hS3;rintro⟨j,T',t5,t6⟩ H18 junk18 ⟨hj,hTl',hT',st18⟩;obtain⟨ea',ec',hvr',hrd⟩:=st18.row 1 rfl hrow2;rw [hvr]at hvr';injection hvr' with e0
             injection e0 with e1 e2 e3
             subst e1;subst e3;refine AB.mk (fun hz4=>?_) (fun hz4=>?_)<;>simp only [decide_eq_true_eq,decide_eq_false_iff_not]at hz4
             ·obtain⟨e,he⟩:=Ad (l:=row2) (k:=j) (by omega);obtain⟨hem,hef,het⟩:=(hrm e).1 (Aa2 he);have htr:=NfM.has_iff.1 het;have hre:SlD tI SV H18 ra rc (asI reps):=st18.at_ 8 rfl;have skip:(e.sil=false→e.set.getLsbD r=false)→∀p,p∈T'↔Je a (·∈x.take i) r p∨∃e∈row2.take (j+1),e.sil=false∧e.set.getLsbD r=true∧p=e.to:=fun hno p=>by
               rw [hT' p,Ac he];constructor
               ·rintro(h | ⟨e',h1,h2,h3,h4⟩)
                ·exact .inl h
                ·exact .inr ⟨e',Ab2 _ h1,h2,h3,h4⟩
               ·rintro(h | ⟨e',h1,h2,h3,h4⟩)
                ·exact .inl h
                ·rcases AaG.1 h1 with h1 | h1
                 ·exact .inr ⟨e',h1,h2,h3,h4⟩
                 ·rw [Aa8]at h1;subst h1;rw [hno h2]at h3;cases h3
              refine Am.run (Ar.lex rfl (by kernel_rfl) (ixr (i:=j) HS hrd he rfl ?_));rintro b6 o6 c6 hS6 hc6 ⟨rfl,-⟩;refine VC.fa Nm (ld1 (v:=.bool e.sil) ct4 (hc6 2 _ rfl) trivial ?_);cases hsil:e.sil with
              | true=>
                (conv=>whnf);rw [w64 (x:=(j:Int)+1) (by omega) (by omega)];exact⟨rfl,(j+1,T',t5,t6),by simp,⟨by omega,by omega,skip fun h=>(by rw [hsil]at h;cases h),st18⟩,by simp only;omega⟩
              | false=>
                refine VC.fa Lu ?_;refine ld1 (v:=.slice ra reps.length rc) CW (by rw [(st18.blk 7 rfl).cell,Aa5];exact IM hcl) trivial ?_;refine JE (i:=k) AL hre (Dh _).symm (Kx hrk) rfl ?_;rintro b7 o7 c7 hS7 hc7 ⟨rfl,-⟩;refine ld1 ct3 hc7.one trivial (ixr (i:=j) HS hrd he rfl ?_);rintro b8 o8 c8 hS8 hc8 ⟨rfl,-⟩;refine VC.fa Ry (ixa C1 (by omega) (by omega) ?_);refine ld1 (v:=.bool (e.set.getLsbD r)) ct4 (by rw [show o8+3+((r:Nat):Int).toNat*1=o8+(3+r) by omega];exact hc8 (3+r) _ (TU e hr256)) trivial ?_;cases hbit:e.set.getLsbD r with
                | false=>
                  (conv=>whnf);rw [w64 (x:=(j:Int)+1) (by omega) (by omega)];exact⟨rfl,(j+1,T',t5,t6),by simp,⟨by omega,by omega,skip fun _=>hbit,st18⟩,by simp only;omega⟩
                | true=>
                  refine ixr (i:=j) HS hrd he rfl ?_;rintro b9 o9 c9 hS9 hc9 ⟨rfl,hok⟩;refine VC.fa HD (ld1 (v:=.int .i64 e.to) ct3 (hc9 1 _ rfl) trivial (A2 AL [.int .i64 e.to] rfl rfl (by decide) (by decide) ?_));intro q11 H19 hq11 hs11 hb11 ha11;refine WU (ys:=[e.to]) (st18.skip hq11 ha11) 12 AL rfl (hb11.cells (o:=0) (cs:=[.int .i64 e.to]) fun j v hv=>by rw [Aa5];exact hv) (Ty.reps_one ⟨rfl,hok.2⟩) rfl (fun u hu=>by cases Aa8.1 hu;rfl) (by simp only [AaT,AaQ];omega) (by decide) fun a12 c12 H20 st20 _=>?_;have el:T'.length+[e.to].length=(T'++[e.to]).length:=by simp
                  rw [el]at st20 ⊢;(conv=>whnf);rw [w64 (x:=(j:Int)+1) (by omega) (by omega)];refine⟨rfl,(j+1,T'++[e.to],a12,c12),by simp,⟨by omega,by simp only [AaO,AaT,AaQ];omega,fun p=>?_,st20⟩,by simp only;omega⟩;rw [AaG,hT' p,Ac he,Aa8];constructor
                  ·rintro((h | ⟨e',h1,h2,h3,h4⟩) | h)
                   ·exact .inl h
                   ·exact .inr ⟨e',Ab2 _ h1,h2,h3,h4⟩
                   ·exact .inr ⟨e,by simp,hsil,hbit,h⟩
                  ·rintro(h | ⟨e',h1,h2,h3,h4⟩)
                   ·exact .inl (.inl h)
                   ·rcases AaG.1 h1 with h1 | h1
                    ·exact .inl (.inr ⟨e',h1,h2,h3,h4⟩)
                    ·rw [Aa8]at h1;subst h1;exact .inr h4
             ·obtain rfl:j=row2.length:=by omega
              rw [AaI]at hT';(conv=>whnf);rw [w64 (x:=(i:Int)+1) (by omega) (by omega)];refine⟨rfl,(i+1,T',t5,t6),by simp,⟨by omega,by omega,fun p=>?_,st18⟩,by simp only;omega⟩;rw [hT' p,Ac hy];unfold Je;constructor
              ·rintro(⟨e,h1,h2,h3,h4,h5,h6⟩ | ⟨e,h1,h2,h3,h4⟩)
               ·exact⟨e,h1,h2,h3,Ab2 _ h4,h5,h6⟩
               ·obtain⟨g1,g2,g3⟩:=(hrm e).1 h1;exact⟨e,g1,h2,h3,by rw [g2];simp,g3,h4⟩
              ·rintro⟨e,h1,h2,h3,h4,h5,h6⟩;rcases AaG.1 h4 with h4 | h4
               ·exact .inl ⟨e,h1,h2,h3,h4,h5,h6⟩
               ·rw [Aa8]at h4;exact .inr ⟨e,(hrm e).2 ⟨h1,h4,h5⟩,h2,h3,h6⟩
           ·obtain rfl:i=x.length:=by omega
            rw [AaI]at hT;have hTh:∀q∈T,a.has q=true:=fun q hq=>by
             obtain⟨e,-,-,-,-,h5,rfl⟩:=(hT q).1 hq;exact h5
            have hTeq:(fun q=>q∈T)=Je a (·∈x) r:=funext fun q=>propext (hT q);have hmul:T.length≤2199023255552:=AbW hTl (by have:=Nat.mul_le_mul_right 33554432 hxl;omega);have hlst:Cu (clS a fun q=>q∈T)=AR a x r:=by rw [hTeq];rfl
            have hstep:(reps.take (k+1)).foldl (DG budget (AR a) x) (some (F,[]))=(atF budget F2 (AR a x r)).map fun t=>(t.1,row++[t.2]):=by
             rw [Ac hrk,Ab9,hfold];rfl
            clear hxd hc3 hS3 hbk17;refine MC (X:=T) (st17.pick [0,1,2,12,3,4,5,6,7,8,9,10,11] (by decide)) hTh hmul hl fun la lc H18 st18=>?_;rw [hlst]at st18 ⊢;have hLh:∀q∈AR a x r,a.has q=true:=HM;have hLl:(AR a x r).length≤65536:=JR;have hLr:∀q∈AR a x r,0≤q∧q<65536:=fun q hq=>by have:=NfM.has_iff.1 (hLh q hq);omega
            have hat2:∀t F3,atF budget F2 (AR a x r)=some (F3,t)→F3.length≤budget∧F3.Nodup∧Kn a F3∧F <+: F3:=fun t F3 h=>by
             obtain⟨z1,z2,z3,z4⟩:=La h hF2m hnd2;exact⟨z2,z3,hHF2.at_ h,hpre.trans z4⟩
            have hnone:atF budget F2 (AR a x r)=none→FN budget (AR a) reps l0=none:=fun h=>by
             rw [h]at hstep;have hno:reps.foldl (DG budget (AR a) x) (some (F,[]))=none:=by
              have h3:=(AbA (k+1) reps).symm;rw [h3,Ab9,hstep];exact Gf x _
             exact Mq (n:=q) (by rw [hnext,hno];rfl) (by omega)
            generalize AR a x r=L at*;have st18b:St H H18 [pN (tSl tIk) S 41 sa F2.length sc F2,pG Fv bb (.slice sa F2.length sc) vs (Gj F2),pB tTb nb (tbL (AG a) (.slice (some ⟨tb,0,none⟩) (AG a) (AG a)) (.slice ma (AG a) mc)),pT Cz 185 79 tb vt (FP a),pS A1 4 ma (AG a) mc (mkM (AG a) []),pN (tSl tIk) Sn 41 na q nc (rows.map Bg),pS A1 4 fa q fc ((F.take q).map fun l=>decide (a.fin∈l)),pB 43 p8 (Bp cell (.slice ra reps.length rc) (.slice na q nc) (.slice fa q fc)),pV ra rc (asI reps) SV,pB 81 p (nfL a (.slice ea a.edges.length ec)),pB 43 p4 zD,pS tIk 3 (some ⟨rb,0,none⟩) reps.length reps.length (Bg row++Aa1 (reps.length - row.length) 0)]:=st18.pick [4,5,0,1,2,6,7,8,9,10,11,12] (by decide);refine Ao (X3 st18b hvl hnd2 (by omega) (fun z hz=>(hHF2 z hz).2) (st18.view 3 rfl) hLr hLl) fun H19 ha19=>?_;have st19:=st18.call ha19;clear st18 st18b;(conv=>whnf);refine Am.cut (α:=Nat) [5,22] (fun t=>[.int .i64 0,.int .i64 (t:Int)]) (fun t H4=>∃F3 sa sc vs S,atF budget F2 L=some (F3,t)∧vs.length=1024∧St H H4 [pB tTb nb (tbL (AG a) (.slice (some ⟨tb,0,none⟩) (AG a) (AG a)) (.slice ma (AG a) mc)),pT Cz 185 79 tb vt (FP a),pS A1 4 ma (AG a) mc (mkM (AG a) []),pN (tSl tIk) S 41 sa F3.length sc F3,pG Fv bb (.slice sa F3.length sc) vs (Gj F3),pN (tSl tIk) Sn 41 na q nc (rows.map Bg),pS A1 4 fa q fc ((F.take q).map fun l=>decide (a.fin∈l)),pB 43 p8 (Bp cell (.slice ra reps.length rc) (.slice na q nc) (.slice fa q fc)),pV ra rc (asI reps) SV,pB 81 p (nfL a (.slice ea a.edges.length ec)),pB 43 p4 zD,pS tIk 3 (some ⟨rb,0,none⟩) reps.length reps.length (Bg row++Aa1 (reps.length - row.length) 0)]) ?_ ?_
            ·(conv=>whnf);cases hf:F2.findIdx? (·=L)with
             | some t=>
               have e1:Mc F2 L=(t:Int):=by unfold Mc;rw [hf]
               have h12:atF budget F2 L=some (F2,t):=by unfold atF;rw [hf]
               have d3:decide (Mc F2 L<0)=false:=by rw [e1];exact decide_eq_false (by omega)
               (conv=>whnf);rw [d3];(conv=>whnf);exact⟨rfl,t,by rw [e1],F2,sa,sc,vs,S,h12,hvl,st19.pick [0,1,2,4,5,6,7,8,9,10,11,12] (by decide)⟩
             | none=>
               have e1:Mc F2 L= -1:=by unfold Mc;rw [hf]
               have d3:decide (Mc F2 L<0)=true:=by rw [e1];rfl
               (conv=>whnf);rw [d3];refine VC.fa DN ?_;refine ld1 (v:=.slice sa F2.length sc) DZ (by rw [(st19.gblk 5 rfl).cell];rfl) trivial ?_;by_cases hfull:F2.length=budget
               ·have d4:((F2.length:Int)==(budget:Int))=true:=by rw [hfull];simp
                have h12:atF budget F2 L=none:=by
                 unfold atF;rw [hf];simp only;rw [if_neg (by omega)]
                have hdet:=hnone h12;(conv=>whnf);rw [d4];refine Ag.mk (Qv H19) ?_;rintro v3 H20 ⟨ha20,-,hv3⟩;obtain⟨hl3,x1,x2,x3,x4,x5,x6,rfl,-,-,-⟩:=hv3;have st20:=st19.call ha20;refine AI (cs:=Bp CF.cell (.slice x1 CF.reps.length x2) (.slice x3 CF.next.length x4) (.slice x5 CF.final.length x6)) st20 11 (by rw [Bd hl3];rfl) rfl (by rw [Bd hl3];decide) (CD rfl rfl rfl) fun H21 st21=>?_;rw [CO (by rw [Bd hl3];rfl)]at st21;refine ldN (cs:=Bp CF.cell (.slice x1 CF.reps.length x2) (.slice x3 CF.next.length x4) (.slice x5 CF.final.length x6)) (by rw [Bd hl3];exact MM) ((st21.blk 11 rfl).cells fun j v hv=>by rw [Aa5];exact hv) trivial ?_;refine⟨st21.old,?_⟩;rw [hdet];exact⟨_,rfl,Bd hl3,CD rfl rfl rfl⟩
               ·have d4:((F2.length:Int)==(budget:Int))=false:=beq_eq_false_iff_ne.2 (by omega);have h12:atF budget F2 L=some (F2++[L],F2.length):=by
                 unfold atF;rw [hf];simp only;rw [if_pos (by omega)]
                (conv=>whnf);rw [d4];refine WR (F:=F2) (S:=S) (st19.pick [3,4,5,0,1,2,6,7,8,9,10,11,12] (by decide)) hvl (by omega) hLr fun sa2 sc2 vs2 S2 H20 hvl2 st20=>?_;(conv=>whnf);exact⟨rfl,F2.length,rfl,F2++[L],sa2,sc2,vs2,S2,h12,hvl2,st20.pick [2,3,4,0,1,5,6,7,8,9,10,11] (by decide)⟩
            ·rintro t H20 junk20 ⟨F3,sa,sc,vs,S,hat,hvl,st20⟩;obtain⟨g1,g2,g3,g4⟩:=hat2 t F3 hat;obtain⟨-,htm⟩:=QW hat hF2m;have hll:(Bg row++Aa1 (reps.length - row.length) 0).length=reps.length:=by
              unfold Bg;rw [AaO,Aa6,List.length_replicate];omega
             refine ix AL (by omega) (by omega) ?_;refine GS (j:=k) (x:=(t:Int)) st20 11 ct3 rfl rfl (by omega) (by rw [hll];omega) rfl (fun H' _=>⟨rfl,L2 ⟨by omega,by omega⟩⟩) fun H21 st21=>?_;rw [W5 hrowl (by omega)]at st21;rw [hat]at hstep;(conv=>whnf);rw [w64 (x:=(k:Int)+1) (by omega) (by omega)];exact⟨rfl,k+1,by simp,⟨F3,row++[t],sa,sc,vs,S,by omega,g1,g2,g3,g4,by simp [hrowl],hstep,hvl,st21⟩,by omega⟩
         ·obtain rfl:k=reps.length:=by omega
          rw [AaI]at hfold;have hri:(Bg row).length=reps.length:=by unfold Bg;rw [Aa6,hrowl]
          have hfe:Bg row++Aa1 (reps.length - row.length) 0=Bg row:=by rw [hrowl,Ab4];simp
          rw [hfe]at st15;rw [hfold]at hnext;simp only [AaR]at hnext;have hrl2:(rows.map Bg).length=q:=by rw [Aa6];exact hrl
          have hend:((F2.take (q+1)).map fun l=>decide (a.fin∈l))=((F.take q).map fun l=>decide (a.fin∈l))++[decide (a.fin∈x)]:=by
           obtain⟨t,rfl⟩:=hpre;rw [List.take_append_of_le_length (by omega),Ac hx,AaX];rfl
          have hel7:((F.take q).map fun l=>decide (a.fin∈l)).length=q:=by rw [Aa6,AbH];omega
          obtain⟨ra',rc',er,hrow7,-⟩:=(st15.at_ 11 rfl).1.view (S':=slB (.slice (some ⟨rb,0,none⟩) reps.length reps.length)) (fun b hb=>hb) (fun b hb=>hb.elim);injection er with er1 er2 er3
          subst er1;subst er3;have st16:=StB.absorb (st15.pick [5,11,0,1,2,3,4,6,7,8,9,10] (by decide));refine VC.fa Lv ?_;refine ld1 (v:=.slice na q nc) DZ (by rw [(st16.blk 7 rfl).cell,Aa5];exact IN hcl) trivial ?_;refine A2 DH [.slice (some ⟨rb,0,none⟩) reps.length reps.length] rfl rfl (by decide) (by decide) ?_;intro q17 H17 hq17 hs17 hb17 ha17;have st17:=st16.skip hq17 ha17;have hrow17:SlD tIk (fun k=>Sn k∨slB (.slice (some ⟨rb,0,none⟩) reps.length reps.length) k) H17 (some ⟨rb,0,none⟩) reps.length (Bg row):=(hrow7.frame (ha17.mono fun k hk=>by
           have:=(st15.in_ 11 rfl (.inl hk)).2;omega)).mono fun k hk=>.inr hk
          refine T7 (row:=Bg row) st17 DH (hb17.cells fun j v hv=>by rw [Aa5];exact hv) ⟨some ⟨rb,0,none⟩,reps.length,by rw [hri],hrow17⟩ rfl (fun u hu=>by cases Aa8.1 hu;rfl) (by rw [hrl2];omega) (by decide) fun a18 c18 H18 st18=>?_;have e5:rows.map Bg++[Bg row]=(rows++[row]).map Bg:=by simp
          rw [hrl2,e5]at st18;rw [hrl2];refine VC.fa Lv ?_;refine AT st18 7 DZ rfl (by rw [hl259];decide) rfl fun H19 st19=>?_;rw [Aa5,O5 hcl]at st19;refine VC.fa PZ ?_;refine ld1 (v:=.slice fa q fc) FM (by rw [(st19.blk 7 rfl).cell,Aa5];exact O3 hcl) trivial ?_;refine A2 Cs [.bool (decide (a.fin∈x))] rfl rfl (by decide) (by decide) ?_;intro q20 H20 hq20 hs20 hb20 ha20;refine KY (x:=decide (a.fin∈x)) (st19.skip hq20 ha20) 6 Cs rfl hb20 rfl rfl (by rw [hel7];omega) (by decide) fun a21 c21 H21 st21 _=>?_;rw [hel7,←hend]at st21;rw [hel7];refine VC.fa PZ ?_;refine AT st21 7 FM rfl (by rw [hl259];decide) rfl fun H22 st22=>?_;rw [Aa5,O6 hcl]at st22;(conv=>whnf);rw [w64 (x:=(q:Int)+1) (by omega) (by omega)];refine⟨rfl,q+1,by simp,⟨F2,rows++[row],sa,sc,vs,S,a18,c18,a21,c21,_,?_,hF2m,hnd2,hHF2,by simp [hrl],hnext,hvl,st22.pick [1,2,3,4,5,0,6,7,8,9,10] (by decide)⟩,by omega⟩;have:=(Aa0.1 hx2).1;omega
     ·obtain rfl:q=F.length:=by omega
      have hrl2:(rows.map Bg).length=F.length:=by rw [Aa6];exact hrl
      have hdet:=Mp hrun rfl hFm;rw [AaI]at st12;have hmaps:(F.map fun l=>decide (a.fin∈l)).length=F.length:=Aa6 _;refine ldN (cs:=Bp cell (.slice ra reps.length rc) (.slice na F.length nc) (.slice fa F.length fc)) (by rw [hl259];exact MM) ((st12.blk 7 rfl).cells fun j v hv=>by rw [Aa5];exact hv) trivial ?_;refine AI (cs:=Bp cell (.slice ra reps.length rc) (.slice na F.length nc) (.slice fa F.length fc)) st12 10 (by rw [hl259];rfl) rfl (by rw [hl259];decide) (CD rfl rfl rfl) fun H13 st13=>?_;rw [CO (by rw [hl259];rfl)]at st13;refine ldN (cs:=Bp cell (.slice ra reps.length rc) (.slice na F.length nc) (.slice fa F.length fc)) (by rw [hl259];exact MM) ((st13.blk 10 rfl).cells fun j v hv=>by rw [Aa5];exact hv) trivial ?_;refine⟨st13.old,?_⟩;rw [hdet];refine⟨_,rfl,hcl,ra,rc,na,nc,fa,fc,?_,?_,St.viewF st13 5 rfl,St.viewF st13 6 rfl⟩
      ·rw [Dh,hrl2,hmaps]
      ·have hre:SlD tI SV H13 ra rc (asI reps):=st13.at_ 8 rfl;refine hre.mono fun k hk=>?_;have h5:=st13.in_ 8 rfl hk;unfold D9;have h6:¬Old H k:=h5.1;unfold Old at h6;omega
end Go.Proofs.YtfbghcpdinlmcaaGreatDoor
namespace Go.Proofs.YtfbghcpdinlmcaaGreatDoor
open Go.VC
def Dw(cells:List (BitVec 256))(g:Nat):Bool:=(AaC g).all fun h=> !BJ cells g h
theorem Cc{cells:List (BitVec 256)}{a b:Nat}:BJ cells a b=true↔∀c∈cells,c.getLsbD a=c.getLsbD b:=by
 unfold BJ;simp
theorem Fh{cells:List (BitVec 256)}{g:Nat}:Dw cells g=true↔∀h,h<g→BJ cells g h=false:=by
 unfold Dw;simp
theorem IT{cells:List (BitVec 256)}{b:Nat}:∀h,BJ cells b h=true→∃g,g≤h∧BJ cells b g=true∧Dw cells g=true:=by
 intro h
 induction h using Nat.strongRecOn with
 | _ h ih=>
   intro hb;by_cases hl:Dw cells h=true
   ·exact⟨h,AaL _,hb,hl⟩
   ·have:∃h',h'<h∧BJ cells h h'=true:=by
     apply Classical.byContradiction;intro hno;apply hl;rw [Fh];intro h' hh';cases hs:BJ cells h h' with
     | false=>rfl
     | true=>exact absurd ⟨h',hh',hs⟩ hno
    obtain⟨h',hlt,hs⟩:=this;obtain⟨g,g1,g2,g3⟩:=ih h' hlt (Cc.2 fun c hc=>(Cc.1 hb c hc).trans (Cc.1 hs c hc));exact⟨g,by omega,g2,g3⟩
theorem IG(cells:List (BitVec 256)):∀b,(Aw cells b).1=(AaC b).filter (Dw cells)
 | 0=>rfl
 | b+1=>by
   have ih:=IG cells b;rw [AbO,AbE];cases hf:(Aw cells b).1.findIdx? fun g=>BJ cells b g with
   | some k=>
     rw [Ic hf];obtain⟨hk,h1,-⟩:=AaA.1 hf;have hm:(Aw cells b).1[k]∈(AaC b).filter (Dw cells):=by rw [←ih];exact List.getElem_mem hk
     have hlt:=AbD.1 (AaB.1 hm).1;have:Dw cells b=false:=by
      cases hl:Dw cells b with
      | false=>rfl
      | true=>rw [Fh.1 hl _ hlt]at h1;cases h1
     rw [Ab6 (by rw [this];decide)];simpa using ih
   | none=>
     rw [Lb hf];have:Dw cells b=true:=by
      rw [Fh];intro h hh;cases hs:BJ cells b h with
      | false=>rfl
      | true=>
        obtain⟨g,g1,g2,g3⟩:=IT h hs;have hm:g∈(Aw cells b).1:=by rw [ih];exact AaB.2 ⟨AbD.2 (by omega),g3⟩
        have:=List.findIdx?_eq_none_iff.1 hf g hm;rw [g2]at this;cases this
     rw [Ab7 this,ih];rfl
def FI(x y:BitVec 256):Prop:=∀c,x.getLsbD c=true→y.getLsbD c=false
theorem MZ{s b x:BitVec 256}(h:x∈Iq s b):x=b &&& s∨x=b &&& ~~~s:=by
 have:=(AaB.1 h).1;simpa using this
theorem II(sets:List (BitVec 256)):(C7 sets).Pairwise FI:=by
 have key:∀(rest bl:List (BitVec 256)),bl.Pairwise FI→(rest.foldl Kd bl).Pairwise FI:=by
  intro rest
  induction rest with
  | nil=>exact fun bl h=>h
  | cons s rest ih=>
    intro bl h;refine ih _ ?_;unfold Kd;rw [AbQ];refine⟨fun b hb=>?_,h.imp fun{x y} hxy u hu v hv c hc=>?_⟩
    ·refine List.Pairwise.filter _ (AbX.2 ⟨fun y hy c hc=>?_,AbM _ _⟩);rw [Aa8]at hy;subst hy;rw [AaF,AaM]at hc;rw [AaF,AbF,hc.2];simp
    ·have h1:x.getLsbD c=true:=by
      rcases MZ hu with rfl | rfl<;>· rw [AaF,AaM]at hc;exact hc.1
     have h2:=hxy c h1;rcases MZ hv with rfl | rfl<;>rw [AaF,h2,Bool.false_and]
 exact key sets _ (AbM _ _)
theorem PI(sets:List (BitVec 256)):∀x∈C7 sets,∀c d,c<256→d<256→(∀s∈sets,s.getLsbD c=s.getLsbD d)→x.getLsbD c=x.getLsbD d:=by
 have key:∀(rest bl:List (BitVec 256)) (c d:Nat),c<256→d<256→(∀x∈bl,x.getLsbD c=x.getLsbD d)→(∀s∈rest,s.getLsbD c=s.getLsbD d)→∀x∈rest.foldl Kd bl,x.getLsbD c=x.getLsbD d:=by
  intro rest
  induction rest with
  | nil=>exact fun bl c d _ _ h _=>h
  | cons s rest ih=>
    intro bl c d hc hd h hr;refine ih _ c d hc hd (fun x hx=>?_) fun s' hs'=>hr s' (AbS _ hs');obtain⟨b,hb,hx⟩:=AbK.1 hx;have h1:=h b hb;have h2:=hr s (AbY ..);rcases MZ hx with rfl | rfl
    ·rw [AaF,AaF,h1,h2]
    ·rw [AaF,AaF,AbF,AbF,h1,h2];simp [hc,hd]
 intro x hx c d hc hd hs;refine key sets _ c d hc hd (fun x hx=>?_) hs x hx;rw [Aa8]at hx;subst hx;rw [AaY,AaY];simp [hc,hd]
theorem UF{l:List (BitVec 256)}{b:Nat}(h:l.Pairwise FI)(hne:∀x∈l,x.getLsbD b=true)(hx:l≠[]):∃x,l=[x]:=by
 match l,hx with
 | [x],_=>exact⟨x,rfl⟩
 | x::y::r,_=>
   have h1:=(AbX.1 h).1 y (by simp) b (hne x (by simp));rw [hne y (by simp)]at h1;cases h1
theorem NB(sets:List (BitVec 256)):Hs sets=(AaC 256).filter (Dw sets):=by
 have hok:=Jj sets;have hone:∀b,b<256→(Ca (C7 sets) b).map (fun c=>(Bt c 0).1)=if Dw sets b then [b]else []:=by
  intro b hb;have hall:∀x∈Ca (C7 sets) b,x∈C7 sets∧(Bt x 0).1=b∧x.getLsbD b=true:=fun x hx=>by
   obtain⟨h1,h2⟩:=AaB.1 hx;have h3:(Bt x 0).1=b:=by simpa using h2
   have h4:=(Hh (hok.ne x h1)).1;rw [h3]at h4;exact⟨h1,h3,h4⟩
  cases hl:Dw sets b with
  | false=>
    rw [if_neg (by decide)];have:Ca (C7 sets) b=[]:=by
     apply Classical.byContradiction;intro hne;obtain⟨x,hx⟩:=List.exists_mem_of_ne_nil _ hne;obtain⟨h1,h2,h3⟩:=hall x hx;have:∃h,h<b∧BJ sets b h=true:=by
      apply Classical.byContradiction;intro hno;have:Dw sets b=true:=Fh.2 fun h hh=>by
       cases hs:BJ sets b h with
       | false=>rfl
       | true=>exact absurd ⟨h,hh,hs⟩ hno
      rw [hl]at this;cases this
     obtain⟨h,hh,hs⟩:=this;have h4:=PI sets x h1 b h hb (by omega) (Cc.1 hs);rw [h3]at h4;have h5:=(Hh (hok.ne x h1)).2 h (by rw [h2];exact hh);rw [h5]at h4;cases h4
    rw [this];rfl
  | true=>
    rw [if_pos rfl];obtain⟨x,hx,hxb⟩:=hok.all b hb;obtain⟨l1,l2⟩:=Hh (hok.ne x hx);have hle:(Bt x 0).1=b:=by
     apply Classical.byContradiction;intro hne;have hlt:(Bt x 0).1<b:=by
      rcases Nat.lt_or_ge b (Bt x 0).1 with h | h
      ·rw [l2 b h]at hxb;cases hxb
      ·omega
     have hs:=hok.same x hx b _ hxb l1;have:=Fh.1 hl _ hlt;rw [Cc.2 hs]at this;cases this
    have hmem:x∈Ca (C7 sets) b:=AaB.2 ⟨hx,by rw [hle];simp⟩;obtain⟨y,hy⟩:=UF (l:=Ca (C7 sets) b) (b:=b) ((II sets).filter _) (fun z hz=>(hall z hz).2.2) (AbZ hmem);rw [hy];have:=(hall y (by rw [hy];simp)).2.1;simp only [AbT,AbV,this]
 unfold Hs Cg;rw [List.map_flatMap];have key:∀l:List Nat,(∀b∈l,b<256)→(l.flatMap fun b=>(Ca (C7 sets) b).map fun c=>(Bt c 0).1)=l.filter (Dw sets):=by
  intro l
  induction l with
  | nil=>exact fun _=>rfl
  | cons b l ih=>
    intro h;rw [List.flatMap_cons,hone b (h b (AbY ..)),ih fun x hx=>h x (AbS _ hx)];cases hl:Dw sets b with
    | true=>rw [Ab7 hl];rfl
    | false=>rw [Ab6 (by rw [hl];decide)];rfl
 exact key _ fun b hb=>AbD.1 hb
end Go.Proofs.YtfbghcpdinlmcaaGreatDoor
namespace Go.Proofs.YtfbghcpdinlmcaaGreatDoor
open Go.VC
attribute [local irreducible] Cp HQ Aw
section
variable{K:Type} [DecidableEq K]{most:Nat}{step:K→Nat→K}{start:K}{P:K→Prop}{x:K}
theorem Pe(s:Option (List K×List Nat))(b:Nat):(DG most step x s b).map Prod.fst=(s.map Prod.fst).bind fun f=>(atF most f (step x b)).map Prod.fst:=by
 cases s with
 | none=>rfl
 | some p=>
   simp only [DG,AaN,AaR];cases atF most p.1 (step x b)<;>rfl
theorem VA{f:List K}{k:K}{i:Nat}(hn:f.Nodup)(h:f[i]? =some k):atF most f k=some (f,i):=by
 unfold atF;have:f.findIdx? (·=k)=some i:=by
  rw [AaA];obtain⟨hi,e⟩:=Aa0.1 h;refine⟨hi,by simpa using e,fun j hj=>?_⟩;have:=(AaP.1 hn) j i (by omega) hi hj;rw [e]at this;simpa using this
 rw [this]
theorem T9{F F':List K}{k:K}{i:Nat}(h:atF most F k=some (F',i)):∀y∈F',y∈F∨y=k:=by
 intro y hx;unfold atF at h;split at h
 ·injection h with h;injection h with h1 h2;subst h1;exact .inl hx
 ·split at h
  ·injection h with h;injection h with h1 h2;subst h1
   rcases AaG.1 hx with hx | hx
   ·exact .inl hx
   ·rw [Aa8]at hx;exact .inr hx
  ·cases h
theorem Xj(hs:∀b,P (step x b)):∀(l:List Nat) (f f':List K) (r r':List Nat),l.foldl (DG most step x) (some (f,r))=some (f',r')→(∀y∈f,P y)→∀y∈f',P y
 | [],f,f',r,r',h,hf=>by
   simp only [Ab5,AaU.injEq,Prod.mk.injEq]at h;obtain⟨rfl,-⟩:=h;exact hf
 | b::l,f,f',r,r',h,hf=>by
   rw [AbB]at h;simp only [DG,AaN]at h;cases ha:atF most f (step x b)with
   | none=>rw [ha]at h;rw [Ac2,Gf]at h;cases h
   | some p=>
     rw [ha]at h;refine Xj hs l p.1 f' _ r' h fun y hy=>?_;rcases T9 (i:=p.2) ha y hy with h1 | rfl
     ·exact hf y h1
     ·exact hs b
theorem NF:∀(l:List Nat) (f f':List K) (r r':List Nat),l.foldl (DG most step x) (some (f,r))=some (f',r')→f.length≤most→f.Nodup→f'.length≤most∧f'.Nodup∧f <+: f'∧∃r2,r'=r++r2
 | [],f,f',r,r',h,h1,h2=>by
   simp only [Ab5,AaU.injEq,Prod.mk.injEq]at h;obtain⟨rfl,rfl⟩:=h;exact⟨h1,h2,AbJ _,[],by simp⟩
 | b::l,f,f',r,r',h,h1,h2=>by
   rw [AbB]at h;simp only [DG,AaN]at h;cases ha:atF most f (step x b)with
   | none=>rw [ha]at h;rw [Ac2,Gf]at h;cases h
   | some p=>
     rw [ha]at h;obtain⟨-,g1,g2,g3⟩:=La (i:=p.2) ha h1 h2;obtain⟨k1,k2,k3,r2,k4⟩:=NF l p.1 f' _ r' h g1 g2;exact⟨k1,k2,g3.trans k3,p.2::r2,by rw [k4];simp⟩
theorem Gg(hm:1≤most)(h0:P start)(hs:∀y b,P y→P (step y b))(bs:List Nat):∀(n:Nat) (f:List K) (rows:List (List Nat)),BI most step bs start n=some (f,rows)→f.length≤most∧f.Nodup∧f[0]? =some start∧∀y∈f,P y
 | 0,f,rows,h=>by
   simp only [BI,AaU.injEq,Prod.mk.injEq]at h;obtain⟨rfl,-⟩:=h;exact⟨hm,by simp,rfl,fun y hy=>by rw [Aa8]at hy;subst hy;exact h0⟩
 | n+1,f,rows,h=>by
   simp only [BI]at h;cases hp:BI most step bs start n with
   | none=>rw [hp]at h;cases h
   | some p=>
     obtain⟨g1,g2,g3,g4⟩:=Gg hm h0 hs bs n p.1 p.2 hp;rw [hp]at h;simp only [AaN]at h;cases hx:p.1[n]? with
     | none=>
       rw [hx]at h;simp only [AaU.injEq]at h;subst h;exact⟨g1,g2,g3,g4⟩
     | some x=>
       rw [hx]at h;simp only at h;cases hr:bs.foldl (DG most step x) (some (p.1,[]))with
       | none=>rw [hr]at h;cases h
       | some r=>
         rw [hr]at h;simp only [AaR,AaU.injEq,Prod.mk.injEq]at h;obtain⟨rfl,-⟩:=h;obtain⟨k1,k2,k3,-⟩:=NF bs p.1 r.1 [] r.2 hr g1 g2;exact⟨k1,k2,Eu k3 g3,Xj (fun b=>hs x b (g4 x (Aa2 hx))) bs p.1 r.1 [] r.2 hr g4⟩
def V0(P:K→Prop)(step:K→Nat→K)(p:Nat→Bool):Prop:=∀b,b<256→p b=false→∃g,g<b∧p g=true∧∀x,P x→step x g=step x b
theorem Tb{p:Nat→Bool}(hc:V0 P step p)(hx:P x){f:List K}(h1:f.length≤most)(h2:f.Nodup):∀m,m≤256→
  ((AaC m).foldl (DG most step x) (some (f,[]))).map Prod.fst=(((AaC m).filter p).foldl (DG most step x) (some (f,[]))).map Prod.fst:=by
 intro m
 induction m with
 | zero=>intro _;rfl
 | succ m ih=>
   intro hm;have ih:=ih (by omega);rw [AbO,AbE,Ab9,Ab9,AbB,Ab5,Pe,ih];cases hp:p m with
   | true=>
     rw [Ab7 hp,AbN,AbB,Ab5,Pe]
   | false=>
     rw [Ab6 (by rw [hp];decide),AbN,Ab5];cases hA:(AaC m).foldl (DG most step x) (some (f,[]))with
     | none=>rw [←ih,hA];rfl
     | some q=>
       obtain⟨f',r'⟩:=q;obtain⟨k1,k2,k3,k4,k5⟩:=JX h1 h2 hA;obtain⟨g,hg,hpg,hs⟩:=hc m (by omega) hp;rw [List.length_range]at k4;obtain⟨t,ht⟩:=Ad (l:=r') (k:=g) (by omega);have h5:=k5 g g t (AbC hg) ht;rw [hs x hx]at h5;rw [←ih,hA];simp only [AaR,AaN,VA k2 h5]
theorem LJ{p:Nat→Bool}(hc:V0 P step p)(hm:1≤most)(h0:P start)(hs:∀y b,P y→P (step y b)):∀n,(BI most step (AaC 256) start n).map Prod.fst=(BI most step ((AaC 256).filter p) start n).map Prod.fst
 | 0=>rfl
 | n+1=>by
   have ih:=LJ hc hm h0 hs n;simp only [BI];cases hA:BI most step (AaC 256) start n with
   | none=>
     rw [hA]at ih;cases hB:BI most step ((AaC 256).filter p) start n with
     | none=>rfl
     | some q=>rw [hB]at ih;cases ih
   | some q=>
     rw [hA]at ih;cases hB:BI most step ((AaC 256).filter p) start n with
     | none=>rw [hB]at ih;cases ih
     | some q'=>
       rw [hB]at ih;simp only [AaR,AaU.injEq]at ih;obtain⟨f,rows⟩:=q;obtain⟨f',rows'⟩:=q';simp only at ih;subst ih;obtain⟨g1,g2,g3,g4⟩:=Gg hm h0 hs _ n f rows hA;simp only [AaN];cases hx:f[n]? with
       | none=>rfl
       | some x=>
         have hr:=Tb hc (g4 x (Aa2 hx)) g1 g2 256 (AaL _);cases hA2:(AaC 256).foldl (DG most step x) (some (f,[]))with
         | none=>
           rw [hA2]at hr;cases hB2:((AaC 256).filter p).foldl (DG most step x) (some (f,[]))with
           | none=>simp only [hA2,hB2];rfl
           | some r=>rw [hB2]at hr;cases hr
         | some r=>
           rw [hA2]at hr;cases hB2:((AaC 256).filter p).foldl (DG most step x) (some (f,[]))with
           | none=>rw [hB2]at hr;cases hr
           | some r'=>
             rw [hB2]at hr;simp only [hA2,hB2];simpa using hr
def VJ(most:Nat)(step:K→Nat→K)(start:K):Option (List K):=(FN most step (AaC 256) start).map Prod.fst
theorem Rk{p:Nat→Bool}(hc:V0 P step p)(hm:1≤most)(h0:P start)(hs:∀y b,P y→P (step y b)):(FN most step ((AaC 256).filter p) start).map Prod.fst=VJ most step start:=(LJ hc hm h0 hs most).symm
theorem Pg(hm:1≤most){bs:List Nat}:∀(k n:Nat) (f:List K) (rows:List (List Nat)),BI most step bs start (n+k)=some (f,rows)→∃f1 rows1,BI most step bs start n=some (f1,rows1)∧f1 <+: f
 | 0,n,f,rows,h=>⟨f,rows,h,AbJ _⟩
 | k+1,n,f,rows,h=>by
   rw [←Ac3]at h;simp only [BI]at h;cases hp:BI most step bs start (n+k)with
   | none=>rw [hp]at h;cases h
   | some p=>
     obtain⟨f1,rows1,e1,e2⟩:=Pg hm k n p.1 p.2 hp;obtain⟨g1,g2,-⟩:=Gg (P:=fun _=>True) hm trivial (fun _ _ _=>trivial) bs (n+k) p.1 p.2 hp;rw [hp]at h;simp only [AaN]at h;cases hx:p.1[n+k]? with
     | none=>
       rw [hx]at h;simp only [AaU.injEq]at h;subst h;exact⟨f1,rows1,e1,e2⟩
     | some x=>
       rw [hx]at h;simp only at h;cases hr:bs.foldl (DG most step x) (some (p.1,[]))with
       | none=>rw [hr]at h;cases h
       | some r=>
         rw [hr]at h;simp only [AaR,AaU.injEq,Prod.mk.injEq]at h;obtain⟨rfl,-⟩:=h;exact⟨f1,rows1,e1,e2.trans (NF bs p.1 r.1 [] r.2 hr g1 g2).2.2.1⟩
theorem VI(hm:1≤most){bs:List Nat}{F:List K}{rows:List (List Nat)}(h:FN most step bs start=some (F,rows)):BI most step bs start F.length=some (F,rows):=by
 obtain⟨g1,-⟩:=Gg (P:=fun _=>True) hm trivial (fun _ _ _=>trivial) bs most F rows h;obtain⟨f1,rows1,e1,e2⟩:=Pg hm (most - F.length) F.length F rows (by rw [show F.length+(most - F.length)=most by omega];exact h);have e3:=LI e1 e2.length_le most g1;have e4:BI most step bs start most=some (F,rows):=h;rw [e4]at e3;rw [e1];exact e3.symm
theorem TR(hm:1≤most){F:List K}(h:VJ most step start=some F):1≤F.length∧F.length≤most∧F.Nodup∧F[0]? =some start:=by
 unfold VJ at h;cases hd:FN most step (AaC 256) start with
 | none=>rw [hd]at h;cases h
 | some p=>
   rw [hd]at h;simp only [AaR,AaU.injEq]at h;subst h;obtain⟨g1,g2,g3,-⟩:=Gg (P:=fun _=>True) hm trivial (fun _ _ _=>trivial) (AaC 256) most p.1 p.2 hd;exact⟨(Aa0.1 g3).1,g1,g2,g3⟩
end
theorem FI.sym{x y:BitVec 256}(h:FI x y):FI y x:=fun c hc=>by
 cases hx:x.getLsbD c with
 | false=>rfl
 | true=>rw [h c hx]at hc;cases hc
theorem T6{l:List (BitVec 256)}(h:l.Pairwise FI){x y:BitVec 256}(hx:x∈l)(hy:y∈l)(hne:x≠y):FI x y:=by
 obtain⟨i,hi,rfl⟩:=AbU hx;obtain⟨j,hj,rfl⟩:=AbU hy;rcases AbG i j with hlt | rfl | hlt
 ·exact AaP.1 h i j hi hj hlt
 ·exact absurd rfl hne
 ·exact(AaP.1 h j i hj hi hlt).sym
theorem Mk{sets:List (BitVec 256)}{x:BitVec 256}:x∈Cg sets↔x∈C7 sets:=by
 unfold Cg;rw [AbK];constructor
 ·rintro⟨b,-,hx⟩;exact(AaB.1 hx).1
 ·exact fun h=>⟨(Bt x 0).1,AbD.2 (Hl x 0),AaB.2 ⟨h,by simp⟩⟩
theorem Og(sets:List (BitVec 256)):(Cg sets).Pairwise FI:=by
 have hb:=II sets;unfold Cg;rw [AbQ];refine⟨fun b _=>hb.filter _,List.pairwise_lt_range.imp fun{b c} hbc x hx y hy=>?_⟩;obtain⟨h1,h2⟩:=AaB.1 hx;obtain⟨h3,h4⟩:=AaB.1 hy;refine T6 hb h1 h3 fun e=>?_;subst e;have e1:(Bt x 0).1=b:=by simpa using h2
 have e2:(Bt x 0).1=c:=by simpa using h4
 omega
theorem Sr(sets:List (BitVec 256)){b:Nat}(hb:b<256):cnt (Cg sets) b=1:=by
 unfold cnt;obtain⟨x,hx,hxb⟩:=(Jj sets).all b hb;obtain⟨y,hy⟩:=UF (l:=(Cg sets).filter fun x=>x.getLsbD b) (b:=b) ((Og sets).filter _) (fun z hz=>(AaB.1 hz).2) (AbZ (AaB.2 ⟨Mk.2 hx,hxb⟩));rw [hy];rfl
def P7(a:NfM)(l:List Int):Prop:=∀q∈l,a.has q=true
def QT(a:NfM)(sets:List (BitVec 256)):Prop:=∀e∈a.edges,e.sil=false→okE a e=true→e.set∈sets
theorem Sa(a:NfM):QT a (CY a):=fun e he hs hk=>by
 unfold okE at hk;rw [AaM]at hk;obtain⟨row,h1,-,h3⟩:=Py hk.1;exact AbK.2 ⟨row,Aa2 h1,AaW.2 ⟨e,(h3 e).2 ⟨he,hs,rfl,hk.2⟩,rfl⟩⟩
theorem Sb(a:NfM):QT a (DD a):=fun e he hs _=>AaW.2 ⟨e,AaB.2 ⟨he,by rw [hs];rfl⟩,rfl⟩
theorem LT{a:NfM}{sets:List (BitVec 256)}(ht:QT a sets){g b:Nat}(hs:BJ sets g b=true){l:List Int}(hl:P7 a l):AR a l g=AR a l b:=by
 have key:∀g b:Nat,BJ sets g b=true→∀q,Je a (·∈l) g q→Je a (·∈l) b q:=fun g b hs q ⟨e,h1,h2,h3,h4,h5,h6⟩=>
  ⟨e,h1,h2,by rw [←Cc.1 hs e.set (ht e h1 h2 (by unfold okE;rw [hl _ h4,h5];rfl))];exact h3,h4,h5,h6⟩
 have hs':BJ sets b g=true:=Cc.2 fun c hc=>(Cc.1 hs c hc).symm;unfold AR goS;have e:Je a (·∈l) g=Je a (·∈l) b:=funext fun q=>propext ⟨key g b hs q,key b g hs' q⟩;rw [e]
theorem Rc{a:NfM}{sets:List (BitVec 256)}(ht:QT a sets):V0 (P7 a) (AR a) (Dw sets):=fun b hb hp=>by
 obtain⟨g,g1,g2,g3⟩:=IT (cells:=sets) (b:=b) b (LP sets b);have hne:g≠b:=fun e=>by rw [e,hp]at g3;cases g3
 exact⟨g,by omega,g3,fun x hx=>LT ht (Cc.2 fun c hc=>(Cc.1 g2 c hc).symm) hx⟩
noncomputable abbrev Ig(a:NfM):List Int:=Cu (EI a)
theorem Ld(a:NfM):P7 a (Ig a):=fun q hq=>DK a q ((Fi (Dk (DK a)) q).1 hq)
theorem JS{a:NfM}(l:List Int)(b:Nat)(_:P7 a l):P7 a (AR a l b):=HM
noncomputable def S6(a:NfM)(most:Nat):Option (List (List Int)):=VJ most (AR a) (Ig a)
theorem ZG(a:NfM){most:Nat}(hm:1≤most):(FN most (AR a) (Hs (CY a)) (Ig a)).map Prod.fst=S6 a most:=by
 rw [NB];exact Rk (Rc (Sa a)) hm (Ld a) JS
theorem YF(a:NfM){most:Nat}(hm:1≤most):(FN most (AR a) (Me a) (Ig a)).map Prod.fst=S6 a most:=by
 unfold Me;rw [IG];exact Rk (Rc (Sb a)) hm (Ld a) JS
structure E7(a:NfM)(F:List (List Int))(st:Int→Nat→Int)(fi:Int→Bool):Prop where
 st:∀(q b:Nat) (x:List Int),F[q]? =some x→b<256→∃t:Nat,st (q:Int) b=(t:Int)∧F[t]? =some (AR a x b)
 fi:∀(q:Nat) (x:List Int),F[q]? =some x→fi (q:Int)=decide (a.fin∈x)
theorem Lm{a:NfM}{most:Nat}{bs:List Nat}{F:List (List Int)}{rows:List (List Nat)}(hm:1≤most)(h:FN most (AR a) bs (Ig a)=some (F,rows)):PA most (AR a) bs (Ig a) F.length F rows∧∀x∈F,P7 a x:=by
 obtain⟨-,-,-,g4⟩:=Gg (P:=P7 a) hm (Ld a) JS bs most F rows h;exact⟨Pf hm F.length F rows (VI hm h) fun j hj=>hj,g4⟩
theorem NE{a:NfM}{most:Nat}{bs:List Nat}{F:List (List Int)}{rows:List (List Nat)}(hk:PA most (AR a) bs (Ig a) F.length F rows){q:Nat}{row:List Nat}(hr:rows[q]? =some row):row.length=bs.length∧∀t∈row,t<F.length:=by
 have hcl:=hk.cols row (Aa2 hr);refine⟨hcl,fun t ht=>?_⟩;obtain⟨k,hkt⟩:=Ab1 ht;have hkl:=(Aa0.1 hkt).1;obtain⟨b,hb⟩:=Ad (l:=bs) (k:=k) (by omega);have hql:=(Aa0.1 hr).1;rw [hk.rl]at hql;obtain⟨x,hx⟩:=Ad (l:=F) (k:=q) hql;exact(Aa0.1 (hk.ok q k row b t x hr hb hkt hx)).1
theorem YA{a:NfM}{most:Nat}{F:List (List Int)}{rows:List (List Nat)}(hm:1≤most)(hm2:most≤65536)(h:FN most (AR a) (Hs (CY a)) (Ig a)=some (F,rows)):
  BK (Cg (CY a)) (rows.map Bg) F.length=true∧E7 a F (C4 (some (Dp (Cg (CY a)) (rows.map Bg) (F.map fun l=>decide (a.fin∈l))))) (HP (some (Dp (Cg (CY a)) (rows.map Bg) (F.map fun l=>decide (a.fin∈l)))))∧stN (some (Dp (Cg (CY a)) (rows.map Bg) (F.map fun l=>decide (a.fin∈l))))=F.length:=by
 obtain⟨hk,hP⟩:=Lm hm h;have h0:=(Aa0.1 hk.zero).1;have hlen:=hk.len;have hrl:(rows.map Bg).length=F.length:=by rw [Aa6,hk.rl]
 have hbl:(Hs (CY a)).length=(Cg (CY a)).length:=Aa6 _;have hs:BK (Cg (CY a)) (rows.map Bg) F.length=true:=by
  rw [QC];refine⟨⟨by omega,by omega,hrl⟩,fun b hb=>Sr _ hb,fun r hr=>?_⟩;obtain⟨row,hrow,rfl⟩:=AaW.1 hr;obtain⟨q,hq⟩:=Ab1 hrow;obtain⟨h1,h2⟩:=NE hk hq;unfold GL;rw [AaM,beq_iff_eq,AaV];refine⟨by unfold Bg;rw [Aa6,h1,hbl],fun t ht=>?_⟩;obtain⟨u,hu,rfl⟩:=AaW.1 ht;have:=h2 u hu;simp only [AaM,decide_eq_true_eq];omega
 have hfl:(F.map fun l=>decide (a.fin∈l)).length=F.length:=Aa6 _;refine⟨hs,⟨fun q b x hx hb=>?_,fun q x hx=>?_⟩,by simp only [stN,Dp,Aa6];exact hk.rl⟩
 ·obtain⟨row,hrow⟩:=Ad (l:=rows) (k:=q) (by rw [hk.rl];exact(Aa0.1 hx).1);obtain⟨h1,h2⟩:=NE hk hrow;obtain⟨c1,c2⟩:=DV hs hb;obtain⟨c,hc⟩:=Ad c1;have hcb:=c2 c hc;obtain⟨t,ht⟩:=Ad (l:=row) (k:=CU (Cg (CY a)) b) (by omega);have hbs:(Hs (CY a))[CU (Cg (CY a)) b]? =some (Bt c 0).1:=by unfold Hs;rw [AaE,hc];rfl
  have hok:=hk.ok q _ row _ t x hrow hbs ht hx;have hcm:=Mk.1 (Aa2 hc);have hp:=Jj (CY a);have hsg:BJ (CY a) (Bt c 0).1 b=true:=Cc.2 fun s hs=>hp.same c hcm _ _ (Hh (hp.ne c hcm)).1 hcb s hs;refine⟨t,?_,by rw [hok,LT (Sa a) hsg (hP x (Aa2 hx))]⟩;rw [Qo (row:=Bg row) (by rw [hfl];exact hs) (by rw [AaE,hrow];rfl) hb];unfold Bg;rw [AaJ,AaE,ht];rfl
 ·simp [HP,Dp,hx]
theorem YB{a:NfM}{most:Nat}{F:List (List Int)}{rows:List (List Nat)}(hm:1≤most)(hm2:most≤65536)(h:FN most (AR a) (Me a) (Ig a)=some (F,rows)){D:DM}(hD:D=⟨asI (Aw (DD a) 256).2,asI (Me a),rows.map Bg,F.map fun l=>decide (a.fin∈l)⟩):
  D.Ok∧E7 a F (Jq D) (O9 D)∧D.next.length=F.length:=by
 subst hD;obtain⟨hk,hP⟩:=Lm hm h;have h0:=(Aa0.1 hk.zero).1;have hlen:=hk.len;have hat:=Fe (DD a) 256;have hrl:(rows.map Bg).length=F.length:=by rw [Aa6,hk.rl]
 refine⟨⟨by simp only;omega,by simp only;omega,by simp only [Aa6];exact hk.rl.symm,by simp only;rw [Dh,hat.plen],fun r hr=>?_⟩,⟨fun q b x hx hb=>?_,fun q x hx=>?_⟩,hrl⟩
 ·simp only at hr ⊢;obtain⟨row,hrow,rfl⟩:=AaW.1 hr;obtain⟨q,hq⟩:=Ab1 hrow;obtain⟨h1,h2⟩:=NE hk hq;have hfl:(Me a).length≤256:=hat.flen;have hil:(Bg row).length=row.length:=by unfold Bg;rw [Aa6]
  refine⟨by omega,fun c hc=>?_,fun t ht=>?_⟩
  ·obtain⟨u,hu,rfl⟩:=AaW.1 hc;have:u<(Me a).length:=hat.lt u hu;omega
  ·obtain⟨u,hu,rfl⟩:=AaW.1 ht;have:=h2 u hu;omega
 ·obtain⟨row,hrow⟩:=Ad (l:=rows) (k:=q) (by rw [hk.rl];exact(Aa0.1 hx).1);obtain⟨h1,h2⟩:=NE hk hrow;obtain⟨p,hp⟩:=Ad (l:=(Aw (DD a) 256).2) (k:=b) (by rw [hat.plen];exact hb);have hpl:p<(Me a).length:=hat.lt p (Aa2 hp);obtain⟨g,hg⟩:=Ad hpl;obtain⟨t,ht⟩:=Ad (l:=row) (k:=p) (by omega);have hok:=hk.ok q p row g t x hrow hg ht hx;have hsg:BJ (DD a) g b=true:=Cc.2 fun s hs=>(Cc.1 (hat.sig b p g hp hg).1 s hs).symm;refine⟨t,?_,by rw [hok,LT (Sb a) hsg (hP x (Aa2 hx))]⟩;exact Pu (row:=Bg row) (c:=p) (by simp only;rw [AaE,hrow];rfl) (Kx hp) (by unfold Bg;rw [AaE,ht];rfl)
 ·simp [O9,hx]
theorem Qi{a:NfM}{F:List (List Int)}(hn:F.Nodup){s1 s2:Int→Nat→Int}{f1 f2:Int→Bool}(h1:E7 a F s1 f1)(h2:E7 a F s2 f2):∀(q b:Nat),q<F.length→b<256→s1 (q:Int) b=s2 (q:Int) b:=fun q b hq hb=>by
 obtain⟨x,hx⟩:=Ad hq;obtain⟨t,e1,k1⟩:=h1.st q b x hx hb;obtain⟨u,e2,k2⟩:=h2.st q b x hx hb;have:t=u:=by
  obtain⟨ht,e3⟩:=Aa0.1 k1;obtain⟨hu,e4⟩:=Aa0.1 k2;rcases AbG t u with h | h | h
  ·exact absurd (e3.trans e4.symm) (AaP.1 hn t u ht hu h)
  ·exact h
  ·exact absurd (e4.trans e3.symm) (AaP.1 hn u t hu ht h)
 rw [e1,e2,this]
theorem SD{a:NfM}{F:List (List Int)}{s1 s2:Int→Nat→Int}{f1 f2:Int→Bool}(h1:E7 a F s1 f1)(h2:E7 a F s2 f2):∀(q:Nat),q<F.length→f1 (q:Int)=f2 (q:Int):=fun q hq=>by
 obtain⟨x,hx⟩:=Ad hq;rw [h1.fi q x hx,h2.fi q x hx]
end Go.Proofs.YtfbghcpdinlmcaaGreatDoor
namespace Go.Proofs.YtfbghcpdinlmcaaGreatDoor
open Go.VC
theorem J7{S:Nat→Prop}{H:Aa}{v:Value}{a:NfM}{b:Int}(h:NfV S H v a)(hb:b<1∨4096<b):
  B8 Tryz.prog 38 #[v,.int .i64 b] H (.tuple #[.pointer none,.int .i64 2]):=by
 refine Al.of_vc Tryz.func38 rfl (Tryz.call38 _) (Qt h fun ea ec he0 h1=>?_);subst he0;intro p H1 hp hs1 hb1 ha1;have st1:=(St.nil H).box hp hs1 hb1 ha1;by_cases hl:b<1
 ·have d1:decide (b<(1:Int))=true:=decide_eq_true hl;(conv=>whnf);rw [d1];(conv=>whnf);exact⟨rfl,st1.old⟩
 ·have d1:decide (b<(1:Int))=false:=decide_eq_false hl;have d2:decide ((4096:Int)<b)=true:=decide_eq_true (by omega);(conv=>whnf);rw [d1];(conv=>whnf);rw [d2];(conv=>whnf);exact⟨rfl,st1.old⟩
end Go.Proofs.YtfbghcpdinlmcaaGreatDoor
namespace Go.Proofs.YtfbghcpdinlmcaaGreatDoor
open Go.VC
attribute [local irreducible] Cp HQ Aw
noncomputable def FZ(a:NfM)(b:Int):Except Int (List (List Int)):=if b<1∨4096<b then .error 2 else match S6 a b.toNat with
 | none=>.error 40
 | some F=>.ok F
theorem O0{a:NfM}{b:Int}(h:b<1∨4096<b):FZ a b= .error 2:=by unfold FZ;rw [if_pos h]
theorem Ri{a:NfM}{b:Nat}(h1:1≤b)(h2:b≤4096):FZ a (b:Int)=match S6 a b with
 | none=>.error 40
 | some F=>.ok F:=by
 unfold FZ;rw [if_neg (by omega),AaK]
theorem O1{a:NfM}{b e:Int}(h:FZ a b= .error e):e≠0∧0≤e∧e≤40:=by
 unfold FZ at h;split at h
 ·injection h with h;omega
 ·split at h
  ·injection h with h;omega
  ·cases h
theorem Rj{a:NfM}{b:Int}{F:List (List Int)}(h:FZ a b= .ok F):∃m:Nat,b=(m:Int)∧1≤m∧m≤4096∧S6 a m=some F:=by
 unfold FZ at h;split at h
 ·cases h
 ·rename_i hb;refine⟨b.toNat,by omega,by omega,by omega,?_⟩;split at h
  ·cases h
  ·rename_i F' hF;injection h with h
   rw [hF,h]
def KU(a:NfM)(F:List (List Int))(H H':Aa)(v:Value):Prop:=∃(o:AM),Db (fun k=>H.size≤k∧k<H'.size) H' v (some o)∧E7 a F (C4 (some o)) (HP (some o))∧stN (some o)=F.length
theorem TP{S:Nat→Prop}{H:Aa}{v:Value}{a:NfM}{b:Int}(hS:∀k,S k→k<H.size)(h:NfV S H v a)(hpow:HX Tryz.prog H):
  Al Tryz.prog 38 #[v,.int .i64 b] H fun r H'=>Agr (Old H) H H'∧match FZ a b with
   | .error e=>r= .tuple #[.pointer none,.int .i64 e]
   | .ok F=>∃v,r= .tuple #[v,.int .i64 0]∧KU a F H H' v:=by
 by_cases hb:b<1∨4096<b
 ·rw [O0 hb];exact(J7 h hb).mono fun r H' ⟨h1,h2⟩=>⟨h2,h1⟩
 ·obtain⟨m,rfl⟩:=AaH (show 0≤b by omega);rw [Ri (by omega) (by omega)];refine(Mb hS h hpow (budget:=m) (by omega) (by omega)).mono fun r H' ⟨h1,h2⟩=>⟨h1,?_⟩;have hA:=ZG a (most:=m) (by omega);cases hd:FN m (AR a) (Hs (CY a)) (Ig a)with
  | none=>
    rw [hd]at h2 hA;rw [←hA];exact h2
  | some q=>
    obtain⟨F,rows⟩:=q;rw [hd]at h2 hA;rw [←hA];obtain⟨v',rfl,hv⟩:=h2;obtain⟨k1,k2,k3⟩:=YA (by omega) (by omega) hd;rw [k1,if_pos rfl]at hv;exact⟨v',rfl,_,hv,k2,k3⟩
def Tr(a:NfM)(F:List (List Int))(H H':Aa)(v:Value):Prop:=∃D:DM,HW (D9 H H') H' v D∧D.Ok∧E7 a F (Jq D) (O9 D)∧D.next.length=F.length
theorem TQ{S:Nat→Prop}{H:Aa}{v:Value}{a:NfM}{b:Int}(hS:∀k,S k→k<H.size)(h:NdV S H v a):
  Al Tryz.prog 39 #[v,.int .i64 b] H fun r H'=>Agr (Old H) H H'∧∃l:List Value,l.length=259∧l.all (·.oneCell')=true∧match FZ a b with
   | .error e=>r= .tuple #[.agg l.toArray,.int .i64 e]
   | .ok F=>r= .tuple #[.agg l.toArray,.int .i64 0]∧Tr a F H H' (.agg l.toArray):=by
 by_cases hb:b<1∨4096<b
 ·rw [O0 hb];exact(S5 h hb).mono fun r H' ⟨h1,l,h2,h3,h4⟩=>⟨h1,l,h3,h4,h2⟩
 ·obtain⟨m,rfl⟩:=AaH (show 0≤b by omega);rw [Ri (by omega) (by omega)];refine(Xx hS h (budget:=m) (by omega) (by omega)).mono fun r H' ⟨h1,h2⟩=>⟨h1,?_⟩;have hA:=YF a (most:=m) (by omega);cases hd:FN m (AR a) (Me a) (Ig a)with
  | none=>
    rw [hd]at h2 hA;rw [←hA];obtain⟨l,h3,h4,h5⟩:=h2;exact⟨l,h4,h5,h3⟩
  | some q=>
    obtain⟨F,rows⟩:=q;rw [hd]at h2 hA;rw [←hA];obtain⟨w,rfl,hv⟩:=h2;obtain⟨k1,k2,k3⟩:=YB (by omega) (by omega) hd rfl;have hv0:=hv;obtain⟨hl,ra,rc,na,nc,fa,fc,rfl,-,-,-⟩:=hv0;exact⟨_,Bd hl,CD rfl rfl rfl,rfl,_,hv,k1,k2,k3⟩
theorem Xa{a:NfM}{F:List (List Int)}(hn:F.Nodup){o:AM}{D:DM}(h1:E7 a F (C4 (some o)) (HP (some o)))(h2:E7 a F (Jq D) (O9 D))(n1:stN (some o)=F.length)(n2:D.next.length=F.length)(hfl:D.final.length=D.next.length)(hof:o.final.length=F.length):
  (∀(q:Int) (b:Nat),b<256→C4 (some o) q b=Jq D q b)∧∀q:Int,HP (some o) q=O9 D q:=by
 constructor
 ·intro q b hb;by_cases hq:q<0∨(F.length:Int)≤q
  ·unfold C4 Jq;rw [if_pos (by rw [n1];exact hq),if_pos (by rw [n2];exact hq)]
  ·obtain⟨m,rfl⟩:=AaH (show 0≤q by omega);exact Qi hn h1 h2 m b (by omega) hb
 ·intro q;by_cases hq:q<0∨(F.length:Int)≤q
  ·have e1:(decide (0≤q)&&(o.final[q.toNat]?).getD false)=false:=by
    by_cases h0:0≤q
    ·rw [Aa3 (by omega)];simp
    ·rw [decide_eq_false h0];rfl
   have e2:(decide (0≤q)&&(D.final[q.toNat]?).getD false)=false:=by
    by_cases h0:0≤q
    ·rw [Aa3 (by omega)];simp
    ·rw [decide_eq_false h0];rfl
   show HP (some o) q=(decide (0≤q)&&(D.final[q.toNat]?).getD false);rw [e2];exact e1
  ·obtain⟨m,rfl⟩:=AaH (show 0≤q by omega);exact SD h1 h2 m (by omega)
theorem O2{a:NfM}{m:Nat}{F:List (List Int)}(hm:1≤m)(h:S6 a m=some F):1≤F.length∧F.length≤m∧F.Nodup∧F[0]? =some (Ig a):=TR hm h
theorem UT{a:NfM}{w:List Nat}{i b:Nat}(h:w[i]? =some b):AR a (Q1 a (w.take i)) b=Q1 a (w.take (i+1)):=by
 have e:(fun q=>q∈Q1 a (w.take i))=Ks a (w.take i):=funext fun q=>propext (Pb a _ q);unfold AR;rw [e,←JL,←Ac h];rfl
theorem VV(a:NfM)(w:List Nat):decide (a.fin∈Q1 a w)=Tz a w:=by
 rw [Ac1,decide_eq_true_eq,NX,Pb]
end Go.Proofs.YtfbghcpdinlmcaaGreatDoor
