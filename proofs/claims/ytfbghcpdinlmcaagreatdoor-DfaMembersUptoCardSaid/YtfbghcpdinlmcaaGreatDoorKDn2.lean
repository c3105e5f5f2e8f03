/- Parts of the proof: VMem, PBits, MDfa, VMore, VMapX, PCls, PSetD, VSplit, VMapI, PNfa2, PReM, VIf, PSort, VRange, VPush, PKeyS -/
import Derived.Test.YtfbghcpdinlmcaaGreatDoorKDn1
import Derived.Laws.Pointers
import Derived.MapKept
import Derived.Laws.BytesArg
import Derived.Laws.Cover1
import Derived.DeepKeys3
import Derived.Maps.RangeRun
import Derived.Sort.OwnSortedInts
import Derived.Shelf.Sort.Plain
import Derived.Shelf.Slices.In.SortNone
import Derived.TacticsIn
import Derived.RangeFuncRecord
set_option maxHeartbeats 64000000
open Array renaming getElem?_eq_some_iff → Aa7, length_toList → AaL, getElem?_modify → Ab2, getElem?_setIfInBounds_ne → Ab3, getElem?_push → Ab8, replicate → AbG, getElem?_toList → AbJ, contains_push → AbO, toList_filter → AbP, ext' → Ac4
open BitVec renaming ofInt → AaS, toNat_ofNat → AbB, ofInt_natCast → AbM, toNat_xor → Ac1, toNat_not → Ac2, allOnes → Ac9, twoPow → AcB
open Bool renaming and_eq_true → AaD, or_eq_true → AaN, not_eq_true' → AaX, false_eq_true → AbS
open List renaming getElem?_eq_some_iff → Aa0, getElem?_eq_getElem → Aa1, replicate → Aa2, mem_of_getElem? → Aa3, pairwise_iff_getElem → Aa4, getElem?_set_self → Aa6, getElem?_eq_none → Aa8, mem_singleton → Aa9, getElem?_set_ne → AaB, mem_append → AaC, length_append → AaE, range → AaF, getElem?_of_mem → AaG, eq_nil_of_length_eq_zero → AaH, ext_getElem? → AaI, length_set → AaM, length_cons → AaO, getElem?_take → AaQ, getElem?_replicate → AaT, getElem?_set → AaU, getElem?_map → AaV, filter_congr → AaW, append_nil → Ab4, pairwise_append → Ab5, length_map → Ab6, getElem?_range → Ab7, take_length_add_append → Ab9, length_singleton → AbH, range_add → AbI, mem_range → AbK, mem_cons_of_mem → AbN, mem_filterMap → AbR, filter_append → AbT, mem_cons_self → AbU, append_assoc → AbV, getElem?_inj → AbW, length_take → AbX, getElem_set → AbY, any_eq_true → AbZ, all_eq_true → Ac0, nil_append → Ac3, filter_map → Ac5, mem_filter → Ac6, map_const' → Ac7, take_zero → Ac8, mem_cons → AcA
open Nat renaming zero_add → Aa5, le_refl → AaA, mul_one → AaJ, and_le_right → AaK, mul_le_mul_right → AaP, lt_or_gt_of_ne → AaR, zero_le → AaY, div_div_eq_div_mul → AaZ, reducePow → Ab0, mod_eq_of_lt → Ab1, lt_of_lt_of_le → AbA, reduceMul → AbC, succ_mul → AbD, pow_succ → AbE, min_eq_left → AbF, div_lt_iff_lt_mul → AbL, le_trans → AbQ
set_option linter.unusedVariables false
set_option linter.unusedSimpArgs false
set_option maxRecDepth 100000
namespace Go.VC
def SlO{α:Type}(T:Ty α)(S:Nat→Prop)(H:Aa)(lo:Nat)(e:TypeId)(v:Value)(xs:List α):Prop:=
 ∃cs,Sl H lo e T.size v xs.length cs∧T.reps S H cs xs
section
variable{α:Type}{T:Ty α}{S S':Nat→Prop}{H H':Aa}{lo:Nat}{e:TypeId}{v:Value}{xs:List α}
theorem SlO.nil:SlO T S H lo e (.slice none 0 0) []:=⟨[],Sl.nil _ _ _ _,rfl⟩
theorem SlO.agr(h:SlO T S H lo e v xs)(k:Agr S' H H')(hb:∀b,slB v b→S' b)(hs:∀b,S b→S' b):SlO T S H' lo e v xs:=by
 obtain⟨cs,h1,h2⟩:=h;exact⟨cs,h1.agr k hb,Ty.reps_frame (k.mono hs) h2⟩
theorem SlO.mono(h:SlO T S H lo e v xs)(hs:∀b,S b→S' b):SlO T S' H lo e v xs:=by
 obtain⟨cs,h1,h2⟩:=h;exact⟨cs,h1,Ty.reps_mono hs h2⟩
theorem SlO.lt(h:SlO T S H lo e v xs){b:Nat}(hb:slB v b):lo≤b∧b<H.size:=by
 obtain⟨cs,h1,_⟩:=h;exact h1.lt hb
theorem SlO.lower{lo':Nat}(h:SlO T S H lo e v xs)(hl:lo'≤lo):SlO T S H lo' e v xs:=by
 obtain⟨cs,⟨h0,h1⟩,h2⟩:=h;refine⟨cs,⟨h0,?_⟩,h2⟩;rcases h1 with h1 | ⟨b,cap,l,h3,h4,r⟩
 ·exact .inl h1
 ·exact .inr ⟨b,cap,l,h3,by omega,r⟩
theorem SlO.one(h:SlO T S H lo e v xs):v.oneCell'=true:=by
 obtain⟨cs,⟨h0,h1⟩,h2⟩:=h;rcases h1 with⟨rfl,_⟩ | ⟨b,cap,l,rfl,r⟩<;>rfl
theorem SlO.len(h:SlO T S H lo e v xs):xs.length≤maxLen:=by
 obtain⟨cs,⟨h0,h1⟩,h2⟩:=h;rcases h1 with⟨_,h1⟩ | ⟨b,cap,l,h3,h4,h5,h6,h7,r⟩
 ·omega
 ·omega
theorem SlO.view(h:SlO T S H lo e v xs)(hb:∀b,slB v b→S' b)(hs:∀b,S b→S' b):∃a cap,v= .slice a xs.length cap∧SlD T S' H a cap xs∧(∀b,slB v b↔a.map (·.block)=some b):=by
 obtain⟨cs,⟨h0,h1⟩,h2⟩:=h;rcases h1 with⟨rfl,h1⟩ | ⟨b,cap,l,rfl,h4,h5,h6,h7,h8,h9⟩
 ·refine⟨none,0,by rw [h1],⟨AaH h1,rfl⟩,fun b=>⟨?_,fun h=>by cases h⟩⟩;rintro⟨o,n,c,h⟩;cases h
 ·refine⟨some ⟨b,0,none⟩,cap,rfl,SlD.intro (hb b ⟨_,_,_,rfl⟩) h6 h7 (ec:=cs) ?_ (Ty.reps_mono hs h2),fun b'=>⟨?_,fun h=>?_⟩⟩
  ·refine h5.cells fun j u hu=>?_;rw [←h9,AaQ]at hu;split at hu
   ·simpa using hu
   ·cases hu
  ·rintro⟨o,n,c,h⟩;cases h;rfl
  ·cases h;exact⟨0,_,_,rfl⟩
theorem UV{cs c:List Value}{i:Nat}{x:α}(h:T.reps S H cs xs)(hc:T.rep S H c x)(hi:i<xs.length):T.reps S H (Ae cs (i*T.size) c) (xs.set i x):=by
 induction xs generalizing cs i with
 | nil=>simp at hi
 | cons y ys ih=>
   obtain⟨d,r,rfl,h1,h2⟩:=h;have hl:=T.len h1;have hlc:=T.len hc;cases i with
   | zero=>
     refine⟨c,r,?_,hc,h2⟩;unfold Ae;simp only [Nat.zero_mul,Ac8,Ac3,Aa5];rw [hlc,←hl,List.drop_left]
   | succ i=>
     simp only [AaO]at hi;refine⟨d,Ae r (i*T.size) c,?_,h1,ih h2 (by omega)⟩;have e1:(i+1)*T.size=d.length+i*T.size:=by rw [hl,AbD];omega
     unfold Ae;rw [e1,Ab9,show d.length+i*T.size+c.length=d.length+(i*T.size+c.length) by omega,List.drop_length_add_append];simp [AbV]
theorem SlO.place{i:Nat}(h:SlO T S H lo e v xs)(hi:i<xs.length):∃b cap l cs,v= .slice (some ⟨b,0,none⟩) xs.length cap∧lo≤b∧Blk H b e l∧i*T.size+T.size≤l.length∧
  (∀x,xs[i]? =some x→∃c,Bi H b (i*T.size) c∧T.rep S H c x)∧T.reps S H cs xs∧
  ∀(H':Aa) (c:List Value) (x:α),Blk H' b e (Ae l (i*T.size) c)→Agr S H H'→T.rep S H' c x→SlO T S H' lo e v (xs.set i x):=by
 obtain⟨cs,⟨h0,h1⟩,h2⟩:=h;rcases h1 with⟨rfl,h1⟩ | ⟨b,cap,l,rfl,h4,h5,h6,h7,h8,h9⟩
 ·omega
 ·have hle:i*T.size+T.size≤xs.length*T.size:=by rw [←AbD];exact AaP _ hi
  have hle2:xs.length*T.size≤l.length:=by rw [h8];exact AaP _ h6
  refine⟨b,cap,l,cs,rfl,h4,h5,by omega,?_,h2,?_⟩
  ·intro x hx;obtain⟨l',c,r,rfl,hl',hc⟩:=Ty.reps_get h2 hx;refine⟨c,?_,hc⟩;rw [←hl'];have hcs:Bi H b 0 (l'++c++r):=h5.cells fun j u hu=>by
    rw [←h9,AaQ]at hu;split at hu
    ·simpa using hu
    ·cases hu
   have:=hcs.mid;simpa using this
  intro H' c x hb' hagr hc;have hlc:=T.len hc;refine⟨Ae cs (i*T.size) c,⟨?_,.inr ⟨b,cap,_,by rw [AaM],h4,hb',by rw [AaM];exact h6,h7,?_,?_⟩⟩,UV (Ty.reps_frame hagr h2) hc hi⟩
  ·rw [D1 (by rw [hlc,h0];exact hle),h0,AaM]
  ·rw [D1 (by rw [hlc];omega),h8]
  ·rw [AaM];apply AaI;intro j;rw [AaQ];by_cases hj:j<xs.length*T.size
   ·rw [if_pos hj,Cy (by rw [hlc];omega),Cy (by rw [hlc,h0];exact hle)];split
    ·rfl
    ·rw [←h9,AaQ,if_pos hj]
   ·rw [if_neg hj,Aa8];rw [D1 (by rw [hlc,h0];exact hle),h0];omega
end
theorem BZ{α:Type}{T:Ty α}{P:Program}{t ty e by_:Nat}{z:Value}{S:Nat→Prop}{H:Aa}{K:Value→Aa→Prop}(ht:SlT P t e T.size by_ z){lo q o m cap:Nat}{v:Value}{xs ys:List α}{ds:List Value}
  (hs:SlO T S H lo e v xs) (hlo:lo≤H.size) (hS:∀k,S k→k<H.size∧¬slB v k) (hd:Bi H q o ds) (hy:T.reps S H ds ys) (hm:m=ys.length) (h1:∀u∈ds,u.oneCell'=true)
  (h63:xs.length+ys.length≤maxLen) (hby:(xs.length+ys.length)*by_≤140737488355328)
  (h:∀v' H',SlO T S H' lo e v' (xs++ys)→Agr (fun k=>k<H.size∧¬slB v k) H H'→H.size≤H'.size→(∀k,slB v' k→slB v k∨H.size≤k)→K v' H'):
  By P (Builtin.append_ #[t,t] ty [v,.slice (some ⟨q,o,none⟩) m cap].toArray) H K:=by
 obtain⟨cs,hsl,hr⟩:=hs;subst hm;refine NM (m:=ys.length) (news:=ds) ht hsl hlo (fun w hw=>?_) h63 hby ?_
 ·refine Src.ofSlice w ht.under ⟨q,o,none⟩ ys.length cap ds (Ty.reps_len hy) (fun j u hu=>?_) h1;rw [Addr.add_mid];subst hw;have:=hd j u hu;rw [Gl];exact this
 ·intro v' H' hsl' hagr hsz hbb;refine h v' H' ⟨_,by rw [AaE];exact hsl',Ty.reps_append (Ty.reps_frame (hagr.mono hS) hr) (Ty.reps_frame (hagr.mono hS) hy)⟩ hagr hsz hbb
theorem JE{α:Type}{T:Ty α}{P:Program}{t e by_:Nat}{z:Value}{n cap i:Nat}{k:IntKind}{j:Int}{S S0:Nat→Prop}{H:Aa}{K:Value→Prop}{a:Option Addr}{xs:List α}{x:α}
  (ht:SlT P t e T.size by_ z) (h:SlD T S H a cap xs) (hn:n=xs.length) (hx:xs[i]? =some x) (hj:j=(i:Int))
  (hk:∀b o c,S b→Bi H b o c→T.rep S H c x→K (.pointer (some ⟨b,o,none⟩))):AH P (Instr.indexAt t (.slice a n cap) (.int k j)) S0 H K:=by
 subst hn;exact ixr ht h hx hj hk
theorem ES{α:Type}{T:Ty α}{S:Nat→Prop}{H:Aa}:∀{vs:List Value} {xs:List α},vs.length=xs.length→(∀(i:Nat) (v:Value) (x:α),vs[i]? =some v→xs[i]? =some x→T.rep S H [v] x)→T.reps S H vs xs
 | [],[],_,_=>rfl
 | v::vs,[],h,_=>by simp at h
 | [],x::xs,h,_=>by simp at h
 | v::vs,x::xs,h,k=>⟨[v],vs,rfl,k 0 v x rfl rfl,ES (by simpa using h) fun i v' x' h1 h2=>k (i+1) v' x' (by simpa using h1) (by simpa using h2)⟩
theorem Ja:∀(vs:List Value) (k:Nat) (cells:Array Value) (off:Nat),off+k+vs.length≤cells.size→
  (vs.zipIdx k).foldl (fun cs (x:Value×Nat)=>cs.setIfInBounds (off+x.2) x.1) cells=(Ae cells.toList (off+k) vs).toArray
 | [],k,cells,off,_=>by apply Ac4;simp [Ae]
 | v::vs,k,cells,off,h=>by
   simp only [AaO]at h;rw [List.zipIdx_cons,List.foldl_cons,Ja vs (k+1) _ off (by simp;omega)];apply congrArg;apply AaI;intro j;rw [Cy (by simp;omega),Cy (by simp;omega)];simp only [Array.toList_setIfInBounds,AaO];by_cases h1:off+(k+1)≤j∧j<off+(k+1)+vs.length
   ·rw [if_pos h1,if_pos (by omega),show j - (off+k)=(j - (off+(k+1)))+1 by omega,List.getElem?_cons_succ]
   ·rw [if_neg h1];by_cases h2:j=off+k
    ·subst h2;rw [if_pos (by omega),Nat.sub_self,List.getElem?_cons_zero,Aa6 (by simp;omega)]
    ·rw [if_neg (by omega),AaU,if_neg (fun h3=>h2 h3.symm)]
theorem Bq{place:Nat→Option (Nat×Nat)}{cells:Array Value}{i:Nat}{v:Value}{rest:List (Nat×Value)}{off size:Nat}(hp:place i=some (off,size))(h1:v.cells.size=size)(h2:off+size≤cells.size):
  Instr.fill place cells ((i,v)::rest)=Instr.fill place (Ae cells.toList off v.cells.toList).toArray rest:=by
 have h3:¬(v.cells.size≠size∨off+v.cells.size>cells.size):=by omega
 have h4:=Ja v.cells.toList 0 cells off (by simp;omega);simp only [Nat.add_zero]at h4;rw [Instr.fill,hp];simp only [AaN,decide_eq_true_eq,h3,if_false]
 congr 1
 rw [←h4,←Array.foldl_toList,Array.toList_zipIdx]
theorem A2{P:Program}{t e:TypeId}{sz by_:Nat}{z v:Value}{H:Aa}{K:Value→Aa→Prop}(ht:SlT P t e sz by_ z)(l:List Value)(hv:v.cells=l.toArray)(hl:l.length=sz)(h0:0<sz)(h1:sz≤16777216)
  (h:New H (fun b H'=>K (.slice (some ⟨b,0,none⟩) 1 1) H') e l):By P (Instr.buildSlice t 1 [(0,v)].toArray) H K:=by
 refine Vq ht l (by omega) (by omega) ?_ h;rw [show([(0,v)].toArray).toList=(0,v)::[]from rfl,Bq (off:=0) (size:=sz) (by simp) (by rw [hv];simpa using hl) (by simp)];rw [Instr.fill,hv]
 congr 1
 apply Ac4;simp only [Ae];simp [hl]
structure Tab{α:Type}(T:Ty α)(S:Nat→Prop)(H:Aa)(lo:Nat)(e:TypeId)(nb:Nat)(te:TypeId)(vs:List Value)(xs:List (List α)):Prop where
 len:vs.length=xs.length
 blk:Blk H nb te vs
 nlo:nb<lo
 own:∀(i:Nat) (v:Value) (x:List α),vs[i]? =some v→xs[i]? =some x→SlO T S H lo e v x
 apart:∀(i j:Nat) (v w:Value) (k:Nat),i≠j→vs[i]? =some v→vs[j]? =some w→slB v k→¬slB w k
section
variable{α:Type}{T:Ty α}{S S':Nat→Prop}{H H1 H2:Aa}{lo nb:Nat}{e te:TypeId}{vs:List Value}{xs:List (List α)}
theorem Tab.agr(h:Tab T S H lo e nb te vs xs)(k:Agr S' H H1)(hn:S' nb)(hlo:∀b,lo≤b→b<H.size→S' b)(hs:∀b,S b→S' b):Tab T S H1 lo e nb te vs xs:=
 ⟨h.len,h.blk.agr k hn,h.nlo,fun i v x hv hx=>(h.own i v x hv hx).agr k (fun b hb=>hlo b ((h.own i v x hv hx).lt hb).1 ((h.own i v x hv hx).lt hb).2) hs,h.apart⟩
theorem Tab.new{n:Nat}(hb:Blk H nb te (Aa2 n (.slice none 0 0)))(hlo:nb<lo):Tab T S H lo e nb te (Aa2 n (.slice none 0 0)) (Aa2 n []):=by
 refine⟨by simp,hb,hlo,fun i v x hv hx=>?_,fun i j v w k hij hv hw hk=>?_⟩
 ·rw [AaT]at hv hx;split at hv
  ·rename_i hi;rw [if_pos hi]at hx;cases hv;cases hx;exact SlO.nil
  ·cases hv
 ·rw [AaT]at hv;split at hv
  ·cases hv;obtain⟨o,n,c,h⟩:=hk;cases h
  ·cases hv
theorem Tab.get(h:Tab T S H lo e nb te vs xs){i:Nat}(hi:i<xs.length):∃v x,vs[i]? =some v∧xs[i]? =some x∧SlO T S H lo e v x:=by
 have h1:i<vs.length:=by rw [h.len];exact hi
 exact⟨vs[i],xs[i],Aa1 h1,Aa1 hi,h.own i _ _ (Aa1 h1) (Aa1 hi)⟩
theorem Tab.push(h:Tab T S H lo e nb te vs xs){t:Nat}{v v':Value}{x':List α}(hv:vs[t]? =some v)(hown:SlO T S H1 lo e v' x')(ha:Agr (fun k=>k<H.size∧¬slB v k) H H1)
  (hfresh:∀k,slB v' k→slB v k∨H.size≤k) (hb:Blk H2 nb te (vs.set t v')) (ha2:Agr (fun k=>k≠nb) H1 H2) (hS:∀k,S k→k<H.size∧¬slB v k∧k≠nb):
  Tab T S H2 lo e nb te (vs.set t v') (xs.set t x'):=by
 have ht:t<vs.length:=(Aa0.1 hv).1;refine⟨by simp [h.len],hb,h.nlo,fun i w x hw hx=>?_,fun i j u w k hij hu hw hk hk'=>?_⟩
 ·by_cases hit:i=t
  ·subst hit;rw [Aa6 ht]at hw;rw [Aa6 (by rw [←h.len];exact ht)]at hx;cases hw;cases hx;exact hown.agr ha2 (fun b hb=>by have:=(hown.lt hb).1;have:=h.nlo;omega) (fun b hb=>(hS b hb).2.2)
  ·rw [AaB (Ne.symm hit)]at hw hx;have h1:=h.own i w x hw hx;have h2:SlO T S H1 lo e w x:=h1.agr ha (fun b hb=>⟨(h1.lt hb).2,fun hb'=>h.apart i t w v b hit hw hv hb hb'⟩) (fun b hb=>⟨(hS b hb).1,(hS b hb).2.1⟩);exact h2.agr ha2 (fun b hb=>by have:=(h1.lt hb).1;have:=h.nlo;omega) (fun b hb=>(hS b hb).2.2)
 ·have old:∀(i:Nat) (w:Value),i≠t→(vs.set t v')[i]? =some w→slB w k→¬slB v' k:=by
   intro i w hi hw hk hk';rw [AaB (Ne.symm hi)]at hw;rcases hfresh k hk' with h1 | h1
   ·exact h.apart i t w v k hi hw hv hk h1
   ·have hix:i<xs.length:=by rw [←h.len];exact(Aa0.1 hw).1
    have:=((h.own i w _ hw (Aa1 hix)).lt hk).2;omega
  by_cases hit:i=t
  ·subst hit;rw [Aa6 ht]at hu;cases hu;exact old j w (Ne.symm hij) hw hk' hk
  ·by_cases hjt:j=t
   ·subst hjt;rw [Aa6 ht]at hw;cases hw;exact old i u hit hu hk hk'
   ·rw [AaB (Ne.symm hit)]at hu;rw [AaB (Ne.symm hjt)]at hw;exact h.apart i j u w k hij hu hw hk hk'
end
theorem Tab.view{α:Type}{T:Ty α}{S S':Nat→Prop}{H:Aa}{lo nb n:Nat}{e te:TypeId}{vs:List Value}{xs:List (List α)}(h:Tab T S H lo e nb te vs xs)(hn:n=xs.length)(hm:n≤maxLen)
  (hS:∀k,nb≤k→k<H.size→S' k) (hs:∀k,S k→S' k):SlD (tSl T) S' H (some ⟨nb,0,none⟩) n xs:=by
 subst hn;refine SlD.intro (hS nb (AaA _) h.blk.lt) (AaA _) hm (h.blk.cells (cs:=vs) (fun j v hv=>by simpa using hv)) (ES h.len fun i v x hv hx=>?_);have hd:=h.own i v x hv hx;obtain⟨a0,cap0,rfl,hv0,-⟩:=hd.view (S':=S') (fun k hk=>hS k (by have:=(hd.lt hk).1;have:=h.nlo;omega) (hd.lt hk).2) hs;exact⟨a0,cap0,rfl,hv0⟩
theorem Si{P:Program}{t e sz by_:Nat}{z:Value}{a:Option Addr}{n cap:Nat}{k:IntKind}{h:Int}{S:Nat→Prop}{H:Aa}{K:Value→Prop}(ht:SlT P t e sz by_ z)(h0:0≤h)(h1:h≤cap)
  (hk:K (.slice a h.toNat cap)):AH P (Instr.sliceAt t (.slice a n cap) none (some (.int k h)) none) S H K:=by
 obtain⟨inf,hi,hs,_,_⟩:=ht.info;refine AH.mk _ (fun w _=>?_) hk;have e1:(a.map fun x=>x.add 0)=a:=by cases a<;>rfl
 simp [Instr.sliceAt,Instr.slice,run_underlying ht.under,Instr.sliceBounds,Instr.sliceBound,asIntOf,h0,h1,sizeOf,typeInfo,hi,e1]
theorem SlO.pop{α:Type}{T:Ty α}{S:Nat→Prop}{H:Aa}{lo n cap:Nat}{e:TypeId}{a:Option Addr}{xs:List α}{x:α}(h:SlO T S H lo e (.slice a n cap) (xs++[x])):SlO T S H lo e (.slice a xs.length cap) xs:=by
 obtain⟨cs,⟨h0,h1⟩,h2⟩:=h;have split:∀(xs:List α) (cs:List Value),T.reps S H cs (xs++[x])→T.reps S H (cs.take (xs.length*T.size)) xs:=by
  intro xs
  induction xs with
  | nil=>intro cs _;simp [Ty.reps]
  | cons y ys ih=>
    rintro cs ⟨c,r,rfl,hc,hr⟩;refine⟨c,r.take (ys.length*T.size),?_,hc,ih r hr⟩;have:=T.len hc;rw [AaO,AbD,Nat.add_comm,←this,Ab9]
 rcases h1 with⟨h1,h3⟩ | ⟨b,cap',l,h1,h4,h5,h6,h7,h8,h9⟩
 ·simp at h3
 ·cases h1;simp only [AaE,AbH]at h6 h9 h0;refine⟨cs.take (xs.length*T.size),⟨?_,.inr ⟨b,cap,l,rfl,h4,h5,by omega,h7,h8,?_⟩⟩,split xs cs h2⟩
  ·rw [AbX,h0,AbF (AaP _ (by omega))]
  ·rw [←h9,List.take_take,AbF (AaP _ (by omega))]
def Ty.Ones{α:Type}(T:Ty α):Prop:=∀S H cs x,T.rep S H cs x→∀u∈cs,u.oneCell'=true
theorem Ty.Ones.reps{α:Type}{T:Ty α}(h:T.Ones){S:Nat→Prop}{H:Aa}:∀{cs:List Value} {xs:List α},T.reps S H cs xs→∀u∈cs,u.oneCell'=true:=by
 intro cs xs
 induction xs generalizing cs with
 | nil=>intro hr u hu;simp only [Ty.reps]at hr;subst hr;cases hu
 | cons x xs ih=>
   rintro⟨c,r,rfl,hc,hr⟩ u hu;rcases AaC.1 hu with hu | hu
   ·exact h S H c x hc u hu
   ·exact ih hr u hu
theorem Tk:∀(k:IntKind),(HT k).Ones:=by
 rintro k S H cs x ⟨rfl,_⟩ u hu;cases Aa9.1 hu;rfl
theorem QJ:A1.Ones:=by
 rintro S H cs x rfl u hu;cases Aa9.1 hu;rfl
theorem Pz{α:Type}{T:Ty α}{P:Program}{t ty e by_:Nat}{z:Value}{S:Nat→Prop}{H:Aa}{K:Value→Aa→Prop}(ht:SlT P t e T.size by_ z)(hone:T.Ones){lo cap:Nat}{v:Value}{a:Option Addr}{xs ys:List α}
  (hs:SlO T S H lo e v xs) (hlo:lo≤H.size) (hS:∀k,S k→k<H.size∧¬slB v k) (hy:SlD T S H a cap ys)
  (h63:xs.length+ys.length≤maxLen) (hby:(xs.length+ys.length)*by_≤140737488355328)
  (h:∀v' H',SlO T S H' lo e v' (xs++ys)→Agr (fun k=>k<H.size∧¬slB v k) H H'→H.size≤H'.size→(∀k,slB v' k→slB v k∨H.size≤k)→K v' H'):
  By P (Builtin.append_ #[t,t] ty [v,.slice a ys.length cap].toArray) H K:=by
 cases a with
 | some ad=>
   obtain⟨q,o,sp⟩:=ad;obtain⟨h3,h4,h0 | ⟨rfl,h2,ec,h5,h6⟩⟩:=hy
   ·obtain rfl:ys=[]:=AaH (by omega);obtain⟨cs,hsl,hr⟩:=hs;refine NM (m:=0) (news:=[]) ht hsl hlo (fun w hw=>Src.ofSlice w ht.under _ 0 cap [] (by simp) (fun j u hu=>by simp at hu) (fun u hu=>by cases hu)) (by simpa using h63) (by simpa using hby) ?_;intro v' H' hsl' hagr hsz hbb;refine h v' H' ⟨cs,by simpa using hsl',?_⟩ hagr hsz hbb;rw [Ab4];exact Ty.reps_frame (hagr.mono hS) hr
   exact BZ ht hs hlo hS h5 h6 rfl (hone.reps h6) h63 hby h
 | none=>
   obtain⟨rfl,rfl⟩:=hy;obtain⟨cs,hsl,hr⟩:=hs;refine NM (m:=0) (news:=[]) ht hsl hlo (fun w hw=>Src.ofNil w ht.under 0) (by simpa using h63) (by simpa using hby) ?_;intro v' H' hsl' hagr hsz hbb;refine h v' H' ⟨cs,by simpa using hsl',?_⟩ hagr hsz hbb;rw [Ab4];exact Ty.reps_frame (hagr.mono hS) hr
def Ty.Free{α:Type}(T:Ty α):Prop:=∀S S' H H' cs x,T.rep S H cs x→T.rep S' H' cs x
theorem Tj(k:IntKind):(HT k).Free:=fun S S' H H' cs x h=>h
theorem QI:A1.Free:=fun S S' H H' cs x h=>h
theorem Ty.Free.reps{α:Type}{T:Ty α}(h:T.Free){S S':Nat→Prop}{H H':Aa}:∀{cs:List Value} {xs:List α},T.reps S H cs xs→T.reps S' H' cs xs:=by
 intro cs xs
 induction xs generalizing cs with
 | nil=>exact fun hr=>hr
 | cons x xs ih=>
   rintro⟨c,r,e,hc,hr⟩;exact⟨c,r,e,h S S' H H' c x hc,ih hr⟩
theorem SlO.free{α:Type}{T:Ty α}(hf:T.Free){S S':Nat→Prop}{H:Aa}{lo:Nat}{e:TypeId}{v:Value}{xs:List α}(h:SlO T S H lo e v xs):SlO T S' H lo e v xs:=by
 obtain⟨cs,h1,h2⟩:=h;exact⟨cs,h1,hf.reps h2⟩
section
variable{P:Program}{t e:TypeId}{x y:Operand}{S:Nat→Prop}{H:Aa}{K:Value→Prop}{p:Option Addr}
theorem Kh(h:P.underlying t=some (.pointer e))(p:Option Addr)(w:World):(Op.equal t (.pointer p) (.pointer none)).run P w= .ok p.isNone w:=by
 have:∀d:Nat,(Op.equalIn (d+1) t (.pointer p) (.pointer none)).run P w= .ok p.isNone w:=fun d=>by
  cases p<;>simp [Op.equalIn,run_underlying h]
 exact this 9999
theorem peq(h:P.underlying t=some (.pointer e))(k:K (.bool p.isNone)):AH P (do eqGuard .eql t x y (.pointer p) (.pointer none);binOp .eql t (.pointer p) (.pointer none)) S H K:=by
 refine AH.mk _ (fun w _=>?_) k;simp [eqGuard,binOp,Kh h]
theorem Zb(h:P.underlying t=some (.pointer e))(k:K (.bool (!p.isNone))):AH P (do eqGuard .neq t x y (.pointer p) (.pointer none);binOp .neq t (.pointer p) (.pointer none)) S H K:=by
 refine AH.mk _ (fun w _=>?_) k;simp [eqGuard,binOp,Kh h]
theorem Wx(h:P.underlying t=some (.pointer e))(k:K (.bool true)):AH P (do eqGuard .eql t x y (.pointer none) (.pointer none);binOp .eql t (.pointer none) (.pointer none)) S H K:=peq h k
theorem XR{a:Addr}(h:P.underlying t=some (.pointer e))(k:K (.bool false)):AH P (do eqGuard .eql t x y (.pointer (some a)) (.pointer none);binOp .eql t (.pointer (some a)) (.pointer none)) S H K:=peq h k
theorem Zc(h:P.underlying t=some (.pointer e))(k:K (.bool false)):AH P (do eqGuard .neq t x y (.pointer none) (.pointer none);binOp .neq t (.pointer none) (.pointer none)) S H K:=Zb h k
theorem RP{a:Addr}(h:P.underlying t=some (.pointer e))(k:K (.bool true)):AH P (do eqGuard .neq t x y (.pointer (some a)) (.pointer none);binOp .neq t (.pointer (some a)) (.pointer none)) S H K:=Zb h k
theorem Kg(h:P.underlying t=some .bool)(a b:Bool)(w:World):(Op.equal t (.bool a) (.bool b)).run P w= .ok (a==b) w:=by
 have:∀d:Nat,(Op.equalIn (d+1) t (.bool a) (.bool b)).run P w= .ok (a==b) w:=fun d=>by simp [Op.equalIn,run_underlying h]
 exact this 9999
theorem WZ{a b:Bool}(h:P.underlying t=some .bool)(k:K (.bool (a==b))):AH P (do eqGuard .eql t x y (.bool a) (.bool b);binOp .eql t (.bool a) (.bool b)) S H K:=by
 refine AH.mk _ (fun w _=>?_) k;simp [eqGuard,binOp,Kg h]
theorem Lf{a b:Bool}(h:P.underlying t=some .bool)(k:K (.bool (!(a==b)))):AH P (do eqGuard .neq t x y (.bool a) (.bool b);binOp .neq t (.bool a) (.bool b)) S H K:=by
 refine AH.mk _ (fun w _=>?_) k;simp [eqGuard,binOp,Kg h]
end
theorem Dg{P:Program}{t:TypeId}{S:Nat→Prop}{H:Aa}{K:Value→Prop}{s:ByteArray}{k:IntKind}{i:Nat}{j:Int}{b:UInt8}(h:P.underlying t=some .string)(hj:j=(i:Int))(hb:s.data[i]? =some b)
  (hk:K (.int .u8 (b.toNat:Int))):AH P (Instr.index t (.string s) (.int k j)) S H K:=by
 subst hj;have hb':s[i]? =some b:=by
  obtain⟨h1,h2⟩:=Aa7.1 hb;have h3:i<s.size:=h1;rw [getElem?_pos s i h3];exact congrArg some h2
 refine AH.mk _ (fun w _=>?_) hk;simp [Instr.index,asIntOf,run_underlying h,hb']
section
variable{P:Program}{t e:TypeId}{x y:Operand}{S:Nat→Prop}{H:Aa}
theorem SlO.ofBlk{α:Type}{T:Ty α}{lo b n:Nat}{l:List Value}{xs:List α}(hlo:lo≤b)(hb:Blk H b e l)(hr:T.reps S H l xs)(hn:n=xs.length)(hm:n≤maxLen):SlO T S H lo e (.slice (some ⟨b,0,none⟩) n n) xs:=by
 subst hn;have hl:=Ty.reps_len hr;refine⟨l,?_,hr⟩;have:=Sl.made (sz:=T.size) (n:=xs.length) (cap:=xs.length) hlo hb (AaA _) hm hl;rwa [←hl,List.take_length]at this
theorem DT{α:Type}{T:Ty α}{c:List Value}{v:α}(h:T.rep S H c v):∀n,T.reps S H (Aa2 n c).flatten (Aa2 n v)
 | 0=>rfl
 | n+1=>⟨c,_,rfl,h,DT h n⟩
theorem SH(z:Array Value)(n:Nat):(AaF (n*z.size)).map (z[· % z.size]!)=(Aa2 n z.toList).flatten:=by
 induction n with
 | zero=>simp
 | succ n ih=>
   rw [AbD,AbI,List.map_append,ih,List.replicate_succ',List.flatten_append]
   congr 1
   simp only [List.flatten_cons,List.flatten_nil,Ab4,List.map_map];apply AaI;intro i;by_cases hi:i<z.size
   ·rw [AaV,Ab7 hi];simp only [Option.map_some,Function.comp,AbJ];have:(n*z.size+i) % z.size=i:=by rw [Nat.mul_comm,Nat.mul_add_mod];exact Ab1 hi
    rw [this,getElem!_pos z i hi,getElem?_pos z i hi]
   ·rw [Aa8 (by simp;omega),Aa8 (by simp;omega)]
theorem Vu{α:Type}{T:Ty α}{by_:Nat}{z:Value}{kl kc:IntKind}{l c:Int}{v:α}{K:Value→Aa→Prop}(ht:SlT P t e T.size by_ z)(hv:T.rep S H z.cells.toList v)(h0:0≤l)(hlc:l=c)(hb:(by_:Int)*c≤281474976710656)(h63:c≤9223372036854775807)
  (h:New H (fun b H'=>K (.slice (some ⟨b,0,none⟩) c.toNat c.toNat) H') e (Aa2 c.toNat z.cells.toList).flatten):By P (Instr.makeSlice t (.int kl l) (.int kc c)) H K:=by
 subst hlc;refine Vt ht h0 (Int.le_refl _) hb h63 ?_;rw [←ht.zsz,SH];exact h
theorem SlO.made{α:Type}{T:Ty α}{lo b n:Nat}{c:List Value}{v:α}(hlo:lo≤b)(hb:Blk H b e (Aa2 n c).flatten)(hv:T.rep S H c v)(hm:n≤maxLen):SlO T S H lo e (.slice (some ⟨b,0,none⟩) n n) (Aa2 n v):=
 SlO.ofBlk hlo hb (DT hv n) (by simp) hm
theorem SlO.placeS{α:Type}{T:Ty α}{lo b o n cap i:Nat}{xs:List α}(h:SlO T S H lo e (.slice (some ⟨b,o,none⟩) n cap) xs)(hi:i<xs.length):n=xs.length∧o=0∧lo≤b∧∃l,Blk H b e l∧i*T.size+T.size≤l.length∧
  (∀x,xs[i]? =some x→∃c,Bi H b (i*T.size) c∧T.rep S H c x)∧
  ∀(H':Aa) (c:List Value) (x:α),Blk H' b e (Ae l (i*T.size) c)→Agr S H H'→T.rep S H' c x→SlO T S H' lo e (.slice (some ⟨b,o,none⟩) n cap) (xs.set i x):=by
 obtain⟨b',cap',l,cs,e1,h1,h2,h3,h4,h5,h6⟩:=h.place hi;have e2:=e1;injection e1 with e3 e4 e5
 injection e3 with e3
 injection e3 with e6 e7 e8
 subst e6;subst e7;subst e4;subst e5;exact⟨rfl,rfl,h1,l,h2,h3,h4,h6⟩
theorem vquo{k:IntKind}{a b:Nat}{K:Value→Prop}(hb:0<b)(ha:inK k (a:Int))(hk:K (.int k ((a / b:Nat):Int))):AH P (do eqGuard .quo t x y (.int k a) (.int k b);binOp .quo t (.int k a) (.int k b)) S H K:=by
 refine AH.mk _ (fun w _=>?_) hk;have h0:¬((b:Int)=0):=by omega
 have e1:((a:Int).tdiv (b:Int))=((a / b:Nat):Int):=by rw [Int.tdiv_eq_ediv_of_nonneg (by omega)];rfl
 have hin:=FH (Qf ha (Nat.div_le_self a b));simp only [BV,binOp,Op.intDiv,Sem.run_bind,Result.andThen_ok,h0,if_false,e1,hin,Sem.run_pure,ne_eq,not_true_eq_false]
theorem WO{k:IntKind}{a b:Nat}{K:Value→Prop}(hb:0<b)(hk:K (.int k ((a % b:Nat):Int))):AH P (do eqGuard .rem t x y (.int k a) (.int k b);binOp .rem t (.int k a) (.int k b)) S H K:=by
 refine AH.mk _ (fun w _=>?_) hk;have h0:¬((b:Int)=0):=by omega
 have e1:((a:Int).tmod (b:Int))=((a % b:Nat):Int):=by rw [Int.tmod_eq_emod_of_nonneg (by omega)];rfl
 simp only [BV,binOp,Op.intDiv,Sem.run_bind,Result.andThen_ok,h0,if_false,e1,Sem.run_pure,ne_eq,not_true_eq_false]
theorem Ar.cut{l:List Oper}{fr:Fr}{K:Fr→Aa→Prop}{α:Type}(ts:List Nat)(enc:α→List Value)(I:α→Aa→Prop)
  (h:Ar P l fr H (fun fr' H'=>HV (MH l []) fr fr' (NA fr' ts fun vs=>∃y,vs=enc y∧I y H')))
  (k:∀(z:α) (H1:Aa) (junk:Nat→Value),I z H1→Gu junk fr (MH l []) fun fr0=>QN fr0 ts (enc z) fun fr1=>K fr1 H1):Ar P l fr H K:=by
 generalize MH l []=ws at h k;have h:=h.out_;refine⟨?_⟩;intro id Q a w hat hw hp hq;refine h id Q a w hat hw hp fun fr' a' w' hat' henv h3=>hq fr' a' w' hat' henv ?_;simp only [HV,CE,FB]at h3;obtain⟨hk,z,hz,hi⟩:=h3;have h:=k z w'.heap (rd fr') hi;rw [CE,HN,De hk,←hz,Gi ts fr']at h;exact h
end
theorem Uf{α:Type}{l:List α}{k:Nat}{x z:α}(h:l[k]? =some x):(l.take k++Aa2 (l.length - k) z).set k x=l.take (k+1)++Aa2 (l.length - (k+1)) z:=by
 have hk:=(Aa0.1 h).1;have hx:=(Aa0.1 h).2;rw [List.set_append_right _ _ (by simp;omega),AbX,AbF (by omega),Nat.sub_self,show l.length - k=(l.length - (k+1))+1 by omega,List.replicate_succ,List.set_cons_zero,List.take_succ_eq_append_getElem hk,hx,AbV];rfl
theorem Ue{α:Type}{l:List α}{k:Nat}{z:α}(h:k≤l.length):(l.take k++Aa2 (l.length - k) z).length=l.length:=by simp;omega
theorem Ud{α:Type}{l:List α}{z:α}:l.take l.length++Aa2 (l.length - l.length) z=l:=by simp
theorem Uc{α:Type}{l:List α}{z:α}:l.take 0++Aa2 (l.length - 0) z=Aa2 l.length z:=by simp
theorem QD{l:List Value}{o:Nat}{v:Value}(h:o<l.length):Ae l o [v]=l.set o v:=by
 apply AaI;intro j;rw [Cy (by simp;omega),AaU];simp only [AbH];by_cases hj:o=j
 ·subst hj;simp [h]
 ·rw [if_neg (by omega),if_neg hj]
theorem Sh{P:Program}{t e:TypeId}{sz by_:Nat}{z v1 v2:Value}{H:Aa}{K:Value→Aa→Prop}(ht:SlT P t e sz by_ z)(l1 l2:List Value)(hv1:v1.cells=l1.toArray)(hv2:v2.cells=l2.toArray)(hl1:l1.length=sz)(hl2:l2.length=sz)(h0:0<sz)(h1:2*sz≤16777216)
  (h:New H (fun b H'=>K (.slice (some ⟨b,0,none⟩) 2 2) H') e (l1++l2)):By P (Instr.buildSlice t 2 [(0,v1),(1,v2)].toArray) H K:=by
 refine Vq ht (l1++l2) (by omega) (by omega) ?_ h;rw [show([(0,v1),(1,v2)].toArray).toList=(0,v1)::(1,v2)::[]from rfl,Bq (off:=0) (size:=sz) (by simp) (by rw [hv1];simpa using hl1) (by simp;omega),
  Bq (off:=sz) (size:=sz) (by simp) (by rw [hv2];simpa using hl2) (by simp [Ae,hv1];omega)]
 rw [Instr.fill,hv1,hv2]
 congr 1
 apply Ac4;simp [Ae,hl1,hl2];omega
structure Pc where
 foot:Nat→Prop
 ok:Aa→Prop
 fr:∀{H H':Aa},Agr foot H H'→ok H→ok H'
def Dis(p q:Pc):Prop:=∀k,p.foot k→¬q.foot k
structure StB(B:Nat→Prop)(H0 H:Aa)(ps:List Pc):Prop where
 old:Agr B H0 H
 lt0:∀k,B k→k<H0.size
 size:H0.size≤H.size
 oks:∀p∈ps,p.ok H
 rng:∀p∈ps,∀k,p.foot k→¬B k∧k<H.size
 dis:ps.Pairwise Dis
abbrev St(H0 H:Aa)(ps:List Pc):Prop:=StB (Old H0) H0 H ps
section
variable{B:Nat→Prop}{H0 H H':Aa}{ps:List Pc}{p q:Pc}
theorem St.nil(H:Aa):St H H []:=⟨Agr.refl _ _,fun _ h=>h,AaA _,(fun _ h=>by cases h),(fun _ h=>by cases h),List.Pairwise.nil⟩
theorem StB.up(st:StB B H0 H ps){k:Nat}(hk:B k):k<H.size:=AbA (st.lt0 k hk) st.size
theorem StB.call(st:StB B H0 H ps)(h:Agr (Old H) H H'):StB B H0 H' ps:=
 ⟨st.old.trans (h.mono fun k hk=>st.up hk),st.lt0,AbQ st.size (Bx h),fun p hp=>p.fr (h.mono fun k hk=>(st.rng p hp k hk).2) (st.oks p hp),
  fun p hp k hk=>⟨(st.rng p hp k hk).1,As h (st.rng p hp k hk).2⟩,st.dis⟩
theorem StB.at_(st:StB B H0 H ps)(i:Nat)(hp:ps[i]? =some p):p.ok H:=st.oks p (Aa3 hp)
theorem StB.in_(st:StB B H0 H ps)(i:Nat)(hp:ps[i]? =some p){k:Nat}(hk:p.foot k):¬B k∧k<H.size:=st.rng p (Aa3 hp) k hk
theorem StB.add(st:StB B H0 H ps)(h:Agr (Old H) H H')(p:Pc)(hp:p.ok H')(hf:∀k,p.foot k→H.size≤k∧k<H'.size):StB B H0 H' (ps++[p]):=by
 have st':=st.call h;refine⟨st'.old,st.lt0,st'.size,fun q hq=>?_,fun q hq k hk=>?_,Ab5.2 ⟨st.dis,List.pairwise_singleton _ _,fun a ha b hb=>?_⟩⟩
 ·rcases AaC.1 hq with hq | hq
  ·exact st'.oks q hq
  ·rw [Aa9]at hq;subst hq;exact hp
 ·rcases AaC.1 hq with hq | hq
  ·exact st'.rng q hq k hk
  ·rw [Aa9]at hq;subst hq;exact⟨fun hB=>by have:=st.up hB;have:=hf k hk;omega,(hf k hk).2⟩
 ·rw [Aa9]at hb;subst hb;intro k hk hk';have:=(st.rng a ha k hk).2;have:=(hf k hk').1;omega
theorem StB.upd(st:StB B H0 H ps)(i:Nat)(hp:ps[i]? =some p)(h:Agr (fun k=>k<H.size∧¬p.foot k) H H')(q:Pc)(hq:q.ok H')(hf:∀k,q.foot k→p.foot k∨H.size≤k)(hl:∀k,q.foot k→k<H'.size)(hs:H.size≤H'.size):StB B H0 H' (ps.set i q):=by
 have hi:=(Aa0.1 hp).1;have hpi:=Aa3 hp;have key:∀(j:Nat) (r:Pc),ps[j]? =some r→j≠i→Dis r p:=by
  intro j r hr hj k hk hk';have hjl:=(Aa0.1 hr).1;have e1:=(Aa0.1 hr).2;have e2:=(Aa0.1 hp).2;rcases AaR hj with hji | hji
  ·exact Aa4.1 st.dis j i hjl hi hji k (by rw [e1];exact hk) (by rw [e2];exact hk')
  ·exact Aa4.1 st.dis i j hi hjl hji k (by rw [e2];exact hk') (by rw [e1];exact hk)
 have mem:∀r,r∈ps.set i q→r=q∨∃j,j≠i∧ps[j]? =some r:=by
  intro r hr;obtain⟨j,hj⟩:=AaG hr;by_cases hji:i=j
  ·subst hji;rw [Aa6 hi]at hj;cases hj;exact .inl rfl
  ·rw [AaB hji]at hj;exact .inr ⟨j,Ne.symm hji,hj⟩
 refine⟨st.old.trans (h.mono fun k hk=>⟨st.up hk,fun hb=>(st.rng p hpi k hb).1 hk⟩),st.lt0,AbQ st.size hs,fun r hr=>?_,fun r hr k hk=>?_,?_⟩
 ·rcases mem r hr with rfl | ⟨j,hj,hr⟩
  ·exact hq
  ·exact r.fr (h.mono fun k hk=>⟨(st.rng r (Aa3 hr) k hk).2,fun hb=>key j r hr hj k hk hb⟩) (st.oks r (Aa3 hr))
 ·rcases mem r hr with rfl | ⟨j,hj,hr⟩
  ·refine⟨?_,hl k hk⟩;rcases hf k hk with h1 | h1
   ·exact(st.rng p hpi k h1).1
   ·exact fun hB=>by have:=st.up hB;omega
  ·have:=st.rng r (Aa3 hr) k hk;exact⟨this.1,by omega⟩
 ·have old:∀(j:Nat) (r:Pc),ps[j]? =some r→j≠i→Dis r q:=by
   intro j r hr hj k hk hk';rcases hf k hk' with h1 | h1
   ·exact key j r hr hj k hk h1
   ·have:=(st.rng r (Aa3 hr) k hk).2;omega
  rw [Aa4];intro a b ha hb hab;simp only [AaM]at ha hb;rw [AbY,AbY];by_cases h1:i=a
  ·subst h1;rw [if_pos rfl,if_neg (by omega)];exact fun k hk hk'=>old b _ (Aa1 hb) (by omega) k hk' hk
  ·rw [if_neg h1];by_cases h2:i=b
   ·subst h2;rw [if_pos rfl];exact old a _ (Aa1 ha) (by omega)
   ·rw [if_neg h2];exact Aa4.1 st.dis a b ha hb hab
theorem StB.pick(st:StB B H0 H ps)(is:List Nat)(hn:is.Nodup):StB B H0 H (is.filterMap fun i=>ps[i]?):=by
 have hm:∀r,r∈is.filterMap (fun i=>ps[i]?)→r∈ps:=fun r hr=>by
  obtain⟨i,_,hi⟩:=AbR.1 hr;exact Aa3 hi
 refine⟨st.old,st.lt0,st.size,fun r hr=>st.oks r (hm r hr),fun r hr=>st.rng r (hm r hr),?_⟩;rw [List.pairwise_filterMap];refine hn.imp ?_;intro i j hij a ha b hb k hk hk';have hil:=(Aa0.1 ha).1;have hjl:=(Aa0.1 hb).1;have e1:=(Aa0.1 ha).2;have e2:=(Aa0.1 hb).2;rcases AaR hij with h | h
 ·exact Aa4.1 st.dis i j hil hjl h k (by rw [e1];exact hk) (by rw [e2];exact hk')
 ·exact Aa4.1 st.dis j i hjl hil h k (by rw [e2];exact hk') (by rw [e1];exact hk)
theorem StB.say(st:StB B H0 H ps)(i:Nat)(hp:ps[i]? =some p)(q:Pc)(hq:q.ok H)(hf:∀k,q.foot k→p.foot k):StB B H0 H (ps.set i q):=
 st.upd i hp (Agr.refl _ _) q hq (fun k hk=>.inl (hf k hk)) (fun k hk=>(st.in_ i hp (hf k hk)).2) (AaA _)
theorem St.ge(st:St H0 H ps)(i:Nat)(hp:ps[i]? =some p){k:Nat}(hk:p.foot k):H0.size≤k:=by
 have:=(st.in_ i hp hk).1;unfold Old at this;omega
def pJ(p q:Pc):Pc:=⟨fun k=>p.foot k∨q.foot k,fun H=>p.ok H∧q.ok H,fun h hp=>⟨p.fr (h.mono fun _ hk=>.inl hk) hp.1,q.fr (h.mono fun _ hk=>.inr hk) hp.2⟩⟩
theorem StB.join(st:StB B H0 H ps)(i j:Nat)(hp:ps[i]? =some p)(hq:ps[j]? =some q)(hij:i<j):StB B H0 H ((ps.eraseIdx j).set i (pJ p q)):=by
 have hil:=(Aa0.1 hp).1;have hjl:=(Aa0.1 hq).1;have hmp:=Aa3 hp;have hmq:=Aa3 hq;have from_:∀(a:Nat) (r:Pc),((ps.eraseIdx j).set i (pJ p q))[a]? =some r→(a=i∧r=pJ p q)∨(a≠i∧∃b,b≠i∧b≠j∧ps[b]? =some r∧b=if a<j then a else a+1):=by
  intro a r hr;by_cases ha:i=a
  ·subst ha;rw [Aa6 (by rw [List.length_eraseIdx];split<;>omega)]at hr;cases hr;exact .inl ⟨rfl,rfl⟩
  ·rw [AaB ha,List.getElem?_eraseIdx]at hr;refine .inr ⟨Ne.symm ha,if a<j then a else a+1,?_,?_,?_,rfl⟩
   ·split<;>omega
   ·split<;>omega
   ·split at hr
    ·rename_i h;rw [if_pos h];exact hr
    ·rename_i h;rw [if_neg h];exact hr
 have dis:∀(a b:Nat) (r s:Pc),a≠b→ps[a]? =some r→ps[b]? =some s→Dis r s:=by
  intro a b r s hab hr hs k hk hk';have hal:=(Aa0.1 hr).1;have hbl:=(Aa0.1 hs).1;have e1:=(Aa0.1 hr).2;have e2:=(Aa0.1 hs).2;rcases AaR hab with h | h
  ·exact Aa4.1 st.dis a b hal hbl h k (by rw [e1];exact hk) (by rw [e2];exact hk')
  ·exact Aa4.1 st.dis b a hbl hal h k (by rw [e2];exact hk') (by rw [e1];exact hk)
 refine⟨st.old,st.lt0,st.size,fun r hr=>?_,fun r hr k hk=>?_,?_⟩
 ·obtain⟨a,ha⟩:=AaG hr;rcases from_ a r ha with⟨_,rfl⟩ | ⟨_,b,_,_,hb,_⟩
  ·exact⟨st.oks p hmp,st.oks q hmq⟩
  ·exact st.oks r (Aa3 hb)
 ·obtain⟨a,ha⟩:=AaG hr;rcases from_ a r ha with⟨_,rfl⟩ | ⟨_,b,_,_,hb,_⟩
  ·rcases hk with hk | hk
   ·exact st.rng p hmp k hk
   ·exact st.rng q hmq k hk
  ·exact st.rng r (Aa3 hb) k hk
 ·rw [Aa4];intro a b ha hb hab k hk hk';have ga:=Aa1 ha;have gb:=Aa1 hb;rcases from_ a _ ga with⟨h1,h2⟩ | ⟨h1,a',h3,h4,h5,h6⟩<;>rcases from_ b _ gb with⟨h1',h2'⟩ | ⟨h1',b',h3',h4',h5',h6'⟩
  ·omega
  ·rw [h2]at hk;rcases hk with hk | hk
   ·exact dis i b' p _ (Ne.symm h3') hp h5' k hk hk'
   ·exact dis j b' q _ (Ne.symm h4') hq h5' k hk hk'
  ·rw [h2']at hk';rcases hk' with hk' | hk'
   ·exact dis a' i _ p h3 h5 hp k hk hk'
   ·exact dis a' j _ q h4 h5 hq k hk hk'
  ·refine dis a' b' _ _ ?_ h5 h5' k hk hk';rw [h6,h6'];split<;>split<;>omega
end
def pB(e:TypeId)(b:Nat)(l:List Value):Pc:=⟨fun k=>k=b,fun H=>Blk H b e l,fun h hp=>hp.agr h rfl⟩
section
variable{B:Nat→Prop}{H0 H H':Aa}{ps:List Pc}{e:TypeId}{b:Nat}{l:List Value}
theorem StB.box(st:StB B H0 H ps)(hb:b=H.size)(hs:H'.size=b+1)(hk:Blk H' b e l)(ha:Agr (fun k=>k<b) H H'):StB B H0 H' (ps++[pB e b l]):=by
 subst hb;exact st.add (ha.mono fun k hk=>hk) _ hk fun k hk=>by have:k=H.size:=hk;omega
theorem StB.skip(st:StB B H0 H ps)(hb:b=H.size)(ha:Agr (fun k=>k<b) H H'):StB B H0 H' ps:=by
 subst hb;exact st.call (ha.mono fun k hk=>hk)
theorem StB.blk(st:StB B H0 H ps)(i:Nat)(hp:ps[i]? =some (pB e b l)):Blk H b e l:=st.at_ i hp
theorem AT{P:Program}{t o:Nat}{v:Value}{K:Aa→Prop}(st:StB B H0 H ps)(i:Nat)(ht:BG P t)(hp:ps[i]? =some (pB e b l))(ho:o<l.length)(hv:v.oneCell'=true)
  (k:∀H',StB B H0 H' (ps.set i (pB e b (l.set o v)))→K H'):C0 P (Instr.storeAt t (.pointer (some ⟨b,o,none⟩)) v) H K:=by
 refine VC.st1 ht (st.at_ i hp) ho hv ?_;intro H' hb' ha' hs';exact k H' (st.upd i hp (ha'.mono fun k hk hkb=>hk.2 hkb) _ hb' (fun k hk=>.inl hk) (fun k hk=>by rw [hs'];exact(st.in_ i hp hk).2) (by omega))
theorem AI{P:Program}{t o:Nat}{cs:List Value}{K:Aa→Prop}(st:StB B H0 H ps)(i:Nat)(ht:(P.info? t).map (·.size)=some cs.length)(hp:ps[i]? =some (pB e b l))(ho:o+cs.length≤l.length)(hv:cs.all (·.oneCell')=true)
  (k:∀H',StB B H0 H' (ps.set i (pB e b (Ae l o cs)))→K H'):C0 P (Instr.storeAt t (.pointer (some ⟨b,o,none⟩)) (.agg cs.toArray)) H K:=by
 refine VC.stN ht (st.at_ i hp) ho hv ?_;intro H' hb' ha' hs';exact k H' (st.upd i hp (ha'.mono fun k hk hkb=>hk.2 hkb) _ hb' (fun k hk=>.inl hk) (fun k hk=>by rw [hs'];exact(st.in_ i hp hk).2) (by omega))
end
section
variable{α:Type}
def pN(T:Ty α)(S:Nat→Prop)(e:TypeId)(a:Option Addr)(n cap:Nat)(xs:List α):Pc where
 foot k:=slB (.slice a n cap) k∨S k
 ok H:=SlO T S H 0 e (.slice a n cap) xs∧∀k,S k→¬slB (.slice a n cap) k
 fr h hp:=⟨hp.1.agr h (fun _ hb=>.inl hb) (fun _ hb=>.inr hb),hp.2⟩
def none_(_:Nat):Prop:=False
abbrev pS(T:Ty α)(e:TypeId)(a:Option Addr)(n cap:Nat)(xs:List α):Pc:=pN T none_ e a n cap xs
variable{T:Ty α}{S:Nat→Prop}{e:TypeId}{a:Option Addr}{n cap:Nat}{xs:List α}{B:Nat→Prop}{H0 H H':Aa}{ps:List Pc}
theorem SlO.hull{lo:Nat}{v:Value}(h:SlO T S H lo e v xs):∃a cap,v= .slice a xs.length cap:=by
 obtain⟨cs,⟨h0,h1⟩,h2⟩:=h;rcases h1 with⟨rfl,h1⟩ | ⟨b,cap,l,rfl,h4,h5,h6,h7,h8,h9⟩
 ·exact⟨none,0,by rw [h1]⟩
 ·exact⟨_,_,rfl⟩
theorem SlO.nlen{lo:Nat}(h:SlO T S H lo e (.slice a n cap) xs):n=xs.length:=by
 obtain⟨a',cap',e⟩:=h.hull;injection e
theorem SlO.up{lo:Nat}{v:Value}(h:SlO T S H 0 e v xs)(hl:∀b,slB v b→lo≤b):SlO T S H lo e v xs:=by
 obtain⟨cs,⟨h0,h1⟩,h2⟩:=h;refine⟨cs,⟨h0,?_⟩,h2⟩;rcases h1 with h1 | ⟨b,cap,l,rfl,r⟩
 ·exact .inl h1
 ·exact .inr ⟨b,cap,l,rfl,hl b ⟨_,_,_,rfl⟩,r.2⟩
theorem St.own(st:St H0 H ps)(i:Nat)(hp:ps[i]? =some (pN T S e a n cap xs)):SlO T S H H0.size e (.slice a n cap) xs:=
 (st.at_ i hp).1.up fun b hb=>st.ge i hp (.inl hb)
theorem StB.len(st:StB B H0 H ps)(i:Nat)(hp:ps[i]? =some (pN T S e a n cap xs)):n=xs.length:=(st.at_ i hp).1.nlen
theorem StB.max(st:StB B H0 H ps)(i:Nat)(hp:ps[i]? =some (pN T S e a n cap xs)):xs.length≤maxLen:=(st.at_ i hp).1.len
theorem StB.adr(st:StB B H0 H ps)(i:Nat)(hp:ps[i]? =some (pN T S e a n cap xs))(hn:0<xs.length):∃b,a=some ⟨b,0,none⟩:=by
 obtain⟨cs,⟨h0,h1⟩,h2⟩:=(st.at_ i hp).1;rcases h1 with⟨h1,h3⟩ | ⟨b,cap,l,h1,r⟩
 ·omega
 ·injection h1 with h1
  exact⟨b,h1⟩
theorem StB.view(st:StB B H0 H ps)(i:Nat)(hp:ps[i]? =some (pN T S e a n cap xs)):SlD T (Old H) H a cap xs:=by
 obtain⟨a',cap',e1,h,-⟩:=(st.at_ i hp).1.view (S':=Old H) (fun b hb=>(st.in_ i hp (.inl hb)).2) (fun b hb=>(st.in_ i hp (.inr hb)).2);injection e1 with e1 e2 e3
 subst e1;subst e3;exact h
theorem St.viewF(st:St H0 H ps)(i:Nat)(hp:ps[i]? =some (pN T S e a n cap xs)):SlD T (fun k=>H0.size≤k∧k<H.size) H a cap xs:=by
 obtain⟨a',cap',e1,h,-⟩:=(st.at_ i hp).1.view (S':=fun k=>H0.size≤k∧k<H.size) (fun b hb=>⟨st.ge i hp (.inl hb),(st.in_ i hp (.inl hb)).2⟩) (fun b hb=>⟨st.ge i hp (.inr hb),(st.in_ i hp (.inr hb)).2⟩);injection e1 with e1 e2 e3
 subst e1;subst e3;exact h
theorem ixO{P:Program}{t by_ j:Nat}{z:Value}{k:IntKind}{x:α}{ji:Int}{S0:Nat→Prop}{H2:Aa}{K:Value→Prop}(ht:SlT P t e T.size by_ z)(st:StB B H0 H ps)(i:Nat)(hp:ps[i]? =some (pN T S e a n cap xs))
  (hx:xs[j]? =some x) (hj:ji=(j:Int)) (hk:∀b o c,Old H b→Bi H b o c→T.rep (Old H) H c x→K (.pointer (some ⟨b,o,none⟩))):AH P (Instr.indexAt t (.slice a n cap) (.int k ji)) S0 H2 K:=by
 have h:=st.view i hp;have hn:=st.len i hp;obtain⟨b,o,c,rfl,h1,h2,h3⟩:=h.get hx;subst hj;have hi:=(Aa0.1 hx).1;exact ix ht (by omega) (by omega) (by simpa using hk b _ c h1 h2 h3)
theorem GS{P:Program}{t b o j:Nat}{v:Value}{x:α}{K:Aa→Prop}(st:StB B H0 H ps)(i:Nat)(ht:BG P t)(hp:ps[i]? =some (pN T S t (some ⟨b,0,none⟩) n cap xs))(hsz:T.size=1)(ho:o=j)(hj:j<xs.length)
  (hv:v.oneCell'=true) (hr:∀H',Agr S H H'→T.rep S H' [v] x) (k:∀H',StB B H0 H' (ps.set i (pN T S t (some ⟨b,0,none⟩) n cap (xs.set j x)))→K H'):C0 P (Instr.storeAt t (.pointer (some ⟨b,o,none⟩)) v) H K:=by
 subst ho;have hok:=st.at_ i hp;obtain⟨-,-,-,l,hblk,hlen,-,hput⟩:=hok.1.placeS hj;rw [hsz,AaJ]at hlen hput;refine VC.st1 ht hblk (by omega) hv ?_;intro H' hb' ha' hs';have hSH:Agr S H H':=ha'.mono fun k hk hkb=>hok.2 k hk (by subst hkb;exact⟨0,n,cap,rfl⟩);have hown:=hput H' [v] x (by rw [QD (by omega)];exact hb') hSH (hr H' hSH);refine k H' (st.upd i hp (ha'.mono fun k hk hkb=>hk.2 (.inl (by subst hkb;exact⟨0,n,cap,rfl⟩))) _ ⟨hown,hok.2⟩ (fun k hk=>.inl hk) (fun k hk=>by rw [hs'];exact(st.in_ i hp hk).2) (by omega))
theorem StB.new{b:Nat}{l:List Value}(st:StB B H0 H ps)(hb:b=H.size)(hs:H'.size=b+1)(hk:Blk H' b e l)(ha:Agr (fun k=>k<b) H H')(hr:T.reps none_ H' l xs)(hn:n=xs.length)(hm:n≤maxLen):StB B H0 H' (ps++[pS T e (some ⟨b,0,none⟩) n n xs]):=by
 subst hb;refine st.add (ha.mono fun k hk=>hk) _ ⟨SlO.ofBlk (AaY _) hk hr hn hm,fun k hk=>hk.elim⟩ fun k hk=>?_;rcases hk with⟨o,n',c,h⟩ | h
 ·cases h;omega
 ·exact h.elim
theorem StB.nils(st:StB B H0 H ps)(T:Ty α)(e:TypeId):StB B H0 H (ps++[pS T e none 0 0 []]):=
 st.add (Agr.refl _ _) _ ⟨SlO.nil,fun k hk=>hk.elim⟩ fun k hk=>by
  rcases hk with⟨o,n',c,h⟩ | h
  ·cases h
  ·exact h.elim
theorem StB.got{v:Value}(st:StB B H0 H ps)(ha:Agr (Old H) H H')(h:SlO T none_ H' H.size e v xs):∃a cap,v= .slice a xs.length cap∧StB B H0 H' (ps++[pS T e a xs.length cap xs]):=by
 obtain⟨a,cap,rfl⟩:=h.hull;refine⟨a,cap,rfl,st.add ha _ ⟨h.lower (AaY _),fun k hk=>hk.elim⟩ fun k hk=>?_⟩;rcases hk with hk | hk
 ·exact h.lt hk
 ·exact hk.elim
theorem KZ{P:Program}{t ty q o m cap2 by_:Nat}{z:Value}{ys:List α}{ds:List Value}{K:Value→Aa→Prop}(st:StB B H0 H ps)(i:Nat)(ht:SlT P t e T.size by_ z)(hp:ps[i]? =some (pS T e a n cap xs))
  (hd:Bi H q o ds) (hy:T.reps none_ H ds ys) (hm:m=ys.length) (h1:∀u∈ds,u.oneCell'=true) (h63:xs.length+ys.length≤34359738368) (hby:by_≤1024)
  (k:∀a' cap' H',StB B H0 H' (ps.set i (pS T e a' (xs.length+ys.length) cap' (xs++ys)))→Agr (fun k=>k<H.size∧¬slB (.slice a n cap) k) H H'→K (.slice a' (xs.length+ys.length) cap') H'):
  By P (Builtin.append_ #[t,t] ty [.slice a n cap,.slice (some ⟨q,o,none⟩) m cap2].toArray) H K:=by
 refine BZ (T:=T) (S:=none_) (lo:=0) ht (st.at_ i hp).1 (AaY _) (fun k hk=>hk.elim) hd hy hm h1 (by unfold maxLen;omega) (by have:=Nat.mul_le_mul h63 hby;omega) ?_;intro v' H' hown hagr hsz hfr;obtain⟨a',cap',rfl⟩:=hown.hull;rw [AaE]at hown hfr ⊢;refine k a' cap' H' (st.upd i hp (hagr.mono fun k hk=>⟨hk.1,fun hb=>hk.2 (.inl hb)⟩) _ ⟨hown,fun k hk=>hk.elim⟩ (fun k hk=>?_) (fun k hk=>?_) hsz) hagr
 ·rcases hk with hk | hk
  ·rcases hfr k hk with h | h
   ·exact .inl (.inl h)
   ·exact .inr h
  ·exact hk.elim
 ·rcases hk with hk | hk
  ·exact(hown.lt hk).2
  ·exact hk.elim
theorem KY{P:Program}{t ty q by_:Nat}{z v:Value}{x:α}{K:Value→Aa→Prop}(st:StB B H0 H ps)(i:Nat)(ht:SlT P t e T.size by_ z)(hp:ps[i]? =some (pS T e a n cap xs))
  (hd:Blk H q e [v]) (hy:T.rep none_ H [v] x) (hv:v.oneCell'=true) (h63:xs.length+1≤34359738368) (hby:by_≤1024)
  (k:∀a' cap' H',StB B H0 H' (ps.set i (pS T e a' (xs.length+1) cap' (xs++[x])))→Agr (fun k=>k<H.size∧¬slB (.slice a n cap) k) H H'→K (.slice a' (xs.length+1) cap') H'):
  By P (Builtin.append_ #[t,t] ty [.slice a n cap,.slice (some ⟨q,0,none⟩) 1 1].toArray) H K:=
 KZ (ys:=[x]) st i ht hp (hd.cells (fun j v hv=>by simpa using hv)) (Ty.reps_one hy) rfl (fun u hu=>by cases Aa9.1 hu;exact hv) (by simpa using h63) hby k
end
section
variable{α:Type}{T:Ty α}{B:Nat→Prop}{H0 H H1:Aa}{ps:List Pc}{e te:TypeId}{nb:Nat}{vs:List Value}{xs:List (List α)}
theorem Tab.hold{S':Nat→Prop}{lo:Nat}(h:Tab T none_ H lo e nb te vs xs)(k:Agr S' H H1)(hn:S' nb)(hb:∀(i:Nat) (v:Value),vs[i]? =some v→∀j,slB v j→S' j):Tab T none_ H1 lo e nb te vs xs:=
 ⟨h.len,h.blk.agr k hn,h.nlo,fun i v x hv hx=>(h.own i v x hv hx).agr k (fun b hb'=>hb i v hv b hb') (fun b hb=>hb.elim),h.apart⟩
def pT(T:Ty α)(e te:TypeId)(nb:Nat)(vs:List Value)(xs:List (List α)):Pc where
 foot k:=k=nb∨∃(i:Nat) (v:Value),vs[i]? =some v∧slB v k
 ok H:=Tab T none_ H (nb+1) e nb te vs xs
 fr h hp:=hp.hold h (.inl rfl) fun i v hv j hj=>.inr ⟨i,v,hv,hj⟩
theorem StB.tab(st:StB B H0 H ps)(i:Nat)(hp:ps[i]? =some (pT T e te nb vs xs)):Tab T none_ H (nb+1) e nb te vs xs:=st.at_ i hp
theorem StB.tabNew{n:Nat}(st:StB B H0 H ps)(T:Ty α)(e:TypeId)(hb:nb=H.size)(hs:H1.size=nb+1)(hk:Blk H1 nb te (Aa2 n (.slice none 0 0)))(ha:Agr (fun k=>k<nb) H H1):StB B H0 H1 (ps++[pT T e te nb (Aa2 n (.slice none 0 0)) (Aa2 n [])]):=by
 subst hb;refine st.add (ha.mono fun k hk=>hk) _ (Tab.new hk (Nat.lt_succ_self _)) fun k hk=>?_;rcases hk with rfl | ⟨i,v,hv,hk⟩
 ·omega
 ·rw [AaT]at hv;split at hv
  ·cases hv;obtain⟨o,n,c,h⟩:=hk;cases h
  ·cases hv
theorem StB.row(st:StB B H0 H ps)(i:Nat)(hp:ps[i]? =some (pT T e te nb vs xs)){t:Nat}{x:List α}(hx:xs[t]? =some x):∃a cap,vs[t]? =some (.slice a x.length cap)∧SlD T (Old H) H a cap x:=by
 have tab:=st.tab i hp;have ht:=(Aa0.1 hx).1;obtain⟨v,x',hv,hx',hown⟩:=tab.get ht;rw [hx]at hx';cases hx';obtain⟨a,cap,rfl,hd,-⟩:=hown.view (S':=Old H) (fun b hb=>(hown.lt hb).2) (fun _ f=>f.elim);exact⟨a,cap,hv,hd⟩
theorem StB.tcell(st:StB B H0 H ps)(i:Nat)(hp:ps[i]? =some (pT T e te nb vs xs)){t o:Nat}{v:Value}(hv:vs[t]? =some v)(ho:o=t):VC.cell H nb o=some v:=by
 subst ho;rw [(st.tab i hp).blk.cell];exact hv
structure Mid(T:Ty α)(B:Nat→Prop)(H0 H H1:Aa)(ps:List Pc)(i:Nat)(e te:TypeId)(nb:Nat)(vs:List Value)(xs:List (List α))(t:Nat)(v':Value)(x':List α):Prop where
 st:StB B H0 H ps
 hp:ps[i]? =some (pT T e te nb vs xs)
 own:SlO T none_ H1 (nb+1) e v' x'
 ex:∃v,vs[t]? =some v∧Agr (fun k=>k<H.size∧¬slB v k) H H1∧∀k,slB v' k→slB v k∨H.size≤k
 le:H.size≤H1.size
theorem stT{P:Program}{i t o:Nat}{v':Value}{x':List α}{K:Aa→Prop}(m:Mid T B H0 H H1 ps i e te nb vs xs t v' x')(ht:BG P te)(ho:o=t)
  (k:∀H2,StB B H0 H2 (ps.set i (pT T e te nb (vs.set t v') (xs.set t x')))→K H2):C0 P (Instr.storeAt te (.pointer (some ⟨nb,o,none⟩)) v') H1 K:=by
 subst ho;obtain⟨v,hv,hagr,hfr⟩:=m.ex;have st:=m.st;have tab:=st.tab i m.hp;have hol:o<vs.length:=(Aa0.1 hv).1;have hox:o<xs.length:=by rw [←tab.len];exact hol
 obtain⟨x,hx⟩:∃x,xs[o]? =some x:=⟨xs[o],Aa1 hox⟩;have hvo:=tab.own o v x hv hx;have nvb:¬slB v nb:=fun h=>by have:=(hvo.lt h).1;omega
 have hblk:=tab.blk.agr hagr ⟨tab.blk.lt,nvb⟩;refine VC.st1 ht hblk hol m.own.one ?_;intro H2 hb2 ha2 hs2;have htab:Tab T none_ H2 (nb+1) e nb te (vs.set o v') (xs.set o x'):=tab.push hv m.own hagr hfr hb2 ha2 (fun k hk=>hk.elim);have hle:=m.le;have hlt2:∀(j:Nat) (w:Value),(vs.set o v')[j]? =some w→∀k,slB w k→k<H2.size:=fun j w hw k hk=>by
  have hjl:=(Aa0.1 hw).1;have:j<(xs.set o x').length:=by rw [←htab.len];exact hjl
  exact((htab.own j w _ hw (Aa1 this)).lt hk).2
 refine k H2 (st.upd i m.hp (H':=H2) ?_ _ htab ?_ ?_ (by omega))
 ·exact(hagr.mono fun k hk=>⟨hk.1,fun hb=>hk.2 (.inr ⟨o,v,hv,hb⟩)⟩).trans (ha2.mono fun k hk hkb=>hk.2 (.inl hkb))
 ·intro k hk;rcases hk with rfl | ⟨j,w,hw,hk⟩
  ·exact .inl (.inl rfl)
  ·by_cases hj:o=j
   ·subst hj;rw [Aa6 hol]at hw;cases hw;rcases hfr k hk with h | h
    ·exact .inl (.inr ⟨o,v,hv,h⟩)
    ·exact .inr h
   ·rw [AaB hj]at hw;exact .inl (.inr ⟨j,w,hw,hk⟩)
 ·intro k hk;rcases hk with rfl | ⟨j,w,hw,hk⟩
  ·exact htab.blk.lt
  ·exact hlt2 j w hw k hk
theorem StB.tview(st:StB B H0 H ps)(i:Nat)(hp:ps[i]? =some (pT T e te nb vs xs))(hm:xs.length≤maxLen):SlD (tSl T) (Old H) H (some ⟨nb,0,none⟩) xs.length xs:=
 (st.tab i hp).view rfl hm (fun k _ hk=>hk) (fun _ f=>f.elim)
end
theorem Xm{P:Program}{ats:Array TypeId}{t:TypeId}{k k':IntKind}{a b:Int}{S:Nat→Prop}{H:Aa}{K:Value→Prop}(h:K (.int k (if b<a then b else a))):AH P (Builtin.min_ ats t [.int k a,.int k' b].toArray) S H K:=by
 refine AH.mk _ (fun w _=>?_) h;simp [Builtin.min_,Builtin.min2]
theorem Xl{P:Program}{ats:Array TypeId}{t:TypeId}{k k':IntKind}{a b:Int}{S:Nat→Prop}{H:Aa}{K:Value→Prop}(h:K (.int k (if a<b then b else a))):AH P (Builtin.max_ ats t [.int k a,.int k' b].toArray) S H K:=by
 refine AH.mk _ (fun w _=>?_) h;simp [Builtin.max_,Builtin.max2]
theorem Yr(n:Nat):IntKind.wrap .u64 (n:Int)=((n % 18446744073709551616:Nat):Int):=by
 unfold IntKind.wrap;simp only [IntKind.bits,IntKind.signed,Bool.false_and,AbS,if_false,Ab0,Int.reducePow];omega
theorem JT{x y:Nat}(h:x+y<18446744073709551616):IntKind.wrap .u64 ((x:Int)+(y:Int))=((x+y:Nat):Int):=by
 rw [←Int.natCast_add,Yr,Ab1 h]
theorem Yp{n:Nat}(h:n<9223372036854775808):IntKind.wrap .i64 (n:Int)=(n:Int):=w64 (by omega) (by omega)
end Go.VC
namespace Go.Proofs.YtfbghcpdinlmcaaGreatDoor
open Go.VC
theorem FT{a c x y:Nat}(ha:a<256)(hc:c<256):(a+256*x) &&& (c+256*y)=(a &&& c)+256*(x &&& y):=by
 have h1:((a+256*x) &&& (c+256*y)) % 2 ^ 8=(a &&& c):=by rw [Nat.and_mod_two_pow,show(a+256*x) % 2 ^ 8=a by omega,show(c+256*y) % 2 ^ 8=c by omega]
 have h2:((a+256*x) &&& (c+256*y)) / 2 ^ 8=(x &&& y):=by rw [Nat.and_div_two_pow,show(a+256*x) / 2 ^ 8=x by omega,show(c+256*y) / 2 ^ 8=y by omega]
 omega
def mk_(c:Nat):Nat→Nat
 | 0=>0
 | m+1=>c+256*mk_ c m
theorem N2(c m:Nat):mk_ c (m+1)=c+256*mk_ c m:=rfl
def sw1(m w:Nat):Nat:=((w / 2) &&& mk_ 85 m)+(w &&& mk_ 85 m)
def sw2(m w:Nat):Nat:=((w / 4) &&& mk_ 51 m)+(w &&& mk_ 51 m)
def sw3(m w:Nat):Nat:=(w / 16+w) &&& mk_ 15 m
def pc8(a:Nat):Nat:=((AaF 8).filter fun j=>a.testBit j).length
def GR(m w:Nat):Nat:=((AaF m).filter fun j=>w.testBit j).length
def g1(a:Nat):Nat:=((a / 2) &&& 85)+(a &&& 85)
def g2(a:Nat):Nat:=((a / 4) &&& 51)+(a &&& 51)
theorem Xc:∀a,a<256→g1 a<256:=by decide+kernel
theorem YM:∀a,a<256→∀r,r<2→((a / 2+128*r) &&& 85)=((a / 2) &&& 85):=by decide+kernel
theorem YN:∀a,a<256→∀r,r<4→((a / 4+64*r) &&& 51)=((a / 4) &&& 51):=by decide+kernel
theorem Xd:∀a,a<256→g2 a<256∧(g2 (g1 a)) % 16≤4∧g2 (g1 a) / 16≤4:=by decide+kernel
theorem YO:∀a,a<256→∀r,r<5→((g2 (g1 a) / 16+16*r+g2 (g1 a)) &&& 15)=pc8 a:=by decide+kernel
theorem Hn:∀a,a<256→pc8 a≤8:=by decide+kernel
theorem ME{m a b:Nat}(ha:a<256):sw1 (m+1) (a+256*b)=g1 a+256*sw1 m b:=by
 unfold sw1;rw [N2];have e:(a+256*b) / 2=(a / 2+128*(b % 2))+256*(b / 2):=by omega
 rw [e,FT (by omega) (by decide),FT ha (by decide),YM a ha _ (by omega)];unfold g1;omega
theorem MF{m a b:Nat}(ha:a<256):sw2 (m+1) (a+256*b)=g2 a+256*sw2 m b:=by
 unfold sw2;rw [N2];have e:(a+256*b) / 4=(a / 4+64*(b % 4))+256*(b / 4):=by omega
 rw [e,FT (by omega) (by decide),FT ha (by decide),YN a ha _ (by omega)];unfold g2;omega
theorem Ye(m b:Nat)(hb:b<256 ^ m):sw2 m (sw1 m b) % 16≤4:=by
 cases m with
 | zero=>
   obtain rfl:b=0:=by simp at hb;omega
   decide
 | succ m=>
   have e:b=b % 256+256*(b / 256):=by omega
   rw [e,ME (by omega),MF (Xc _ (by omega))];have:=(Xd (b % 256) (by omega)).2.1;omega
theorem Vi{m a b:Nat}(ha:a<256)(hb:b<256 ^ m):sw3 (m+1) (sw2 (m+1) (sw1 (m+1) (a+256*b)))=pc8 a+256*sw3 m (sw2 m (sw1 m b)):=by
 rw [ME ha,MF (Xc a ha)];have hl:=Ye m b hb;have hg:=Xd a ha;generalize sw2 m (sw1 m b)=x at*;unfold sw3;rw [N2];have e:(g2 (g1 a)+256*x) / 16+(g2 (g1 a)+256*x)=(g2 (g1 a) / 16+16*(x % 16)+g2 (g1 a))+256*(x / 16+x):=by omega
 rw [e,FT (by omega) (by decide),YO a ha _ (by omega)]
theorem Qy(m w:Nat):GR (8+m) w=pc8 (w % 256)+GR m (w / 256):=by
 unfold GR pc8;rw [AbI,AbT,AaE,Ac5,Ab6]
 congr 1
 ·congr 1
  refine AaW fun j hj=>?_;rw [AbK]at hj;rw [show(256:Nat)=2 ^ 8 from rfl,Nat.testBit_mod_two_pow];simp [hj]
 ·congr 1
  refine AaW fun j _=>?_;simp only [Function.comp];rw [show(256:Nat)=2 ^ 8 from rfl,Nat.testBit_div_two_pow,Nat.add_comm]
def p8(w i:Nat):Nat:=pc8 (w / 256 ^ i % 256)
theorem Yd(w:Nat)(hw:w<18446744073709551616):sw3 8 (sw2 8 (sw1 8 w))=p8 w 0+256*(p8 w 1+256*(p8 w 2+256*(p8 w 3+256*(p8 w 4+256*(p8 w 5+256*(p8 w 6+256*p8 w 7))))))∧
  GR 64 w=p8 w 0+(p8 w 1+(p8 w 2+(p8 w 3+(p8 w 4+(p8 w 5+(p8 w 6+p8 w 7)))))):=by
 have st:∀(m w i:Nat),w / 256 ^ i<256 ^ (m+1)→sw3 (m+1) (sw2 (m+1) (sw1 (m+1) (w / 256 ^ i)))=p8 w i+256*sw3 m (sw2 m (sw1 m (w / 256 ^ (i+1)))):=by
  intro m w i h;have e:w / 256 ^ i=w / 256 ^ i % 256+256*(w / 256 ^ (i+1)):=by rw [AbE,←AaZ];omega
  have h2:w / 256 ^ (i+1)<256 ^ m:=by
   rw [AbE,←AaZ,AbL (by decide)];rw [AbE]at h;exact h
  conv=>lhs;rw [e]
  rw [Vi (by omega) h2];rfl
 have sp:∀(m i:Nat),GR (8+m) (w / 256 ^ i)=p8 w i+GR m (w / 256 ^ (i+1)):=by
  intro m i;rw [Qy,AbE,←AaZ];rfl
 have h0:w=w / 256 ^ 0:=by simp
 have hz:sw3 0 (sw2 0 (sw1 0 (w / 256 ^ 8)))=0:=by
  rw [Nat.div_eq_of_lt (by simpa using hw)];decide
 have bd:∀i,i≤8→w / 256 ^ i<256 ^ (8 - i):=by
  intro i hi;rw [AbL (Nat.pow_pos (by decide)),←Nat.pow_add,show 8 - i+i=8 by omega];simpa using hw
 constructor
 ·conv=>lhs;rw [h0]
  rw [st 7 w 0 (bd 0 (by omega)),st 6 w 1 (bd 1 (by omega)),st 5 w 2 (bd 2 (by omega)),st 4 w 3 (bd 3 (by omega)),st 3 w 4 (bd 4 (by omega)),st 2 w 5 (bd 5 (by omega)),st 1 w 6 (bd 6 (by omega)),st 0 w 7 (bd 7 (by omega)),hz];omega
 ·conv=>lhs;rw [h0]
  rw [show(64:Nat)=8+56 from rfl,sp 56 0,show(56:Nat)=8+48 from rfl,sp 48 1,show(48:Nat)=8+40 from rfl,sp 40 2,show(40:Nat)=8+32 from rfl,sp 32 3,show(32:Nat)=8+24 from rfl,sp 24 4,show(24:Nat)=8+16 from rfl,sp 16 5,
   show(16:Nat)=8+8 from rfl,sp 8 6,show(8:Nat)=8+0 from rfl,sp 0 7]
  rfl
theorem XN(w:Nat)(hw:w<18446744073709551616)(H:Aa):B8 Tryz.prog 209 #[.int .u64 (w:Int)] H (.int .i64 (GR 64 w:Int)):=by
 obtain⟨hs,hp⟩:=Yd w hw;have b0:=Hn (w / 256 ^ 0 % 256) (by omega);have b1:=Hn (w / 256 ^ 1 % 256) (by omega);have b2:=Hn (w / 256 ^ 2 % 256) (by omega);have b3:=Hn (w / 256 ^ 3 % 256) (by omega);have b4:=Hn (w / 256 ^ 4 % 256) (by omega);have b5:=Hn (w / 256 ^ 5 % 256) (by omega);have b6:=Hn (w / 256 ^ 6 % 256) (by omega);have b7:=Hn (w / 256 ^ 7 % 256) (by omega);change p8 w 0≤8 at b0;change p8 w 1≤8 at b1;change p8 w 2≤8 at b2;change p8 w 3≤8 at b3;change p8 w 4≤8 at b4;change p8 w 5≤8 at b5;change p8 w 6≤8 at b6;change p8 w 7≤8 at b7;have m1:mk_ 85 8=6148914691236517205:=by decide
 have m2:mk_ 51 8=3689348814741910323:=by decide
 have m3:mk_ 15 8=1085102592571150095:=by decide
 have i1:inK .u64 ((6148914691236517205:Nat):Int):=Hd (by decide);have i2:inK .u64 ((3689348814741910323:Nat):Int):=Hd (by decide);have i3:inK .u64 ((1085102592571150095:Nat):Int):=Hd (by decide);refine Al.of_vc Tryz.func209 rfl (Tryz.call209 _) ?_;have l1:((w / 2 ^ 1) &&& 6148914691236517205)+(w &&& 6148914691236517205)<18446744073709551616:=by
  have:=AaK (n:=w / 2 ^ 1) (m:=6148914691236517205);have:=AaK (n:=w) (m:=6148914691236517205);omega
 refine LW (a:=w) (b:=1) (by decide) (Js (a:=w / 2 ^ 1) (b:=6148914691236517205) (Hd (by omega)) i1 (Js (a:=w) (b:=6148914691236517205) (Hd hw) i1 ?_));(conv=>whnf);rw [JT l1];have e1:((w / 2 ^ 1) &&& 6148914691236517205)+(w &&& 6148914691236517205)=sw1 8 w:=by unfold sw1;rw [m1]
 rw [e1]at l1 ⊢;generalize sw1 8 w=x1 at*;have l2:((x1 / 2 ^ 2) &&& 3689348814741910323)+(x1 &&& 3689348814741910323)<18446744073709551616:=by
  have:=AaK (n:=x1 / 2 ^ 2) (m:=3689348814741910323);have:=AaK (n:=x1) (m:=3689348814741910323);omega
 refine LW (a:=x1) (b:=2) (by decide) (Js (a:=x1 / 2 ^ 2) (b:=3689348814741910323) (Hd (by omega)) i2 (Js (a:=x1) (b:=3689348814741910323) (Hd l1) i2 ?_));(conv=>whnf);rw [JT l2];have e2:((x1 / 2 ^ 2) &&& 3689348814741910323)+(x1 &&& 3689348814741910323)=sw2 8 x1:=by unfold sw2;rw [m2]
 have l2':((x1 / 2 ^ 2) &&& 3689348814741910323)+(x1 &&& 3689348814741910323)≤7378697629483820646:=by
  have:=AaK (n:=x1 / 2 ^ 2) (m:=3689348814741910323);have:=AaK (n:=x1) (m:=3689348814741910323);omega
 rw [e2]at l2 l2' ⊢;generalize sw2 8 x1=x2 at*;refine LW (a:=x2) (b:=4) (by decide) ?_;(conv=>whnf);rw [JT (x:=x2 / 2 ^ 4) (y:=x2) (by omega)];refine Js (a:=x2 / 2 ^ 4+x2) (b:=1085102592571150095) (Hd (by omega)) i3 ?_;have e3:((x2 / 2 ^ 4+x2) &&& 1085102592571150095)=sw3 8 x2:=by unfold sw3;rw [m3]
 rw [e3];generalize sw3 8 x2=x3 at*;generalize p8 w 0=q0 at*;generalize p8 w 1=q1 at*;generalize p8 w 2=q2 at*;generalize p8 w 3=q3 at*;generalize p8 w 4=q4 at*;generalize p8 w 5=q5 at*;generalize p8 w 6=q6 at*;generalize p8 w 7=q7 at*;have lx:x3<1152921504606846976:=by omega
 refine LW (a:=x3) (b:=8) (by decide) ?_;(conv=>whnf);rw [JT (x:=x3) (y:=x3 / 2 ^ 8) (by omega)];refine LW (a:=x3+x3 / 2 ^ 8) (b:=16) (by decide) ?_;(conv=>whnf);rw [JT (x:=x3+x3 / 2 ^ 8) (y:=(x3+x3 / 2 ^ 8) / 2 ^ 16) (by omega)];obtain⟨y,hy⟩:∃y,y=x3+x3 / 2 ^ 8:=⟨_,rfl⟩;rw [←hy];obtain⟨z,hz⟩:∃z,z=y+y / 2 ^ 16:=⟨_,rfl⟩;rw [←hz];refine LW (a:=z) (b:=32) (by decide) ?_;(conv=>whnf);rw [JT (x:=z) (y:=z / 2 ^ 32) (by omega)];obtain⟨u,hu⟩:∃u,u=z+z / 2 ^ 32:=⟨_,rfl⟩;rw [←hu];(conv=>whnf);rw [Yp (n:=u) (by omega)];refine Js (a:=u) (b:=127) (Bs (by omega)) (Bs (by decide)) ?_;(conv=>whnf);have hand:(u &&& 127)=GR 64 w:=by
  rw [show(127:Nat)=2 ^ 7 - 1 by decide,Nat.and_two_pow_sub_one_eq_mod,hp];have k1:x3 / 2 ^ 8=q1+256*(q2+256*(q3+256*(q4+256*(q5+256*(q6+256*q7))))):=by omega
  have k2:y / 2 ^ 16=(q2+q3)+256*((q3+q4)+256*((q4+q5)+256*((q5+q6)+256*((q6+q7)+256*q7)))):=by rw [hy,k1,hs];clear hu hz hy k1 hs;omega
  have k3:z / 2 ^ 32=(q4+q5+q6+q7)+256*((q5+q6+q7)+256*((q6+q7)+256*q7)):=by rw [hz,k2,hy,k1,hs];clear hu hz hy k1 k2 hs;omega
  rw [hu,k3,hz,k2,hy,k1,hs];clear hu hz hy k1 k2 k3 hs;omega
 rw [hand];exact⟨rfl,Agr.refl _ _⟩
def CV(s:BitVec 256):Nat:=((AaF 256).filter fun b=>s.getLsbD b).length
theorem Ou(s:BitVec 256):CV s=GR 64 (wd s 0)+(GR 64 (wd s 1)+(GR 64 (wd s 2)+GR 64 (wd s 3))):=by
 have one:∀i m,((AaF (64+m)).filter fun j=>s.getLsbD (64*i+j)).length=GR 64 (wd s i)+((AaF m).filter fun j=>s.getLsbD (64*(i+1)+j)).length:=by
  intro i m;rw [AbI,AbT,AaE,Ac5,Ab6]
  congr 1
  ·unfold GR
   congr 1
   refine AaW fun j hj=>?_;rw [AbK]at hj;rw [DY s i j hj]
  ·congr 1
   refine AaW fun j _=>?_;simp only [Function.comp];rw [show 64*i+(64+j)=64*(i+1)+j by omega]
 have h0:CV s=((AaF (64+192)).filter fun j=>s.getLsbD (64*0+j)).length:=by
  unfold CV;simp only [Nat.mul_zero,Aa5,Nat.reduceAdd]
 rw [h0,one 0 192,show(192:Nat)=64+128 from rfl,one 1 128,show(128:Nat)=64+64 from rfl,one 2 64,show(64:Nat)=64+0 from rfl,one 3 0]
 first | done | rfl
theorem RQ(m w:Nat):GR m w≤m:=by
 unfold GR;exact AbQ (List.length_filter_le _ _) (by simp)
def Ip(s:BitVec 256):Nat→Nat
 | 0=>0
 | i+1=>Ip s i+GR 64 (wd s i)
theorem Mn(s:BitVec 256):∀i,Ip s i≤64*i
 | 0=>AaA _
 | i+1=>by have:=Mn s i;have:=RQ 64 (wd s i);simp only [Ip];omega
theorem Zv(s:BitVec 256)(H:Aa):B8 Tryz.prog 186 #[Bm s] H (.int .i64 (CV s:Int)):=by
 refine Al.of_vc Tryz.func186 rfl (Tryz.call186 _) (B0 (Af s) rfl ?_);intro pb H1 hpb hs1 hb1 ha1;have hA1:Agr (Old H) H H1:=ha1.mono fun j hj=>by unfold Old at hj;omega
 refine ldN (cs:=Af s) AU (hb1.cells fun j v hv=>by rw [Aa5];exact hv) trivial ?_;(conv=>whnf);refine A3.mk [3,7] (fun i:Nat=>[.int .i64 (Ip s i:Int),.int .i64 i]) (fun i H2=>i≤4∧Agr (Old H) H H2) (fun i _=>4 - i) ?_ ?_
 ·(conv=>whnf);exact⟨0,rfl,by omega,hA1⟩
 ·rintro i H2 junk ⟨hi,ha2⟩;refine AB.mk (fun h=>?_) (fun h=>?_)<;>simp only [decide_eq_true_eq,decide_eq_false_iff_not]at h
  ·have hget:(Af s)[i]? =some (.int .u64 (wd s i)):=by
    have:i=0∨i=1∨i=2∨i=3:=by omega
    rcases this with rfl | rfl | rfl | rfl<;>rfl
   have hle:=Mn s i;have hpl:=RQ 64 (wd s i);refine ZJ (v:=.int .u64 (wd s i)) BW Eh (by omega) (by omega) (by rw [Int.toNat_natCast,AaJ];simpa using hget) ?_;refine Ao (XN (wd s i) (Hy s i) H2) fun H3 ha3=>?_;(conv=>whnf);rw [w64 (x:=(Ip s i:Int)+(GR 64 (wd s i):Int)) (by omega) (by omega)];(conv=>whnf);rw [w64 (x:=(i:Int)+1) (by omega) (by omega)];exact⟨rfl,i+1,by simp [Ip],⟨by omega,ha2.trans (ha3.mono fun k hk=>As ha2 hk)⟩,by omega⟩
  ·obtain rfl:i=4:=by omega
   (conv=>whnf);refine⟨?_,ha2⟩;rw [Ou];simp only [Ip]
   congr 2
   omega
def Bt(s:BitVec 256)(n:Nat):Nat×Bool:=match(AaF 256).find? fun b=>decide (n≤b)&&s.getLsbD b with
 | some b=>(b,true)
 | none=>(0,false)
theorem Hl(s:BitVec 256)(n:Nat):(Bt s n).1<256:=by
 unfold Bt;split
 ·rename_i b h;have:=List.mem_of_find?_eq_some h;simpa using this
 ·decide
theorem UB(s:BitVec 256)(n:Nat)(hn:n≤256)(H:Aa):B8 Tryz.prog 67 #[Bm s,.int .i64 n] H (.tuple #[.int .u8 ((Bt s n).1:Int),.bool (Bt s n).2]):=by
 refine Al.of_vc Tryz.func67 rfl (Tryz.call67 _) (B0 (Af s) rfl ?_);intro pb H1 hpb hs1 hb1 ha1;have st1:=(St.nil H).box hpb hs1 hb1 ha1;refine Xl ?_;rw [if_neg (by omega)];(conv=>whnf);refine A3.mk [4,5,6] (fun k:Nat=>[.int .u8 0,.bool false,.int .i64 k]) (fun k H2=>n≤k∧k≤256∧(∀j,n≤j→j<k→s.getLsbD j=false)∧St H H2 [pB 101 pb (Af s)]) (fun k _=>256 - k) ?_ ?_
 ·(conv=>whnf);exact⟨n,rfl,AaA _,hn,fun j h1 h2=>by omega,st1⟩
 ·rintro k H2 junk ⟨hnk,hk,hno,st⟩;refine AB.mk (fun h=>?_) (fun h=>?_)<;>simp only [decide_eq_true_eq,decide_eq_false_iff_not]at h
  ·have hk8:k<256:=by omega
   refine ldN (cs:=Af s) AU ((st.blk 0 rfl).cells fun j v hv=>by rw [Aa5];exact hv) trivial ?_;(conv=>whnf);rw [w8 (x:=(k:Int)) (by omega) (by omega)];refine Ao (Us s k hk8 H2) fun H3 ha3=>?_;have st3:=st.call ha3;cases hb:s.getLsbD k with
   | true=>
     (conv=>whnf);rw [w8 (x:=(k:Int)) (by omega) (by omega)];(conv=>whnf);have hf:((AaF 256).find? fun b=>decide (n≤b)&&s.getLsbD b)=some k:=by
      rw [List.find?_range_eq_some];refine⟨by simp [hnk,hb],by simpa using hk8,fun j hj=>?_⟩;by_cases hnj:n≤j
      ·simp [hno j hnj hj]
      ·simp [hnj]
     refine⟨?_,st3.old⟩;unfold Bt;rw [hf];first | done | rfl
   | false=>
     (conv=>whnf);rw [w64 (x:=(k:Int)+1) (by omega) (by omega)];refine⟨rfl,k+1,by simp,⟨by omega,by omega,fun j h1 h2=>?_,st3⟩,by omega⟩;by_cases hjk:j=k
     ·subst hjk;exact hb
     ·exact hno j h1 (by omega)
  ·obtain rfl:k=256:=by omega
   (conv=>whnf);have hf:((AaF 256).find? fun b=>decide (n≤b)&&s.getLsbD b)=none:=by
    rw [List.find?_range_eq_none];intro j hj;by_cases hnj:n≤j
    ·simp [hno j hnj (by simpa using hj)]
    ·simp [hnj]
   refine⟨?_,st.old⟩;unfold Bt;rw [hf];first | done | rfl
end Go.Proofs.YtfbghcpdinlmcaaGreatDoor
namespace Go.Proofs.YtfbghcpdinlmcaaGreatDoor
def Du(all:BitVec 256):List (BitVec 256)→Option (BitVec 256)
 | []=>some all
 | c::cs=>if all &&& c=0#256 then Du (all ||| c) cs else none
theorem HU(all:BitVec 256)(cs ds:List (BitVec 256)):Du all (cs++ds)=(Du all cs).bind fun x=>Du x ds:=by
 induction cs generalizing all with
 | nil=>rfl
 | cons c cs ih=>
   simp only [List.cons_append,Du];split
   ·exact ih _
   ·rfl
theorem JW{all:BitVec 256}{cs:List (BitVec 256)}{x c:BitVec 256}(h:Du all cs=some x):Du all (cs++[c])=if x &&& c=0#256 then some (x ||| c)else none:=by
 rw [HU,h];rfl
def GL(n m:Nat)(row:List Int):Bool:=row.length==m&&row.all fun q=>decide (0≤q)&&decide (q<(n:Int))
def BK(cells:List (BitVec 256))(next:List (List Int))(fl:Nat):Bool:=
 match Du 0#256 cells with
 | none=>false
 | some all=>all==Ac9 256&&decide (1≤next.length)&&decide (next.length≤65536)&&next.length==fl&&next.all (GL next.length cells.length)
theorem Ac{α:Type}{l:List α}{k:Nat}{x:α}(h:l[k]? =some x):l.take (k+1)=l.take k++[x]:=by
 rw [List.take_add_one,h];rfl
theorem Ad{α:Type}{l:List α}{k:Nat}(h:k<l.length):∃x,l[k]? =some x:=⟨l[k],Aa1 h⟩
def Fc(next:List (List Int))(c d:Nat):Bool:=c==d|| next.all fun row=>row[c]? ==row[d]?
def CU(cells:List (BitVec 256))(b:Nat):Nat:=cells.findIdx fun c=>c.getLsbD b
structure MS where
 cols:List Nat
 sets:List (BitVec 256)
 cell:List Nat
def My(next:List (List Int))(cols:List Nat)(f:Nat):Option Nat:=cols.findIdx? fun c=>Fc next c f
def GQ(next:List (List Int))(cols:List Nat)(sets:List (BitVec 256))(f:Nat):List Nat×List (BitVec 256)×Nat:=
 match My next cols f with
 | some i=>(cols,sets,i)
 | none=>(cols++[f],sets++[0#256],cols.length)
def OK(next:List (List Int))(cells:List (BitVec 256))(st:MS)(b:Nat)(s:BitVec 256):MS:=
 let r:=GQ next st.cols st.sets (CU cells b)
 ⟨r.1,r.2.1.set r.2.2 (r.2.1.getD r.2.2 0#256 ||| s),st.cell++[r.2.2]⟩
def Cp(next:List (List Int))(cells:List (BitVec 256))(sp:Nat→BitVec 256):Nat→MS
 | 0=>⟨[],[],[]⟩
 | b+1=>OK next cells (Cp next cells sp b) b (sp b)
theorem GX{all:BitVec 256}{cs:List (BitVec 256)}{x:BitVec 256}(h:Du all cs=some x)(b:Nat):x.getLsbD b=(all.getLsbD b|| cs.any fun c=>c.getLsbD b):=by
 induction cs generalizing all with
 | nil=>simp only [Du,Option.some.injEq]at h;subst h;simp
 | cons c cs ih=>
   simp only [Du]at h;split at h
   ·rw [ih h,BitVec.getLsbD_or,List.any_cons,Bool.or_assoc]
   ·cases h
theorem DV{cells:List (BitVec 256)}{next:List (List Int)}{fl:Nat}(h:BK cells next fl=true){b:Nat}(hb:b<256):CU cells b<cells.length∧∀c,cells[CU cells b]? =some c→c.getLsbD b=true:=by
 unfold BK at h;split at h
 ·cases h
 ·rename_i all hall;simp only [AaD,beq_iff_eq]at h;have h1:=GX hall b;rw [h.1.1.1.1,BitVec.getLsbD_allOnes]at h1;simp only [hb,decide_true,BitVec.getLsbD_zero,Bool.false_or]at h1;have h2:CU cells b<cells.length:=List.findIdx_lt_length.2 (by simpa using(AbZ.1 h1.symm));refine⟨h2,fun c hc=>?_⟩;have:=List.findIdx_getElem (w:=h2);rw [Aa1 h2]at hc;cases hc;exact this
theorem LZ{cells:List (BitVec 256)}{b k:Nat}{c:BitVec 256}(hk:k<CU cells b)(hc:cells[k]? =some c):c.getLsbD b=false:=by
 have:=List.not_of_lt_findIdx hk;have hlt:=(Aa0.1 hc).1;rw [Aa1 hlt]at hc;cases hc;simpa using this
theorem FF{cells:List (BitVec 256)}{next:List (List Int)}{fl:Nat}(h:BK cells next fl=true):1≤next.length∧next.length≤65536∧next.length=fl∧∀row∈next,row.length=cells.length∧∀q∈row,0≤q∧q<(next.length:Int):=by
 unfold BK at h;split at h
 ·cases h
 ·simp only [AaD,beq_iff_eq,decide_eq_true_eq,Ac0,GL]at h;exact⟨h.1.1.1.2,h.1.1.2,h.1.2,fun row hr=>⟨(h.2 row hr).1,fun q hq=>(h.2 row hr).2 q hq⟩⟩
structure MOk(m b:Nat)(st:MS):Prop where
 len:st.cols.length=st.sets.length
 le:st.cols.length≤b
 cell:st.cell.length=b
 cols:∀c∈st.cols,c<m
 places:∀p∈st.cell,p<st.cols.length
theorem RC{next:List (List Int)}{cols:List Nat}{sets:List (BitVec 256)}{f m b:Nat}(h1:cols.length=sets.length)(h2:cols.length≤b)(h3:∀c∈cols,c<m)(hf:f<m):
  (GQ next cols sets f).1.length=(GQ next cols sets f).2.1.length∧(GQ next cols sets f).1.length≤b+1∧(∀c∈(GQ next cols sets f).1,c<m)∧(GQ next cols sets f).2.2<(GQ next cols sets f).1.length∧cols.length≤(GQ next cols sets f).1.length:=by
 unfold GQ;split
 ·rename_i i hi;have hlt:i<cols.length:=by
   have:=List.findIdx?_eq_some_iff_findIdx_eq.1 hi;exact this.1
  exact⟨h1,Nat.le_succ_of_le h2,h3,hlt,AaA _⟩
 ·refine⟨by simp [h1],by simpa using h2,?_,by simp,by simp⟩;intro c hc;rcases AaC.1 hc with h | h
  ·exact h3 c h
  ·rw [Aa9]at h;omega
theorem HH{next:List (List Int)}{cells:List (BitVec 256)}{sp:Nat→BitVec 256}(hc:∀b,b<256→CU cells b<cells.length):∀b,b≤256→MOk cells.length b (Cp next cells sp b)
 | 0,_=>⟨rfl,AaA _,rfl,(fun c h=>by cases h),(fun p h=>by cases h)⟩
 | b+1,hb=>by
   have ih:=HH (next:=next) (sp:=sp) hc b (by omega);have h:=RC (next:=next) ih.len ih.le ih.cols (hc b (by omega));unfold Cp OK;refine⟨?_,h.2.1,?_,h.2.2.1,?_⟩
   ·simp only [AaM];exact h.1
   ·simp [ih.cell]
   ·intro p hp;simp only [AaC,Aa9]at hp;rcases hp with hp | rfl
    ·exact AbA (ih.places p hp) h.2.2.2.2
    ·exact h.2.2.2.1
end Go.Proofs.YtfbghcpdinlmcaaGreatDoor
namespace Go.VC
structure MapT(P:Program)(t kt et:TypeId)(d:TypeDesc)(z:Value):Prop where
 under:P.underlying t=some (.map kt et)
 key:P.underlying kt=some d
 zero:(P.info? et).bind (·.zero)=some z
structure Xo(d:TypeDesc){α:Type}(enc:α→Value):Prop where
 isKey:∀a,Go.MapKept.IsKey d (enc a)
 inj:∀a b,enc a=enc b→a=b
theorem keyS:Xo .string Value.string:=⟨fun _=>trivial,fun a b h=>by cases h;rfl⟩
theorem ZK(k:IntKind):Xo (.int k) (Value.int k):=⟨fun _=>rfl,fun a b h=>by cases h;rfl⟩
def NS{α:Type}(enc:α→Value)(H:Aa)(b:Nat)(m:α→Option Value):Prop:=
 ∃es clock,H[b]? =some (.map es clock)∧Go.MapKept.Stamped es clock∧(∀(i:Nat) (x:MapEntry),es[i]? =some x→∃a,x.key=enc a∧m a=some x.val)∧
  ∀a v,m a=some v→∃(i:Nat) (x:MapEntry),es[i]? =some x∧x.key=enc a∧x.val=v
theorem NS.agr{α:Type}{enc:α→Value}{H H':Aa}{b:Nat}{m:α→Option Value}{S:Nat→Prop}(h:NS enc H b m)(k:Agr S H H')(hb:S b):NS enc H' b m:=by
 obtain⟨es,clock,h1,h2⟩:=h;exact⟨es,clock,(k b hb).trans h1,h2⟩
def Tx{α:Type}(enc:α→Value)(H:Aa)(b:Nat)(a:α)(s:Nat):Prop:=
 ∃es clock,H[b]? =some (.map es clock)∧∀(i:Nat) (x:MapEntry),es[i]? =some x→(x.born=s↔x.key=enc a)
open Classical in
noncomputable def put{α:Type}(m:α→Option Value)(a:α)(v:Option Value):α→Option Value:=fun b=>if b=a then v else m b
theorem Hp{α:Type}(m:α→Option Value)(a:α)(v:Option Value):put m a v a=v:=if_pos rfl
theorem JJ{α:Type}{m:α→Option Value}{a b:α}{v:Option Value}(h:b≠a):put m a v b=m b:=if_neg h
section
variable{α:Type}{enc:α→Value}{P:Program}{t kt et:TypeId}{d:TypeDesc}{z:Value}{S:Nat→Prop}{H:Aa}{b:Nat}{m:α→Option Value}{a:α}
theorem E6{es:Array MapEntry}{clock:Nat}(h:Go.MapKept.Stamped es clock){i j:Nat}{x y:MapEntry}(hx:es[i]? =some x)(hy:es[j]? =some y)(e:x.key=y.key):i=j:=by
 have hn:=h.2.2;have hx':(es.toList.map (·.key))[i]? =some x.key:=by simp [hx]
 have hy':(es.toList.map (·.key))[j]? =some x.key:=by simp [hy,e]
 exact(AbW (Aa0.1 hx').1 hn).1 (hx'.trans hy'.symm)
theorem Jp{es:Array MapEntry}{clock:Nat}(h:Go.MapKept.Stamped es clock){i j:Nat}{x y:MapEntry}(hx:es[i]? =some x)(hy:es[j]? =some y)(e:x.born=y.born):i=j:=by
 have hn:=h.2.1;have hx':(es.toList.map (·.born))[i]? =some x.born:=by simp [hx]
 have hy':(es.toList.map (·.born))[j]? =some x.born:=by simp [hy,e]
 exact(AbW (Aa0.1 hx').1 hn).1 (hx'.trans hy'.symm)
theorem P5(hz:(P.info? et).bind (·.zero)=some z)(w:World):(zeroValue et).run P w= .ok z w:=by
 cases hi:P.info? et with
 | none=>rw [hi]at hz;cases hz
 | some i=>
   have hz':i.zero=some z:=by simpa [hi]using hz
   simp [zeroValue,typeInfo,hi,hz']
abbrev Va(w:World)(b:Nat)(o:Obj):World:={w with heap:=w.heap.setIfInBounds b o}
theorem Pl{w:World}{o o':Obj}(h:w.heap[b]? =some o):(Va w b o').heap[b]? =some o'∧Agr (fun k=>k≠b) w.heap (Va w b o').heap∧(Va w b o').heap.size=w.heap.size:=
 ⟨(Go.MapKept.heap_set h).1,fun k hk=>(Go.MapKept.heap_set h).2 k hk,by simp⟩
theorem UP{es:Array MapEntry}{clock:Nat}(hs:Go.MapKept.Stamped es clock)(h3:∀(i:Nat) (x:MapEntry),es[i]? =some x→∃a,x.key=enc a∧m a=some x.val)(h4:∀a v,m a=some v→∃(i:Nat) (x:MapEntry),es[i]? =some x∧x.key=enc a∧x.val=v)(hne:∀x∈es.toList,x.key≠enc a){H':Aa}{v:Value}
  (hb:H'[b]? =some (.map (es.push ⟨enc a,v,clock⟩) (clock+1))):NS enc H' b (put m a (some v))∧Tx enc H' b a clock:=by
 have hgt:∀i x,(es.push ⟨enc a,v,clock⟩)[i]? =some x→(i<es.size∧es[i]? =some x)∨(i=es.size∧x=⟨enc a,v,clock⟩):=by
  intro i x hx;rw [Ab8]at hx;by_cases hi:i=es.size
  ·rw [if_pos hi]at hx;exact .inr ⟨hi,by cases hx;rfl⟩
  ·rw [if_neg hi]at hx;exact .inl ⟨(Aa7.1 hx).1,hx⟩
 refine⟨⟨_,_,hb,Go.MapKept.stamped_push hs hne,fun i x hx=>?_,fun a' v' hv=>?_⟩,_,_,hb,fun i x hx=>?_⟩
 ·rcases hgt i x hx with⟨_,hx⟩ | ⟨_,rfl⟩
  ·obtain⟨a',e1,e2⟩:=h3 i x hx;have:a'≠a:=fun h=>hne x (Aa3 (by simpa using hx)) (by rw [e1,h]);exact⟨a',e1,by rw [JJ this];exact e2⟩
  ·exact⟨a,rfl,Hp _ _ _⟩
 ·by_cases ha:a'=a
  ·subst ha;rw [Hp]at hv;cases hv;exact⟨es.size,⟨enc a',v,clock⟩,by simp,rfl,rfl⟩
  ·rw [JJ ha]at hv;obtain⟨i,x,hx,e⟩:=h4 a' v' hv;exact⟨i,x,by rw [Ab8,if_neg (by have:=(Aa7.1 hx).1;omega)];exact hx,e⟩
 ·rcases hgt i x hx with⟨_,hx⟩ | ⟨_,rfl⟩
  ·have hmem:x∈es.toList:=Aa3 (by simpa using hx);have:=hs.1 x hmem;exact⟨fun h=>by omega,fun h=>absurd h (hne x hmem)⟩
  ·simp
theorem YW{K:Value→Aa→Prop}(k:∀b H',b=H.size→H'.size=b+1→NS enc H' b (fun _=>none)→Agr (fun k=>k<b) H H'→K (.map (some b)) H'):By P (Instr.makeMap t none) H K:=by
 refine By.mk fun w hw=>?_;subst hw;exact⟨_,w.alloc (.map #[] 0),by simp [Instr.makeMap],⟨rfl,rfl,rfl⟩,k w.heap.size _ rfl (by rw [Fd];simp) ⟨#[],0,by rw [Fd];simp,Go.MapKept.stamped_empty 0,by simp,by simp⟩ (Et _ _)⟩
end
section
variable{α:Type}{enc:α→Value}{b:Nat}{m m':α→Option Value}{B:Nat→Prop}{H0 H H':Aa}{ps:List Pc}
end
def W9{α:Type}(m:α→Option Value)(a:α):Value:=(m a).getD (.slice none 0 0)
structure Qs{α β:Type}(enc:α→Value)(T:Ty β)(H:Aa)(lo:Nat)(e:TypeId)(mb:Nat)(m:α→Option Value)(xs:α→List β):Prop where
 map:NS enc H mb m
 lt:mb<lo
 own:∀k,SlO T (fun _=>False) H lo e (W9 m k) (xs k)
 apart:∀k k' b,k≠k'→slB (W9 m k) b→¬slB (W9 m k') b
section
variable{α β:Type}{enc:α→Value}{T:Ty β}{H H1 H2:Aa}{lo mb:Nat}{e:TypeId}{m:α→Option Value}{xs:α→List β}{S':Nat→Prop}
end
section
variable{α:Type}{T:Ty α}{S S':Nat→Prop}{H H':Aa}{e:TypeId}{v:Value}{xs:List α}
end
section
variable{α:Type}{T:Ty α}{e:TypeId}{a:Option Addr}{n cap:Nat}{xs:List α}{B:Nat→Prop}{H0 H H':Aa}{ps:List Pc}
end
theorem vb2s{P:Program}{s d e b o n cap:Nat}{H:Aa}{K:Value→Aa→Prop}(bs:List Nat)(hs:P.underlying s=some (.slice e))(he:P.underlying e=some (.int .u8))(hd:P.underlying d=some .string)
  (hc:∀(j x:Nat),bs[j]? =some x→cell H b (o+j)=some (.int .u8 (x:Int))) (hn:n=bs.length) (k:K (.string ⟨(bs.map UInt8.ofNat).toArray⟩) H):By P (convert s d (.slice (some ⟨b,o,none⟩) n cap)) H K:=by
 subst hn;refine By.mk fun w hw=>?_;subst hw;have:=run_convert_bytes_arg (P:=P) w s e hs he b o bs.length cap (bs.map fun(n:Nat)=>(n:Int)) (by simp) (fun i hi=>by
  rw [Gl,hc i bs[i] (Aa1 hi)];simp [List.getD,hi]) d hd
 have e1:strOfNums (bs.map fun(n:Nat)=>(n:Int))=⟨(bs.map UInt8.ofNat).toArray⟩:=by
  unfold strOfNums;rw [List.map_map]
  congr 2
 rw [e1]at this;exact⟨_,w,this,Env.refl w,k⟩
theorem Zq{P:Program}{s d e n cap:Nat}{H:Aa}{K:Value→Aa→Prop}(hs:P.underlying s=some (.slice e))(he:P.underlying e=some (.int .u8))(hd:P.underlying d=some .string)
  (k:K (.string ⟨#[]⟩) H):By P (convert s d (.slice none n cap)) H K:=by
 refine By.mk fun w hw=>?_;subst hw;exact⟨_,w,run_convert_bytes_nil (P:=P) w s e hs he n cap d hd,Env.refl w,k⟩
def I4(ops:Array Oper):Nat→Nat→Nat→Bool
 | 0,_,_=>false
 | f+1,j,i=>match ops[j]? with
   | none=>false
   | some o=>o.after.toList.any fun e=>Region.binds .any e&&(Nat.beq e.on i|| I4 ops f e.on i)
def HY(ops:Array Oper)(listed:Array Bool):Prop:=
 ∀(j:Nat) (o:Oper),ops[j]? =some o→listed.getD j false=true→∀e∈o.after,Region.binds .any e=true→listed.getD e.on false=true
theorem HY.chain{ops:Array Oper}{listed:Array Bool}(h:HY ops listed){i:Nat}:∀(f j:Nat),I4 ops f j i=true→(∀(o:Oper),ops[j]? =some o→∀e∈o.after,Region.binds .any e=true→listed.getD e.on false=true)→listed.getD i false=true
 | 0,_,hn,_=>by simp [I4]at hn
 | f+1,j,hn,hd=>by
   unfold I4 at hn;split at hn
   ·cases hn
   ·rename_i o ho;obtain⟨e,he,hb⟩:=AbZ.1 hn;simp only [AaD,AaN]at hb;have hl:=hd o ho e (by simpa using he) hb.1;rcases hb.2 with h1 | h1
    ·rw [←Nat.eq_of_beq_eq_true h1];exact hl
    ·exact h.chain f e.on h1 fun o' ho' e' he' hb'=>h e.on o' ho' hl e' he' hb'
theorem HY.not_ready{ops:Array Oper}{listed:Array Bool}(h:HY ops listed){i j f:Nat}(hn:I4 ops f j i=true)(hi:listed.getD i false=false):j∉Region.ready .any ops listed:=by
 intro hj;obtain⟨_,o,ho,hall⟩:=mem_ready.1 hj;have:=h.chain f j hn fun o' ho' e he hb=>by rw [ho]at ho';cases ho';exact hall e he hb
 rw [hi]at this;cases this
theorem Uq{l:Array Bool}{i k:Nat}(h:(l.setIfInBounds i true).getD k false=true):k=i∨l.getD k false=true:=by
 by_cases hk:k=i
 ·exact .inl hk
 ·rw [getD_set_ne false (Ne.symm hk)]at h;exact .inr h
theorem HY.put{ops:Array Oper}{listed:Array Bool}(h:HY ops listed){j:Nat}(hj:j∈Region.ready .any ops listed):HY ops (listed.setIfInBounds j true):=by
 intro k o ho hk e he hb;rcases Uq hk with rfl | hk
 ·obtain⟨_,o',ho',hall⟩:=mem_ready.1 hj;rw [ho]at ho';cases ho';exact getD_set_true (hall e he hb)
 ·exact getD_set_true (h k o ho hk e he hb)
def IB(P:Program)(ops:Array Oper)(Q:Exit→Act→World→Prop)(S:World→Prop)(Z:List Nat):Nat→Array Bool→Act→World→Prop
 | 0,listed,a,w=>Region.ready .any ops listed=[]∧Q .normal a w
 | fuel+1,listed,a,w=>
   (Region.ready .any ops listed=[]→Q .normal a w)∧
   ∀i∈Region.ready .any ops listed,wpOp P ops Q i (fun a' w'=>(Z.contains i=false→S w')∧IB P ops Q S Z fuel (listed.setIfInBounds i true) a' w') a w
theorem GG{P:Program}{ops:Array Oper}{Q:Exit→Act→World→Prop}{S:World→Prop}{Z:List Nat}:∀(fuel:Nat) (listed:Array Bool) (a:Act) (w:World),
  IB P ops Q S Z fuel listed a w→wpAny P .any ops Q fuel listed a w
 | 0,_,_,_,h=>h
 | fuel+1,_,_,_,h=>⟨h.1,fun i hi=>wpOp_mono (fun a' w' h'=>GG fuel _ a' w' h'.2) (h.2 i hi)⟩
theorem EV{P:Program}{ops:Array Oper}{Q:Exit→Act→World→Prop}{S:World→Prop}{Z:List Nat}{i f:Nat}{oi:Oper}{v:Value}(hi:ops[i]? =some oi)
  (hsel:∀(j:Nat) (o:Oper) cs b,ops[j]? =some o→o.op≠ .select cs b)
  (hQ:∀c a w,Q (.panic c) (a.put oi.dst v) w→Q (.panic c) a w) (hiz:Z.contains i=false) (hz:∀j,Z.contains j=true→I4 ops f j i=true):
  ∀(fuel:Nat) (listed:Array Bool) (a:Act) (w:World),HY ops listed→
   (∀j oj,ops[j]? =some oj→j≠i→listed.getD j true=false→(∀e∈oj.after,Region.binds .any e=true→e.on≠i)→oi.apart ops oj=true)→
   i∈Region.ready .any ops listed→YieldsIf P ops S oi v a→S w→
   IB P ops Q S Z fuel (listed.setIfInBounds i true) (a.put oi.dst v) w→IB P ops Q S Z (fuel+1) listed a w:=by
 intro fuel
 induction fuel with
 | zero=>
   intro listed a w _ _ hr hy hS H;refine⟨fun h=>(by rw [h]at hr;cases hr),fun j hj=>?_⟩;by_cases hji:j=i
   ·subst hji;exact hy.wpOp hi hS ⟨fun _=>hS,H⟩
   ·have:=ready_mono hj hji;rw [H.1]at this;cases this
 | succ fuel ih=>
   intro listed a w hsh hfree hr hy hS H;refine⟨fun h=>(by rw [h]at hr;cases hr),fun j hj=>?_⟩;by_cases hji:j=i
   ·subst hji;exact hy.wpOp hi hS ⟨fun _=>hS,H⟩
   ·have h1:=H.2 j (ready_mono hj hji);obtain⟨hjun,oj,hoj,hall⟩:=mem_ready.1 hj;have hun:listed.getD i false=false:=by
     have h0:=(mem_ready.1 hr).1;rcases Nat.lt_or_ge i listed.size with h' | h'
     ·simp [h']at h0 ⊢;exact h0
     ·simp [Array.getElem?_eq_none h']at h0
    have hnot:∀e∈oj.after,Region.binds .any e=true→e.on≠i:=fun e he hb heq=>by
     have h1:=hall e he hb;rw [heq,hun]at h1;cases h1
    have hjz:Z.contains j=false:=by
     cases hc:Z.contains j with
     | false=>rfl
     | true=>exact absurd hj (hsh.not_ready (hz j hc) hun)
    have h2:=wpOp_putIf hoj (hfree j oj hoj hji hjun hnot) (fun cs b=>hsel i oi cs b hi) (fun cs b=>hsel j oj cs b hoj) hQ hy h1;have hfree':∀k ok,ops[k]? =some ok→k≠i→(listed.setIfInBounds j true).getD k true=false→
      (∀e∈ok.after,Region.binds .any e=true→e.on≠i)→oi.apart ops ok=true:=fun k ok hk hki hun hno=>by
     refine hfree k ok hk hki ?_ hno;by_cases hjk:j=k
     ·subst hjk;exact hjun
     ·rw [getD_set_ne true hjk]at hun;exact hun
    refine wpOp_mono (fun a' w' h3=>⟨fun _=>h3.2.1 hjz,ih (listed.setIfInBounds j true) a' w' (hsh.put hj) hfree' (ready_mono hr (Ne.symm hji)) h3.1 (h3.2.1 hjz) ?_⟩) h2;rw [Array.setIfInBounds_comm _ _ hji];exact h3.2.2
def Px(P:Program)(S:Nat→Prop)(Z:List Nat)(H0:Aa)(all:List Oper)(i:Nat)(fr:Fr)(H:Aa)(next:Fr→Aa→Prop):Prop:=
 match all[i]? with
 | none=>False
 | some o=>match o.guard with
   | some _=>False
   | none=>match Z.contains i with
     | true=>opK P false (fun _=>True) o fr H fun v H'=>C5 o.dst fr v fun fr'=>next fr' H'
     | false=>opK P false (fun _=>True) o fr H fun v H'=>Agr S H0 H'∧C5 o.dst fr v fun fr'=>next fr' H'
def heldZ(P:Program)(S:Nat→Prop)(Z:List Nat)(H0:Aa)(all:List Oper)(s:Sch):Fr→Aa→(Fr→Aa→Prop)→Prop:=
 Sch.rec (motive:=fun _=>Fr→Aa→(Fr→Aa→Prop)→Prop) (fun fr H K=>K fr H)
  (fun i _ ih fr H K=>match all[i]? with
   | none=>False
   | some o=>match o.guard with
     | some _=>False
     | none=>match JY o&&F4 P o with
       | true=>Ma P S o fr H fun v=>C5 o.dst fr v fun fr'=>ih fr' H K
       | false=>False)
  (fun i _ ih fr H K=>Px P S Z H0 all i fr H fun fr' H'=>ih fr' H' K)
  (fun i _ j _ ih ih' fr H K=>(Px P S Z H0 all i fr H fun fr' H'=>ih fr' H' K)∧Px P S Z H0 all j fr H fun fr' H'=>ih' fr' H' K) s
theorem Wi(P:Program)(S:Nat→Prop)(Z:List Nat)(H0:Aa)(all:List Oper)(i:Nat)(s:Sch)(fr:Fr)(H:Aa)(K:Fr→Aa→Prop):heldZ P S Z H0 all (.q i s) fr H K=
  (match all[i]? with
   | none=>False
   | some o=>match o.guard with
     | some _=>False
     | none=>match JY o&&F4 P o with
       | true=>Ma P S o fr H fun v=>C5 o.dst fr v fun fr'=>heldZ P S Z H0 all s fr' H K
       | false=>False):=rfl
def XD:Sch→Bool
 | .e=>false
 | .q _ _=>true
 | .f _ s=>XD s
 | .b _ s _ s'=>XD s|| XD s'
def P3(Z:List Nat):Sch→Bool
 | .e=>true
 | .q _ _=>false
 | .f i s=>Z.contains i&&P3 Z s
 | .b i s j s'=>Z.contains i&&Z.contains j&&P3 Z s&&P3 Z s'
def Dv(ops:Array Oper)(Z:List Nat):Sch→Array Bool→Bool
 | .e,listed=>(Region.ready .any ops listed).isEmpty
 | .q i s,listed=>(Region.ready .any ops listed).contains i&&Region.free .any ops listed i&& !(Z.contains i)&&(Z.all fun z=>I4 ops ops.size z i)&&Dv ops Z s (listed.setIfInBounds i true)
 | .f i s,listed=>Region.ready .any ops listed==[i]&&(!(Z.contains i)|| P3 Z s)&&Dv ops Z s (listed.setIfInBounds i true)
 | .b i s j s',listed=>Region.ready .any ops listed==[i,j]&&((!(Z.contains i)&& !(Z.contains j))|| (P3 Z s&&P3 Z s'))&&Dv ops Z s (listed.setIfInBounds i true)&&Dv ops Z s' (listed.setIfInBounds j true)
theorem Hx{P:Program}{S:Nat→Prop}{Z:List Nat}{w0:World}{all:List Oper}{Q:Exit→Act→World→Prop}{i:Nat}{fr:Fr}{a:Act}{w:World}{next:Fr→Aa→Prop}{N:Act→World→Prop}
  (hat:At fr a) (hc:Env w0 w) (h:Px P S Z w0.heap all i fr w.heap next)
  (hn:∀fr' a' w',At fr' a'→Env w0 w'→(Z.contains i=false→Cls w0 S w')→next fr' w'.heap→N a' w'):wpOp P all.toArray Q i N a w:=by
 unfold Px at h;split at h
 ·exact h.elim
 ·rename_i o ho;have ho':all.toArray[i]? =some o:=by simpa using ho
  split at h
  ·exact h.elim
  ·rename_i hg;have hwant:Region.wanted o (yielded all.toArray a.tmps)=true:=by simp [Region.wanted,hg]
   unfold wpOp;rw [ho'];dsimp only;rw [if_pos hwant];split at h
   ·rename_i hz;refine .inl (Oper.wp_mono ?_ (CR hat h _));rintro a' w' ⟨v,rfl,henv,hk⟩;rw [BR]at hk;exact hn _ _ _ (hat.put o.dst v) (hc.trans henv) (fun hne=>by rw [hz]at hne;cases hne) hk
   ·refine .inl (Oper.wp_mono ?_ (CR hat h _));rintro a' w' ⟨v,rfl,henv,hagr,hk⟩;rw [BR]at hk;exact hn _ _ _ (hat.put o.dst v) (hc.trans henv) (fun _=>⟨hc.trans henv,hagr⟩) hk
theorem E1{P:Program}{S:Nat→Prop}{Z:List Nat}{w0:World}{all:List Oper}{Q:Exit→Act→World→Prop}(hs:Region.noSelect all.toArray=true)
  (hp:∀c a w,¬Q (.panic c) a w):∀(l:Sch) (listed:Array Bool) (fr:Fr) (a:Act) (w:World) (K:Fr→Aa→Prop),At fr a→Env w0 w→(P3 Z l=false→Cls w0 S w)→HY all.toArray listed→
  (∀fr' a' w',At fr' a'→Env w0 w'→K fr' w'.heap→Q .normal a' w')→Dv all.toArray Z l listed=true→l.even=true→
  heldZ P S Z w0.heap all l fr w.heap K→IB P all.toArray Q (Cls w0 S) Z l.len listed a w
 | .e,listed,fr,a,w,K,hat,he,_,_,hq,hB,_,h=>⟨by simpa [Dv]using hB,hq fr a w hat he h⟩
 | .q i s,listed,fr,a,w,K,hat,he,hc,hsh,hq,hB,hev,h=>by
   have hc:=hc rfl;simp only [Dv,AaD,AaX,Ac0]at hB;obtain⟨⟨⟨⟨b1,b2⟩,b3⟩,b4⟩,hB2⟩:=hB;rw [Wi]at h;split at h
   ·exact h.elim
   ·rename_i o ho;have ho':all.toArray[i]? =some o:=by simpa using ho
    have hri:i∈Region.ready .any all.toArray listed:=by simpa using b1
    split at h
    ·exact h.elim
    ·rename_i hg;have hwant:Region.wanted o (yielded all.toArray a.tmps)=true:=by simp [Region.wanted,hg]
     split at h
     ·obtain⟨v,hv,hk⟩:=Ei h;rw [BR]at hk;refine EV (v:=v) (f:=all.toArray.size) ho' (Region.noSelect_spec hs) (fun c a' w' hh=>(hp _ _ _ hh).elim) b3 (fun j hj=>b4 j (by simpa using hj)) s.len listed a w hsh (Region.free_spec ho' b2) hri
       (.inl ⟨hwant,fun w' hw'=>?_⟩) hc ?_
      ·rw [hat.evalF];exact hv w' fun k hk=>(hw'.2 k hk).trans (hc.2 k hk).symm
      ·exact E1 hs hp s _ _ _ w K (hat.put o.dst v) he (fun _=>hc) (hsh.put hri) hq hB2 hev hk
     ·exact h.elim
 | .f i s,listed,fr,a,w,K,hat,he,hc,hsh,hq,hB,hev,h=>by
   simp only [Dv,AaD,AaN,AaX,beq_iff_eq]at hB;obtain⟨⟨b1,b2⟩,hB2⟩:=hB;refine⟨(fun h0=>by rw [b1]at h0;cases h0),fun j hj=>?_⟩;have hj0:=hj;rw [b1]at hj;obtain rfl:j=i:=by simpa using hj
   refine Hx hat he h fun fr' a' w' h1 h2 h3 h4=>⟨h3,E1 hs hp s _ _ _ w' K h1 h2 (fun hz=>?_) (hsh.put hj0) hq hB2 hev h4⟩;rcases b2 with b2 | b2
   ·exact h3 b2
   ·rw [b2]at hz;cases hz
 | .b i s j s',listed,fr,a,w,K,hat,he,hc,hsh,hq,hB,hev,h=>by
   simp only [Dv,AaD,AaN,AaX,beq_iff_eq]at hB;obtain⟨⟨⟨b1,b2⟩,hB2⟩,hB3⟩:=hB;simp only [Sch.even,AaD,beq_iff_eq]at hev;obtain⟨⟨e1,e2⟩,e3⟩:=hev;refine⟨(fun h0=>by rw [b1]at h0;cases h0),fun k hk=>?_⟩;have hk0:=hk;rw [b1]at hk;rcases AcA.1 hk with rfl | hk
   ·refine Hx hat he h.1 fun fr' a' w' h1 h2 h3 h4=>⟨h3,E1 hs hp s _ _ _ w' K h1 h2 (fun hz=>?_) (hsh.put hk0) hq hB2 e1 h4⟩;rcases b2 with b2 | b2
    ·exact h3 b2.1
    ·rw [b2.1]at hz;cases hz
   ·obtain rfl:k=j:=by simpa using hk
    rw [e3];refine Hx hat he h.2 fun fr' a' w' h1 h2 h3 h4=>⟨h3,E1 hs hp s' _ _ _ w' K h1 h2 (fun hz=>?_) (hsh.put hk0) hq hB3 e2 h4⟩;rcases b2 with b2 | b2
    ·exact h3 b2.2
    ·rw [b2.2]at hz;cases hz
theorem Ar.heldZ{P:Program}{l:List Oper}{fr:Fr}{H:Aa}{K:Fr→Aa→Prop}(S:Nat→Prop)(Z:List Nat)(sched:Sch)(hm:P.follows .mixedOrders=true)
  (hB:(Region.noSelect l.toArray&&(sched.len==l.length)&&sched.even&&Dv l.toArray Z sched (AbG l.length false))=true)
  (h:VC.heldZ P S Z H l sched fr H K):Ar P l fr H K:=by
 refine⟨?_⟩;intro id Q a w hat hw hp hq;subst hw;simp only [AaD,beq_iff_eq]at hB;refine wp_region_any hm (GG (S:=Cls w S) (Z:=Z) _ _ _ _ ?_);have hsh:HY l.toArray (AbG l.length false):=fun j o _ hj=>by
  rw [Array.getD_eq_getD_getElem?,Array.getElem?_replicate]at hj;split at hj<;>simp at hj
 have:=E1 (P:=P) (S:=S) (Z:=Z) (w0:=w) (Q:=Q) hB.1.1.1 hp sched (AbG l.length false) fr a {w with drawn:=w.drawn+1} K hat ⟨rfl,rfl,rfl⟩ (fun _=>⟨⟨rfl,rfl,rfl⟩,Agr.refl _ _⟩) hsh hq hB.2 hB.1.2 h;rw [hB.1.1.2]at this;simpa using this
section
variable{α:Type}{T:Ty α}{B:Nat→Prop}{H0 H H1:Aa}{ps:List Pc}{e te:TypeId}{nb:Nat}{vs:List Value}{xs:List (List α)}
end
structure IE(P:Program)(t kt et:TypeId)(z:Value):Prop where
 under:P.underlying t=some (.map kt et)
 zero:(P.info? et).bind (·.zero)=some z
structure KR(P:Program)(kt:TypeId){α:Type}(Ok:α→Prop)(enc:α→Value):Prop where
 inj:∀a b,enc a=enc b→a=b
 check:∀(w:World) (em:Bool) (a:α),Ok a→(Instr.checkKey em 10000 kt (enc a)).run P w= .ok () w
 find:∀(w:World) (a:α),Ok a→∀es:List MapEntry,(∀e∈es,∃b,Ok b∧e.key=enc b)→
  ((Instr.findKey kt (enc a) es).run P w= .ok none w∧∀e∈es,e.key≠enc a)∨∃j e,(Instr.findKey kt (enc a) es).run P w= .ok (some (j,e.val)) w∧es[j]? =some e∧e.key=enc a
 stays:∀(w:World) (a:α),Ok a→(Instr.keyThatStays (enc a) (enc a)).run P w= .ok (enc a) w
def IF{α:Type}(Ok:α→Prop)(enc:α→Value)(H:Aa)(b:Nat)(m:α→Option Value):Prop:=NS enc H b m∧∀a v,m a=some v→Ok a
def Y1{α:Type}(Ok:α→Prop)(enc:α→Value)(H:Aa)(K:Aa→Prop)(b:Nat)(m:α→Option Value):Prop:=
 ∀H',IF Ok enc H' b m→Agr (fun k=>k≠b) H H'→H'.size=H.size→K H'
section
variable{α:Type}{Ok:α→Prop}{enc:α→Value}{P:Program}{t kt et:TypeId}{z:Value}{S:Nat→Prop}{H:Aa}{b:Nat}{m:α→Option Value}{a:α}
theorem IF.agr{H':Aa}(h:IF Ok enc H b m)(k:Agr S H H')(hb:S b):IF Ok enc H' b m:=⟨h.1.agr k hb,h.2⟩
theorem UQ(h:∀a v,m a=some v→Ok a)(ha:Ok a)(v:Value):∀b u,put m a (some v) b=some u→Ok b:=fun b u hb=>by
 by_cases hba:b=a
 ·rw [hba];exact ha
 ·rw [JJ hba]at hb;exact h b u hb
theorem Iw(hk:KR P kt Ok enc)(ha:Ok a)(hok:∀a v,m a=some v→Ok a){es:Array MapEntry}(hes:∀(i:Nat) (x:MapEntry),es[i]? =some x→∃a,x.key=enc a∧m a=some x.val)(hm:∀a v,m a=some v→∃(i:Nat) (x:MapEntry),es[i]? =some x∧x.key=enc a∧x.val=v)(w:World):
  ((Instr.findKey kt (enc a) es.toList).run P w= .ok none w∧m a=none∧∀x∈es.toList,x.key≠enc a)∨∃j e,(Instr.findKey kt (enc a) es.toList).run P w= .ok (some (j,e.val)) w∧es[j]? =some e∧e.key=enc a∧m a=some e.val:=by
 have hall:∀x∈es.toList,∃b,Ok b∧x.key=enc b:=fun x hx=>by
  obtain⟨i,hi⟩:=AaG hx;obtain⟨b,e1,e2⟩:=hes i x (by simpa using hi);exact⟨b,hok b _ e2,e1⟩
 rcases hk.find w a ha es.toList hall with⟨h1,h2⟩ | ⟨j,e,h1,h2,h3⟩
 ·refine .inl ⟨h1,?_,h2⟩;cases hma:m a with
  | none=>rfl
  | some v=>
    obtain⟨i,x,hx,he,_⟩:=hm a v hma;exact absurd he (h2 x (Aa3 (by simpa using hx)))
 ·have hj:es[j]? =some e:=by simpa using h2
  refine .inr ⟨j,e,h1,hj,h3,?_⟩;obtain⟨a',e1,e2⟩:=hes j e hj;rw [hk.inj a a' (h3.symm.trans e1)];exact e2
theorem XH(ht:IE P t kt et z)(hk:KR P kt Ok enc)(ha:Ok a)(h:IF Ok enc H b m)(hb:S b){K:Value→Prop}(k:K ((m a).getD z)):AH P (Instr.lookup t (.map (some b)) (enc a) false) S H K:=by
 obtain⟨⟨es,clock,h1,h2,h3,h4⟩,hok⟩:=h;refine AH.mk _ (fun w hw=>?_) k;have hb':=(hw b hb).trans h1;rcases Iw hk ha hok h3 h4 w with⟨e1,e2,e3⟩ | ⟨j,e,e1,e2,e3,e4⟩
 ·simp [Instr.lookup,run_underlying ht.under,Go.MapKept.run_getObj_map hb',hk.check w _ a ha,e1,P5 ht.zero,e2]
 ·simp [Instr.lookup,run_underlying ht.under,Go.MapKept.run_getObj_map hb',hk.check w _ a ha,e1,e4]
theorem U6(ht:IE P t kt et z)(hk:KR P kt Ok enc)(ha:Ok a)(h:IF Ok enc H b m)(hb:S b){K:Value→Prop}(k:K (.tuple #[(m a).getD z,.bool (m a).isSome])):AH P (Instr.lookup t (.map (some b)) (enc a) true) S H K:=by
 obtain⟨⟨es,clock,h1,h2,h3,h4⟩,hok⟩:=h;refine AH.mk _ (fun w hw=>?_) k;have hb':=(hw b hb).trans h1;rcases Iw hk ha hok h3 h4 w with⟨e1,e2,e3⟩ | ⟨j,e,e1,e2,e3,e4⟩
 ·simp [Instr.lookup,run_underlying ht.under,Go.MapKept.run_getObj_map hb',hk.check w _ a ha,e1,P5 ht.zero,e2]
 ·simp [Instr.lookup,run_underlying ht.under,Go.MapKept.run_getObj_map hb',hk.check w _ a ha,e1,e4]
theorem OP(hinj:∀a b,enc a=enc b→a=b){es:Array MapEntry}{clock:Nat}(hs:Go.MapKept.Stamped es clock)(h3:∀(i:Nat) (x:MapEntry),es[i]? =some x→∃a,x.key=enc a∧m a=some x.val)(h4:∀a v,m a=some v→∃(i:Nat) (x:MapEntry),es[i]? =some x∧x.key=enc a∧x.val=v){j:Nat}{e:MapEntry}(hj:es[j]? =some e)(he:e.key=enc a){f:MapEntry→MapEntry}{v:Value}
  (hf1:(f e).key=enc a) (hf2:(f e).val=v) (hf3:∀x,(f x).born=x.born) {H':Aa}
  (hb:H'[b]? =some (.map (es.modify j f) clock)):NS enc H' b (put m a (some v))∧Tx enc H' b a e.born:=by
 have hgt:∀i x,(es.modify j f)[i]? =some x→(i≠j∧es[i]? =some x)∨(i=j∧x=f e):=by
  intro i x hx;rw [Ab2]at hx;by_cases hi:j=i
  ·subst hi;rw [if_pos rfl,hj]at hx;exact .inr ⟨rfl,by cases hx;rfl⟩
  ·rw [if_neg hi]at hx;exact .inl ⟨Ne.symm hi,hx⟩
 refine⟨⟨_,_,hb,Go.MapKept.stamped_modify hs _ _ (fun x _=>hf3 x) (fun x _ hx=>?_),fun i x hx=>?_,fun a' v' hv=>?_⟩,_,_,hb,fun i x hx=>?_⟩
 ·rw [hj]at hx;cases hx;rw [hf1,he]
 ·rcases hgt i x hx with⟨hne,hx⟩ | ⟨_,rfl⟩
  ·obtain⟨a',e1,e2⟩:=h3 i x hx;have:a'≠a:=fun h=>hne (E6 hs hx hj (by rw [e1,h,he]));exact⟨a',e1,by rw [JJ this];exact e2⟩
  ·exact⟨a,hf1,by rw [Hp,hf2]⟩
 ·by_cases ha:a'=a
  ·subst ha;rw [Hp]at hv;cases hv;exact⟨j,f e,by rw [Ab2,if_pos rfl,hj];rfl,hf1,hf2⟩
  ·rw [JJ ha]at hv;obtain⟨i,x,hx,e1,e2⟩:=h4 a' v' hv;refine⟨i,x,?_,e1,e2⟩;rw [Ab2,if_neg ?_]
   ·exact hx
   ·rintro rfl;rw [hj]at hx;cases hx;exact ha (hinj _ _ (e1.symm.trans he))
 ·rcases hgt i x hx with⟨hne,hx⟩ | ⟨_,rfl⟩
  ·exact⟨fun h=>absurd (Jp hs hx hj h) hne,fun h=>absurd (E6 hs hx hj (h.trans he.symm)) hne⟩
  ·exact⟨fun _=>hf1,fun _=>hf3 e⟩
theorem YY(ht:IE P t kt et z)(hk:KR P kt Ok enc)(ha:Ok a)(h:IF Ok enc H b m){v:Value}{K:Aa→Prop}(k:Y1 Ok enc H K b (put m a (some v))):C0 P (Instr.mapUpdate t (.map (some b)) (enc a) v) H K:=by
 obtain⟨⟨es,clock,h1,h2,h3,h4⟩,hok⟩:=h;refine C0.mk fun w hw=>?_;subst hw;rcases Iw hk ha hok h3 h4 w with⟨e1,e2,e3⟩ | ⟨j,e,e1,e2,e3,e4⟩
 ·obtain⟨t1,t2,t3⟩:=Pl (o':=.map (es.push ⟨enc a,v,clock⟩) (clock+1)) h1;exact⟨Va w b (.map (es.push ⟨enc a,v,clock⟩) (clock+1)),by simp [Instr.mapUpdate,run_underlying ht.under,Go.MapKept.run_getObj_map h1,hk.check w _ a ha,e1,Go.MapKept.run_setObj_map _ h1],⟨rfl,rfl,rfl⟩,k _ ⟨(UP h2 h3 h4 e3 t1).1,UQ hok ha v⟩ t2 t3⟩
 ·obtain⟨t1,t2,t3⟩:=Pl (o':=.map (es.modify j fun e=>{e with key:=enc a,val:=v}) clock) h1;exact⟨Va w b (.map (es.modify j fun e=>{e with key:=enc a,val:=v}) clock),by simp [Instr.mapUpdate,run_underlying ht.under,Go.MapKept.run_getObj_map h1,hk.check w _ a ha,e1,Go.MapKept.run_setObj_map _ h1,e2,e3,hk.stays w a ha],⟨rfl,rfl,rfl⟩,k _ ⟨(OP hk.inj h2 h3 h4 e2 e3 (f:=fun e=>{e with key:=enc a,val:=v}) rfl rfl (fun _=>rfl) t1).1,UQ hok ha v⟩ t2 t3⟩
theorem U7{K:Value→Aa→Prop}(k:∀b H',b=H.size→H'.size=b+1→IF Ok enc H' b (fun _=>none)→Agr (fun k=>k<b) H H'→K (.map (some b)) H'):By P (Instr.makeMap t none) H K:=
 YW fun b H' h1 h2 h3 h4=>k b H' h1 h2 ⟨h3,fun a v h=>by cases h⟩ h4
end
def ID{α:Type}(Ok:α→Prop)(enc:α→Value)(H:Aa)(b r:Nat)(m:α→Option Value)(D:α→Prop)(last:Option α)(n:Nat):Prop:=
 (∃es clock seen,H[b]? =some (.map es clock)∧Go.MapKept.Stamped es clock∧(∀(i:Nat) (x:MapEntry),es[i]? =some x→∃a,x.key=enc a∧m a=some x.val)∧
  (∀a v,m a=some v→∃(i:Nat) (x:MapEntry),es[i]? =some x∧x.key=enc a∧x.val=v)∧H[r]? =some (.mapIter (some b) clock seen clock)∧
  (∀(i:Nat) (x:MapEntry) (a:α),es[i]? =some x→x.key=enc a→(seen.contains x.born=true↔D a))∧n=(leftOf es seen).size∧
  ∀a,last=some a→∃(e:MapEntry) (s0:Array Nat),e∈es.toList∧e.key=enc a∧seen=s0.push e.born)∧(∀a v,m a=some v→Ok a)
section
variable{α:Type}{Ok:α→Prop}{enc:α→Value}{P:Program}{t kt et:TypeId}{z:Value}{S:Nat→Prop}{H:Aa}{b r n:Nat}{m:α→Option Value}{D:α→Prop}{last:Option α}
theorem ID.agr{H':Aa}(h:ID Ok enc H b r m D last n)(k:Agr S H H')(hb:S b)(hr:S r):ID Ok enc H' b r m D last n:=by
 obtain⟨⟨es,clock,seen,h1,h2,h3,h4,h5,h6⟩,h7⟩:=h;exact⟨⟨es,clock,seen,(k b hb).trans h1,h2,h3,h4,(k r hr).trans h5,h6⟩,h7⟩
theorem SF(es:Array MapEntry)(seen:Array Nat){e:MapEntry}(he:e∈(leftOf es seen).toList):(leftOf es (seen.push e.born)).size<(leftOf es seen).size:=by
 have h1:leftOf es (seen.push e.born)=(leftOf es seen).filter fun x=> !(x.born==e.born):=by
  unfold leftOf;rw [Array.filter_filter]
  congr 1
  funext x;rw [AbO];cases h1:seen.contains x.born<;>cases h2:x.born==e.born<;>simp_all
 have h2:((leftOf es seen).filter fun x=> !(x.born==e.born)).size=((leftOf es seen).toList.filter fun x=> !(x.born==e.born)).length:=by rw [←AbP,AaL]
 rw [h1,h2,←AaL];exact List.length_filter_lt_length_iff_exists.2 ⟨e,he,by simp⟩
theorem XJ(ht:IE P t kt et z)(h:IF Ok enc H b m){K:Value→Aa→Prop}
  (k:∀r n H',r=H.size→H'.size=r+1→ID Ok enc H' b r m (fun _=>False) none n→Agr (fun k=>k<H.size) H H'→K (.pointer (some ⟨r,0,none⟩)) H'):By P (Instr.range t (.map (some b))) H K:=by
 obtain⟨⟨es,clock,h1,h2,h3,h4⟩,hok⟩:=h;refine By.mk fun w hw=>?_;subst hw;have hbl:b<w.heap.size:=(Aa7.1 h1).1;refine⟨_,w.alloc (.mapIter (some b) clock #[] clock),by simp [Instr.range,run_underlying ht.under,Go.MapKept.run_getObj_map h1],⟨rfl,rfl,rfl⟩,k w.heap.size (leftOf es #[]).size _ rfl (by rw [Fd];simp) ⟨⟨es,clock, #[],?_,h2,h3,h4,by rw [Fd];simp,fun i x a hx hk=>by simp,rfl,fun a h=>by cases h⟩,hok⟩ (Et _ _)⟩;rw [Fd,Ab8,if_neg (by omega)];exact h1
theorem YX{ty:TypeId}(hi:∀a b,enc a=enc b→a=b)(h:ID Ok enc H b r m D last n){K:Value→Aa→Prop}(k0:(∀a,(m a).isSome=true→D a)→K (.tuple #[.bool false]) H)
  (k1:∀a v H' n',m a=some v→¬D a→n'<n→ID Ok enc H' b r m (fun x=>D x∨x=a) (some a) n'→Agr (fun k=>k≠r) H H'→H'.size=H.size→K (.tuple #[.bool true,enc a,v]) H'):By P (Instr.next (.pointer (some ⟨r,0,none⟩)) false ty) H K:=by
 obtain⟨⟨es,clock,seen,h1,h2,h3,h4,h5,h6,h7,h8⟩,hok⟩:=h;refine By.mk fun w hw=>?_;subst hw;have hbr:b≠r:=by
  rintro rfl;rw [h1]at h5;cases h5
 have hml:∀x,x∈(leftOf es seen).toList↔x∈es.toList∧seen.contains x.born=false:=fun x=>by
  unfold leftOf;rw [AbP,Ac6,AaX]
 rcases run_next_at (P:=P) w ty r b clock clock seen es clock h5 h1 h2.1 (AaA _)with⟨e1,e2⟩ | ⟨e,he,w1,hw1,e2⟩
 ·refine⟨_,w,e2,Env.refl w,k0 fun a ha=>?_⟩;obtain⟨v,hv⟩:=Option.isSome_iff_exists.1 ha;obtain⟨i,x,hx,hk,-⟩:=h4 a v hv;refine(h6 i x a hx hk).1 ?_;cases hs:seen.contains x.born with
  | true=>rfl
  | false=>
    have:=(hml x).2 ⟨Aa3 (i:=i) (by simpa using hx),hs⟩;have h0:(leftOf es seen).toList=[]:=AaH (by rw [AaL];exact e1);rw [h0]at this;cases this
 ·obtain⟨he1,he2⟩:=(hml e).1 he;obtain⟨j,hj⟩:=AaG he1;have hj':es[j]? =some e:=by simpa using hj
  obtain⟨a,hka,hma⟩:=h3 j e hj';have hnD:¬D a:=fun hd=>by
   rw [(h6 j e a hj' hka).2 hd]at he2;cases he2
  have hw1h:w1.heap=w.heap:=by rcases hw1 with rfl | rfl<;>rfl
  have hw1e:Env w w1:=by rcases hw1 with rfl | rfl<;>exact⟨rfl,rfl,rfl⟩
  have hrl:r<w.heap.size:=(Aa7.1 h5).1;have hset:(Go.ChangeMaps.setBlock w1 r (.mapIter (some b) clock (seen.push e.born) clock)).heap=w.heap.setIfInBounds r (.mapIter (some b) clock (seen.push e.born) clock):=by
   show w1.heap.setIfInBounds r _=_;rw [hw1h]
  refine⟨_,_,e2,⟨hw1e.os,hw1e.tape,hw1e.output⟩,?_⟩;rw [hka];refine k1 a e.val _ _ hma hnD (h7 ▸ SF es seen he) ⟨⟨es,clock,seen.push e.born,?_,h2,h3,h4,?_,fun i x a' hx hk=>?_,rfl,fun a' ha'=>?_⟩,hok⟩ ?_ ?_
  ·rw [hset,Ab3 (Ne.symm hbr)];exact h1
  ·rw [hset,Array.getElem?_setIfInBounds_self_of_lt hrl]
  ·rw [AbO,AaN,h6 i x a' hx hk,beq_iff_eq];refine or_congr Iff.rfl ⟨fun hb=>?_,fun ha'=>?_⟩
   ·obtain rfl:=Jp h2 hx hj' hb;rw [hj']at hx;cases hx;exact hi _ _ (hk.symm.trans hka)
   ·subst ha';obtain rfl:=E6 h2 hx hj' (hk.trans hka.symm);rw [hj']at hx;cases hx;rfl
  ·cases ha';exact⟨e,seen,he1,hka,rfl⟩
  ·rw [hset];exact fun k hk=>Ab3 (Ne.symm hk)
  ·rw [hset];simp
theorem YU{a:α}{v:Value}(h:ID Ok enc H b r m D (some a) n)(hi:∀a b,enc a=enc b→a=b)(hv:m a=some v){K:Value→Aa→Prop}(k:K (.tuple #[enc a,v]) H):By P (Instr.entry (.pointer (some ⟨r,0,none⟩))) H K:=by
 obtain⟨⟨es,clock,seen,h1,h2,h3,h4,h5,h6,h7,h8⟩,hok⟩:=h;obtain⟨e,s0,he,hk,rfl⟩:=h8 a rfl;refine By.mk fun w hw=>?_;subst hw;obtain⟨i,x,hx,hkx,hvx⟩:=h4 a v hv;obtain⟨j,hj⟩:=AaG he;have hj':es[j]? =some e:=by simpa using hj
 obtain rfl:=E6 h2 hx hj' (hkx.trans hk.symm);rw [hj']at hx;cases hx;refine⟨_,w,run_entry_at w r b clock s0 es clock e h5 h1 he h2.2.1,Env.refl w,?_⟩;rw [hk,hvx];exact k
end
section
variable{α:Type}{Ok:α→Prop}{enc:α→Value}{b r n:Nat}{m m':α→Option Value}{D:α→Prop}{last:Option α}{B:Nat→Prop}{H0 H H':Aa}{ps:List Pc}{P:Program}{t kt et:TypeId}{z:Value}
def pMW(Ok:α→Prop)(enc:α→Value)(b:Nat)(m:α→Option Value):Pc:=⟨fun k=>k=b,fun H=>IF Ok enc H b m,fun h hp=>hp.agr h rfl⟩
def pIW(Ok:α→Prop)(enc:α→Value)(b r:Nat)(m:α→Option Value)(D:α→Prop)(last:Option α)(n:Nat):Pc:=⟨fun k=>k=b∨k=r,fun H=>ID Ok enc H b r m D last n,fun h hp=>hp.agr h (.inl rfl) (.inr rfl)⟩
theorem StB.mapW(st:StB B H0 H ps)(i:Nat)(hp:ps[i]? =some (pMW Ok enc b m)):IF Ok enc H b m:=st.at_ i hp
theorem StB.iterW(st:StB B H0 H ps)(i:Nat)(hp:ps[i]? =some (pIW Ok enc b r m D last n)):ID Ok enc H b r m D last n:=st.at_ i hp
theorem StB.mapNewW(st:StB B H0 H ps)(hb:b=H.size)(hs:H'.size=b+1)(hm:IF Ok enc H' b (fun _=>none))(ha:Agr (fun k=>k<b) H H'):StB B H0 H' (ps++[pMW Ok enc b fun _=>none]):=by
 subst hb;exact st.add (ha.mono fun k hk=>hk) _ hm fun k hk=>by have:k=H.size:=hk;omega
theorem U8{v:Value}{a:α}{K:Aa→Prop}(st:StB B H0 H ps)(i:Nat)(ht:IE P t kt et z)(hk:KR P kt Ok enc)(ha:Ok a)(hp:ps[i]? =some (pMW Ok enc b m))(hm:put m a (some v)=m')
  (k:∀H',StB B H0 H' (ps.set i (pMW Ok enc b m'))→K H'):C0 P (Instr.mapUpdate t (.map (some b)) (enc a) v) H K:=by
 refine YY ht hk ha (st.mapW i hp) ?_;intro H' hb' ha' hs';subst hm;exact k H' (st.upd i hp (ha'.mono fun k hk hkb=>hk.2 hkb) _ hb' (fun k hk=>.inl hk) (fun k hk=>by rw [hs'];exact(st.in_ i hp hk).2) (by omega))
theorem Wr{K:Value→Aa→Prop}(st:StB B H0 H ps)(i:Nat)(ht:IE P t kt et z)(hp:ps[i]? =some (pMW Ok enc b m))
  (k:∀r n H',StB B H0 H' (ps.set i (pIW Ok enc b r m (fun _=>False) none n))→K (.pointer (some ⟨r,0,none⟩)) H'):By P (Instr.range t (.map (some b))) H K:=by
 refine XJ ht (st.mapW i hp) fun r n H' hr hs hi ha=>?_;subst hr;have hbl:=(st.in_ i hp (k:=b) rfl).2;refine k _ n H' (st.upd i hp (ha.mono fun k hk=>hk.1) _ hi (fun k hk=>?_) (fun k hk=>?_) (by omega))
 ·rcases hk with hk | hk
  ·exact .inl hk
  ·exact .inr (by omega)
 ·rcases hk with rfl | rfl<;>omega
theorem XI{ty:TypeId}{K:Value→Aa→Prop}(st:StB B H0 H ps)(i:Nat)(hi:∀a b,enc a=enc b→a=b)(hp:ps[i]? =some (pIW Ok enc b r m D last n))(k0:(∀a,(m a).isSome=true→D a)→K (.tuple #[.bool false]) H)
  (k1:∀a v H' n',m a=some v→¬D a→n'<n→StB B H0 H' (ps.set i (pIW Ok enc b r m (fun x=>D x∨x=a) (some a) n'))→K (.tuple #[.bool true,enc a,v]) H'):By P (Instr.next (.pointer (some ⟨r,0,none⟩)) false ty) H K:=by
 refine YX hi (st.iterW i hp) k0 fun a v H' n' h1 h2 h3 h4 h5 h6=>k1 a v H' n' h1 h2 h3 (st.upd i hp (h5.mono fun k hk hkr=>hk.2 (.inr hkr)) _ h4 (fun k hk=>.inl hk) (fun k hk=>by rw [h6];exact(st.in_ i hp hk).2) (by omega))
end
section
variable{α:Type}{T:Ty α}{e:TypeId}{a:Option Addr}{n cap:Nat}{xs:List α}{B:Nat→Prop}{H0 H:Aa}{ps:List Pc}
theorem MO{P:Program}{t ty q o m cap2 by_:Nat}{z:Value}{ys:List α}{ds:List Value}{K:Value→Aa→Prop}(st:StB B H0 H ps)(i:Nat)(ht:SlT P t e T.size by_ z)(hp:ps[i]? =some (pS T e a n cap xs))
  (hd:Bi H q o ds) (hy:T.reps none_ H ds ys) (hm:m=ys.length) (h1:∀u∈ds,u.oneCell'=true) (h63:xs.length+ys.length≤maxLen) (hby:(xs.length+ys.length)*by_≤140737488355328)
  (k:∀a' cap' H',StB B H0 H' (ps.set i (pS T e a' (xs.length+ys.length) cap' (xs++ys)))→Agr (fun k=>k<H.size∧¬slB (.slice a n cap) k) H H'→K (.slice a' (xs.length+ys.length) cap') H'):
  By P (Builtin.append_ #[t,t] ty [.slice a n cap,.slice (some ⟨q,o,none⟩) m cap2].toArray) H K:=by
 refine BZ (T:=T) (S:=none_) (lo:=0) ht (st.at_ i hp).1 (AaY _) (fun k hk=>hk.elim) hd hy hm h1 h63 hby ?_;intro v' H' hown hagr hsz hfr;obtain⟨a',cap',rfl⟩:=hown.hull;rw [AaE]at hown hfr ⊢;refine k a' cap' H' (st.upd i hp (hagr.mono fun k hk=>⟨hk.1,fun hb=>hk.2 (.inl hb)⟩) _ ⟨hown,fun k hk=>hk.elim⟩ (fun k hk=>?_) (fun k hk=>?_) hsz) hagr
 ·rcases hk with hk | hk
  ·rcases hfr k hk with h | h
   ·exact .inl (.inl h)
   ·exact .inr h
  ·exact hk.elim
 ·rcases hk with hk | hk
  ·exact(hown.lt hk).2
  ·exact hk.elim
end
section
variable{α β:Type}{Ok:α→Prop}{enc:α→Value}{T:Ty β}{e:TypeId}{b:Nat}{m:α→Option Value}{xs:α→List β}{B:Nat→Prop}{H0 H H':Aa}{ps:List Pc}{P:Program}{t kt et:TypeId}{a:α}
end
structure HZ where
 ok:Aa→Value→Prop
 fr:∀{S:Nat→Prop} {H H':Aa} {v:Value},Agr S H H'→(∀k,slB v k→S k)→ok H v→ok H' v
 lt:∀{H:Aa} {v:Value} {k:Nat},ok H v→slB v k→k<H.size
def Mi{α:Type}(T:Ty α)(e:TypeId)(xs:List α):HZ:=⟨fun H v=>SlO T none_ H 0 e v xs,fun h hb hv=>hv.agr h hb (fun _ f=>f.elim),fun h hk=>(h.lt hk).2⟩
def Vo(ss:Nat→HZ)(j:Nat)(s:HZ):Nat→HZ:=fun i=>if i=j then s else ss i
theorem MG(ss:Nat→HZ)(j:Nat)(s:HZ):Vo ss j s j=s:=if_pos rfl
theorem Sf{ss:Nat→HZ}{i j:Nat}{s:HZ}(h:i≠j):Vo ss j s i=ss i:=if_neg h
section
variable{α:Type}{T:Ty α}{B:Nat→Prop}{H0 H H1:Aa}{ps:List Pc}{e te:TypeId}{b:Nat}{vs:List Value}{ss:Nat→HZ}{xs:List α}{v:Value}{j:Nat}
theorem KK{k:Nat}:¬slB (.slice none 0 0) k:=fun⟨_,_,_,h⟩=>by cases h
end
theorem YS{P:Program}{t len e sz:Nat}{k:IntKind}{i:Int}{cs:Array Value}{S:Nat→Prop}{H:Aa}{K:Value→Prop}(ht:Ju P t len e sz)(hc:Fa P e sz)(h0:0≤i)(h1:i<len)
  (hk:K (.agg (cs.extract (i.toNat*sz) (i.toNat*sz+sz)))):AH P (Instr.index t (.agg cs) (.int k i)) S H K:=by
 refine AH.mk _ (fun w _=>?_) hk;cases hi:P.info? e with
 | none=>have:=ht.size;simp [hi]at this
 | some inf=>
   have hs:inf.size=sz:=by have:=ht.size;simpa [hi]using this
   simp [Instr.index,asIntOf,run_underlying ht.under,h0,h1,sizeOf,typeInfo,hi,hs,Td hc]
theorem Vx{x:Nat}(h:x<18446744073709551616):18446744073709551615 ^^^ x=18446744073709551615 - x:=by
 have h1:(BitVec.ofNat 64 x ^^^ Ac9 64).toNat=(~~~(BitVec.ofNat 64 x)).toNat:=by rw [BitVec.xor_allOnes]
 rw [Ac1,Ac2,AbB,BitVec.toNat_allOnes,Ab1 (by simpa using h),Nat.xor_comm]at h1;simpa using h1
theorem Sj{P:Program}{x:Nat}{S:Nat→Prop}{H:Aa}{K:Value→Prop}(hx:x<18446744073709551616)(k:K (.int .u64 ((18446744073709551615 - x:Nat):Int))):AH P (Op.unary .xor (.int .u64 (x:Int))) S H K:=by
 refine AH.mk _ (fun w _=>?_) k;have h1:IntKind.u64.max=18446744073709551615:=rfl;have h2:IntKind.u64.signed=false:=rfl;have e1:(AaS IntKind.u64.bits (18446744073709551615:Int) ^^^ AaS IntKind.u64.bits (x:Int)).toNat=18446744073709551615 - x:=by
  show(AaS 64 ((18446744073709551615:Nat):Int) ^^^ AaS 64 (x:Int)).toNat=_;rw [AbM,AbM,Ac1,AbB,AbB,Ab1 (a:=x) hx];exact Vx hx
 have e2:IntKind.wrap .u64 ((18446744073709551615 - x:Nat):Int)=((18446744073709551615 - x:Nat):Int):=FH ⟨by show(0:Int)≤_;omega,by rw [h1];omega⟩;show(pure (Value.int .u64 (IntKind.wrap .u64 ((AaS IntKind.u64.bits (if IntKind.u64.signed=true then(-1:Int)else IntKind.u64.max) ^^^ AaS IntKind.u64.bits (x:Int)).toNat:Int))):Sem Value).run P w=_;rw [h2,h1];simp only [AbS,if_false];rw [e1,e2];rfl
end Go.VC
namespace Go.Proofs.YtfbghcpdinlmcaaGreatDoor
open Go.VC
theorem NO(a:BitVec 256)(i:Nat)(hi:i<4):wd (~~~a) i=18446744073709551615 - wd a i:=by
 have ha:=a.isLt;unfold wd;rw [Ac2]
 match i,hi with
 | 0,_=>simp only [AbC,Ab0]at*;omega
 | 1,_=>simp only [AbC,Ab0]at*;omega
 | 2,_=>simp only [AbC,Ab0]at*;omega
 | 3,_=>simp only [AbC,Ab0]at*;omega
theorem UE(a:BitVec 256)(H:Aa):B8 Tryz.prog 183 #[Bm a] H (Bm (~~~a)):=by
 have hw:∀i,wd a i<18446744073709551616:=fun i=>Hy a i;refine Al.of_vc Tryz.func183 rfl (Tryz.call183 _) (B0 (Af a) rfl ?_);intro p H1 hp hs1 hb1 ha1;refine Ak (Bm 0) (Af 0) rfl rfl ?_;intro r H3 hr hs3 hb3 ha3;replace hb1:=hb1.agr ha3 (show p<r by omega);refine ixa BW (by decide) (by decide) (ld1 Eh ((hb1.cell _).trans rfl) trivial (Sj (hw _) (ixa BW (by decide) (by decide) (ld1 Eh ((hb1.cell _).trans rfl) trivial (Sj (hw _) (ixa BW (by decide) (by decide) (ld1 Eh ((hb1.cell _).trans rfl) trivial (Sj (hw _) (ixa BW (by decide) (by decide) (ld1 Eh ((hb1.cell _).trans rfl) trivial (Sj (hw _) ?_)))))))))));rw [←NO a 0 (by decide),←NO a 1 (by decide),←NO a 2 (by decide),←NO a 3 (by decide)];refine Cv BW (Bm 0) rfl (Af (~~~a)) rfl (VC.stN rfl hb3 (show 0+4≤4 by decide) rfl ?_);intro H4 hb4 ha4 hs4;refine ldN (cs:=Af (~~~a)) AU (hb4.cells (fun j v hv=>by simpa [Ae,Af]using hv)) trivial ?_;exact⟨rfl,fun k hk=>by rw [ha4 k (by omega),ha3 k (by omega),ha1 k (by omega)]⟩
theorem Wp(a b:BitVec 256)(H:Aa):B8 Tryz.prog 145 #[Bm a,Bm b] H (Bm (a &&& ~~~b)):=by
 refine Al.of_vc Tryz.func145 rfl (Tryz.call145 _) (B0 (Af a) rfl ?_);intro p H1 hp hs1 hb1 ha1;have st1:=(St.nil H).box hp hs1 hb1 ha1;refine B0 (Af b) rfl ?_;intro q H2 hq hs2 hb2 ha2;have st2:=st1.box hq hs2 hb2 ha2;refine Ak (Bm 0) (Af 0) rfl rfl ?_;intro r H3 hr hs3 hb3 ha3;have st3:=st2.box hr hs3 hb3 ha3;refine Ar.held (Old H3) 4 (sq [0,1] (.f 2 (.f 3 (.f 4 .e)))) rfl (by kernel_rfl) ?_;refine ldN (cs:=Af a) AU ((st3.blk 0 rfl).cells fun j v hv=>by rw [Aa5];exact hv) (st3.blk 0 rfl).lt ?_;refine ldN (cs:=Af b) AU ((st3.blk 1 rfl).cells fun j v hv=>by rw [Aa5];exact hv) (st3.blk 1 rfl).lt ?_;refine Ao (UE b H3) fun H4 ha4=>?_;have st4:=st3.call ha4;refine⟨ha4,?_⟩;refine Ao (Qp a (~~~b) H4) fun H5 ha5=>?_;have st5:=st4.call ha5;refine⟨ha4.trans (ha5.mono fun k hk=>As ha4 hk),?_⟩;refine AI (cs:=Af (a &&& ~~~b)) st5 2 rfl rfl (show 0+4≤4 by decide) rfl fun H6 st6=>(ldN (cs:=Af (a &&& ~~~b)) AU ((st6.blk 2 rfl).cells (fun j v hv=>by simpa [Ae,Af]using hv)) trivial ?_);exact⟨rfl,st6.old⟩
def byN(s:ByteArray):List Nat:=s.data.toList.map UInt8.toNat
theorem Ky(s:ByteArray):(byN s).length=s.size:=by unfold byN;rw [Ab6];exact AaL
theorem MV{s:ByteArray}{i:Nat}{b:UInt8}(h:s.data[i]? =some b):(byN s)[i]? =some b.toNat:=by
 unfold byN;rw [AaV,AbJ,h];rfl
theorem YP{s:ByteArray}{k:Nat}(h:k<s.size):∃b,s.data[k]? =some b:=⟨s.data[k]'h,Array.getElem?_eq_getElem h⟩
theorem Ax{l c:List Value}(h:c.length=l.length):Ae l 0 c=c:=by
 unfold Ae;rw [Ac8,Ac3,Aa5,h,List.drop_length,Ab4]
def ofB(x:BitVec 256)(l:List Nat):BitVec 256:=l.foldl (fun x b=>x ||| AcB 256 b) x
theorem ZO(s:ByteArray)(hs:s.size≤1048576)(H:Aa):B8 Tryz.prog 48 #[.string s] H (Bm (ofB 0#256 (byN s))):=by
 refine Al.of_vc Tryz.func48 rfl (Tryz.call48 _) (Ak (Bm 0) (Af 0) rfl rfl ?_);intro r H1 hr hs1 hb1 ha1;have st1:=(St.nil H).box hr hs1 hb1 ha1;refine Ak (Bm 0) (Af 0) rfl rfl ?_;intro p H2 hp hs2 hb2 ha2;have st2:=st1.box hp hs2 hb2 ha2;(conv=>whnf);refine A3.mk [7] (fun i:Nat=>[.int .i64 (i:Int)]) (fun i H3=>i≤s.size∧St H H3 [pB 101 r (Af 0),pB 101 p (Af (ofB 0#256 ((byN s).take i)))]) (fun i _=>s.size - i) ?_ ?_
 ·(conv=>whnf);exact⟨0,rfl,AaY _,st2⟩
 ·rintro i H3 junk ⟨hi,st3⟩;refine AB.mk (fun h=>?_) (fun h=>?_)<;>simp only [decide_eq_true_eq,decide_eq_false_iff_not]at h
  ·obtain⟨c,hc⟩:=YP (s:=s) (k:=i) (by omega);obtain⟨b,hb⟩:∃b,b=c.toNat:=⟨_,rfl⟩;have hb256:b<256:=by rw [hb];exact UInt8.toNat_lt c
   obtain⟨x,hx⟩:∃x,x=ofB 0#256 ((byN s).take i):=⟨_,rfl⟩;have hnext:ofB 0#256 ((byN s).take (i+1))=x ||| AcB 256 b:=by
    rw [Ac (MV hc),hx,hb];unfold ofB;rw [List.foldl_append];rfl
   rw [←hx]at st3;have hbp:=st3.blk 1 rfl;have hpl:=(st3.in_ 1 rfl rfl).2;refine Ar.heldZ (Old H3) [13] (sq [0,1,2,3,4,5,6,7,8,9,10,11,12] (.f 13 .e)) rfl (by kernel_rfl) (Dg Tryz.underlying9 rfl hc ?_);rw [←hb];refine LW (b:=6) (by decide) (ixa BW (by omega) (by omega) ?_);refine ld1 Eh (v:=.int .u64 (wd x (b / 64))) (by rw [hbp.cell,Aa5,AaJ];exact LO x b (by omega)) hpl ?_;refine Dg Tryz.underlying9 rfl hc ?_;rw [←hb];refine Js (b:=63) (Qg hb256) (Qg (by decide)) ?_;have hpow:2 ^ (b % 64)<2 ^ 64:=Nat.pow_lt_pow_right (by decide) (by omega);rw [WT];have hin:inK .u64 ((1*2 ^ (b % 64):Nat):Int):=Hd (by omega);refine Yn (a:=1) (by simp [IntKind.bits];omega) hin ?_;refine vor (DF x _) hin (ixa BW (by omega) (by omega) ?_);refine AT st3 1 Eh rfl (by simp [Af];omega) rfl fun H4 st4=>?_;(conv=>whnf);rw [w64 (x:=(i:Int)+1) (by omega) (by omega)];refine⟨rfl,i+1,by simp,⟨by omega,?_⟩,by omega⟩;rw [hnext,←Pi x b (by omega)];rw [Aa5,AaJ,Nat.one_mul]at st4;exact st4
  ·obtain rfl:i=s.size:=by omega
   rw [List.take_of_length_le (by rw [Ky];exact AaA _)]at st3;generalize ofB 0#256 (byN s)=x at*;refine ldN (cs:=Af x) AU ((st3.blk 1 rfl).cells fun j v hv=>by rw [Aa5];exact hv) trivial ?_;refine AI (cs:=Af x) st3 0 rfl rfl (AaA _) rfl fun H4 st4=>?_;rw [Ax (show(Af x).length=(Af 0).length from rfl)]at st4;refine ldN (cs:=Af x) AU ((st4.blk 0 rfl).cells fun j v hv=>by rw [Aa5];exact hv) trivial ?_;exact⟨rfl,st4.old⟩
def Ef(x:BitVec 256)(k:Nat):List Value:=(AaF 256).map fun b=>.bool (decide (b<k)&&x.getLsbD b)
def Ap(x:BitVec 256):List Value:=Ef x 256
theorem Bj(x:BitVec 256)(k:Nat):(Ef x k).length=256:=by simp [Ef]
theorem Ii(x:BitVec 256)(k:Nat){b:Nat}(h:b<256):(Ef x k)[b]? =some (.bool (decide (b<k)&&x.getLsbD b)):=by
 unfold Ef;rw [AaV,Ab7 h];rfl
theorem FU(x:BitVec 256){b:Nat}(h:b<256):(Ap x)[b]? =some (.bool (x.getLsbD b)):=by
 unfold Ap;rw [Ii x 256 h];simp [h]
theorem PG(x:BitVec 256){k:Nat}(h:k<256):(Ef x k).set k (.bool (x.getLsbD k))=Ef x (k+1):=by
 apply AaI;intro i;by_cases hi:i<256
 ·rw [Ii _ _ hi,AaU,Bj];by_cases hik:k=i
  ·subst hik;simp [h]
  ·rw [if_neg hik,Ii _ _ hi];have:decide (i<k)=decide (i<k+1):=decide_eq_decide.2 (by omega);rw [this]
 ·rw [Aa8 (by simp [Bj];omega),Aa8 (by simp [Bj];omega)]
theorem Oi(x:BitVec 256):Ef x 0=Aa2 256 (.bool false):=by
 unfold Ef;simp [Ac7]
def tB:Ty (BitVec 256) where
 size:=256
 rep _ _ cs s:=cs=Ap s
 len h:=by rw [h];exact Bj _ _
 frame h _:=h
 mono h _:=h
theorem Aq(x:BitVec 256):(Ap x).length=256:=Bj _ _
theorem EX(x:BitVec 256)(k:Nat):(Ef x k).all (·.oneCell')=true:=by
 simp [Ef,Value.oneCell']
theorem Vw(x:BitVec 256)(b:Nat)(hb:b<256):((((wd x (b / 64) / 2 ^ (b % 64) % 2:Nat):Int)==(1:Int)))=x.getLsbD b:=by
 have h1:=DY x (b / 64) (b % 64) (Nat.mod_lt _ (by decide));rw [show 64*(b / 64)+b % 64=b by omega]at h1;rw [←h1,Nat.testBit_eq_decide_div_mod_eq];have:=Nat.mod_two_eq_zero_or_one (wd x (b / 64) / 2 ^ (b % 64));rcases this with h | h<;>simp [h]
theorem X9(x:BitVec 256)(H:Aa):B8 Tryz.prog 119 #[.agg (Af x).toArray] H (.agg (Ap x).toArray):=by
 refine Al.of_vc Tryz.func119 rfl (Tryz.call119 _) (B0 (Af x) rfl ?_);intro p1 H1 hp1 hs1 hb1 ha1;refine Ak _ (Aa2 256 (.bool false)) rfl rfl ?_;intro p2 H2 hp2 hs2 hb2 ha2;refine Ak _ (Aa2 256 (.bool false)) rfl rfl ?_;intro p3 H3 hp3 hs3 hb3 ha3;(conv=>whnf);refine A3.mk [4] (fun k:Nat=>[.int .i64 k]) (fun k H4=>k≤256∧Agr (fun j=>j<p3) H3 H4∧H4.size=H3.size∧Blk H4 p3 157 (Ef x k)) (fun k _=>256 - k) ?_ ?_
 ·(conv=>whnf);exact⟨0,rfl,by omega,Agr.refl _ _,rfl,by rw [Oi];exact hb3⟩
 ·rintro k H4 junk ⟨hk,ha4,hs4,hb4⟩;have hb1':=((hb1.agr ha2 (show p1<p2 by omega)).agr ha3 (show p1<p3 by omega)).agr ha4 (show p1<p3 by omega);refine AB.mk (fun h=>?_) (fun h=>?_)<;>simp only [decide_eq_true_eq,decide_eq_false_iff_not]at h
  ·have hk6:k / 64<4:=by omega
   refine vquo (b:=64) (by decide) (Bs (by omega)) (ixa Y7 (by omega) (by omega) (ld1 (v:=.int .u64 (wd x (k / 64))) Eh ?_ trivial ?_))
   ·rw [hb1'.cell,show 0+(((k / 64:Nat):Int)).toNat*1=k / 64 by omega];have:=LO x k (by omega);rwa [show k / 2 ^ 6=k / 64 by rfl]at this
   refine WO (b:=64) (by decide) ?_;(conv=>whnf);rw [FH (k:=.u64) (Hd (x:=k % 64) (by omega))];refine LW (k:=.u64) (b:=k % 64) (by show k % 64≤64;omega) ?_;refine WO (k:=.u64) (b:=2) (by decide) (ixa C1 (by omega) (by omega) ?_);rw [Vw x k (by omega)];refine st1 ct4 hb4 (by rw [Bj];omega) rfl ?_;intro H5 hb5 ha5 hs5;rw [show 0+((k:Nat):Int).toNat*1=k by omega,PG x (by omega)]at hb5;(conv=>whnf);rw [w64 (x:=(k:Int)+1) (by omega) (by omega)];exact⟨rfl,k+1,by simp,⟨by omega,ha4.trans (ha5.mono fun j hj=>by omega),by omega,hb5⟩,by omega⟩
  ·obtain rfl:k=256:=by omega
   refine ldN (cs:=Ap x) (by rw [show(Ap x).length=256 from Bj _ _];exact KW) (hb4.cells fun j v hv=>by rw [Aa5];exact hv) trivial ?_;refine VC.stN (cs:=Ap x) (by rw [show(Ap x).length=256 from Bj _ _];rfl) ((hb2.agr ha3 (show p2<p3 by omega)).agr ha4 (show p2<p3 by omega)) (by rw [show(Ap x).length=256 from Bj _ _];simp) (EX x 256) ?_;intro H6 hb6 ha6 hs6;have hsp:Ae (Aa2 256 (.bool false)) 0 (Ap x)=Ap x:=by
    unfold Ae;rw [show(Ap x).length=256 from Bj _ _];simp
   rw [hsp]at hb6;refine ldN (cs:=Ap x) (by rw [show(Ap x).length=256 from Bj _ _];exact KW) (hb6.cells fun j v hv=>by rw [Aa5];exact hv) trivial ?_;exact⟨rfl,(((ha1.mono fun j hj=>by omega).trans (ha2.mono fun j hj=>by omega)).trans (ha3.mono fun j hj=>by omega)).trans ((ha4.mono fun j hj=>by omega).trans (ha6.mono fun j hj=>by omega))⟩
def CZ(f:Nat→Bool):List Value:=(AaF 256).map fun b=>.bool (f b)
theorem BN(f:Nat→Bool):(CZ f).length=256:=by simp [CZ]
theorem Gb(f:Nat→Bool){b:Nat}(h:b<256):(CZ f)[b]? =some (.bool (f b)):=by
 unfold CZ;rw [AaV,Ab7 h];rfl
theorem D0{f g:Nat→Bool}(h:∀b,b<256→f b=g b):CZ f=CZ g:=by
 unfold CZ;exact List.map_congr_left fun b hb=>by rw [h b (AbK.1 hb)]
theorem Uo(f:Nat→Bool){k:Nat}(h:k<256):(CZ f).set k (.bool true)=CZ fun b=>decide (b=k)|| f b:=by
 apply AaI;intro i;by_cases hi:i<256
 ·rw [Gb _ hi,AaU,BN];by_cases hik:k=i
  ·subst hik;simp [h]
  ·rw [if_neg hik,Gb _ hi,decide_eq_false (Ne.symm hik)];rfl
 ·rw [Aa8 (by simp [BN];omega),Aa8 (by simp [BN];omega)]
theorem SB:CZ (fun _=>false)=Aa2 256 (.bool false):=by
 unfold CZ;rw [Ac7,List.length_range]
def tF:Ty (Nat→Bool) where
 size:=256
 rep _ _ cs f:=cs=CZ f
 len h:=by rw [h];exact BN _
 frame h _:=h
 mono h _:=h
end Go.Proofs.YtfbghcpdinlmcaaGreatDoor
namespace Go.VC
section
variable{B:Nat→Prop}{H0 H:Aa}{ps:List Pc}{p:Pc}
theorem StB.apart2(st:StB B H0 H ps){i j:Nat}{q:Pc}(hp:ps[i]? =some p)(hq:ps[j]? =some q)(hij:i≠j):Dis p q:=by
 have hil:=(Aa0.1 hp).1;have hjl:=(Aa0.1 hq).1;have e1:=(Aa0.1 hp).2;have e2:=(Aa0.1 hq).2;intro k hk hk';rcases AaR hij with h | h
 ·exact Aa4.1 st.dis i j hil hjl h k (by rw [e1];exact hk) (by rw [e2];exact hk')
 ·exact Aa4.1 st.dis j i hjl hil h k (by rw [e2];exact hk') (by rw [e1];exact hk)
end
section
variable{α β:Type}{Ok:α→Prop}{enc:α→Value}{T:Ty β}{e:TypeId}{b:Nat}{m:α→Option Value}{xs:α→List β}{B:Nat→Prop}{H0 H:Aa}{ps:List Pc}
end
abbrev KX{α:Type}(_:α):Prop:=True
theorem KR.ofE{P:Program}{kt:TypeId}{d:TypeDesc}{α:Type}{enc:α→Value}(hd:P.underlying kt=some d)(hk:Xo d enc):KR P kt KX enc where
 inj:=hk.inj
 check w em a _:=Go.MapKept.run_checkKey hd (hk.isKey a) em 9999
 find w a _ es hes:=by
  have hall:∀x∈es,Go.MapKept.IsKey d x.key:=fun x hx=>by
   obtain⟨b,-,e⟩:=hes x hx;rw [e];exact hk.isKey b
  rcases Go.MapKept.findNow_spec (hk.isKey a) es 0 hall with⟨h1,h2⟩ | ⟨j,e,h1,h2,h3⟩
  ·exact .inl ⟨Go.MapKept.run_findKey hd h1,h2⟩
  ·exact .inr ⟨j,e,by rw [Aa5]at h1;exact Go.MapKept.run_findKey hd h1,h2,h3⟩
 stays w a _:=Go.MapKept.run_keyThatStays (hk.isKey a)
section
variable{α β:Type}{Ok:α→Prop}{enc:α→Value}{T:Ty β}{e:TypeId}{b:Nat}{m:α→Option Value}{xs:α→List β}{B:Nat→Prop}{H0 H H':Aa}{ps:List Pc}{P:Program}{t kt et:TypeId}{a:α}
end
end Go.VC
namespace Go.Proofs.YtfbghcpdinlmcaaGreatDoor
open Go.VC
def edL(e:EdM):List Value:=[.int .i64 e.fr,.int .i64 e.to,.bool e.sil,.int .u64 (wd e.set 0),.int .u64 (wd e.set 1),.int .u64 (wd e.set 2),.int .u64 (wd e.set 3)]
theorem Ro(e:EdM):∀(j:Nat) (v:Value),(Af e.set)[j]? =some v→(edL e)[3+j]? =some v:=by
 intro j v h;rw [show 3+j=j+3 by omega];exact h
def EdM.Ok(e:EdM):Prop:=inK .i64 e.fr∧inK .i64 e.to
def tEd:Ty EdM where
 size:=7
 rep _ _ cs e:=cs=edL e∧e.Ok
 len h:=by rw [h.1];rfl
 frame h _:=h
 mono h _:=h
theorem Ng(e:EdM):(edL e).all (·.oneCell')=true:=rfl
def EL(e:EdM):List Value:=[.int .i64 e.fr,.int .i64 e.to,.bool e.sil]++Ap e.set
theorem DL(e:EdM):(EL e).length=259:=by
 unfold EL;rw [AaE,show(Ap e.set).length=256 from Bj _ _];rfl
def Cz:Ty EdM where
 size:=259
 rep _ _ cs e:=cs=EL e∧e.Ok
 len h:=by rw [h.1];exact DL _
 frame h _:=h
 mono h _:=h
theorem IS(e:EdM):(EL e).all (·.oneCell')=true:=by
 unfold EL;rw [List.all_append,Ap,EX];rfl
theorem TU(e:EdM){b:Nat}(h:b<256):(EL e)[3+b]? =some (.bool (e.set.getLsbD b)):=by
 unfold EL;rw [List.getElem?_append_right (by simp)];simpa using FU e.set h
def NfM.Rng(a:NfM):Prop:=inK .i64 a.st∧inK .i64 a.start∧inK .i64 a.fin
def nfL(a:NfM)(v:Value):List Value:=[.int .i64 a.st,.int .i64 a.start,.int .i64 a.fin,v]
def NfV(S:Nat→Prop)(H:Aa)(v:Value)(a:NfM):Prop:=a.Rng∧a.edges.length≤33554432∧∃ea ec,v= .agg (nfL a (.slice ea a.edges.length ec)).toArray∧SlD tEd S H ea ec a.edges
def NdV(S:Nat→Prop)(H:Aa)(v:Value)(a:NfM):Prop:=a.Rng∧a.edges.length≤33554432∧∃ea ec,v= .agg (nfL a (.slice ea a.edges.length ec)).toArray∧SlD Cz S H ea ec a.edges
section
variable{S S':Nat→Prop}{H H':Aa}{v:Value}{a:NfM}
end
theorem Lo:(Tryz.prog.info? 174).bind (·.zero)=some (.agg #[.int .i64 0,.int .i64 0,.bool false,.int .u64 0,.int .u64 0,.int .u64 0,.int .u64 0]):=rfl
theorem OQ:(Tryz.prog.info? 76).bind (·.zero)=some (.agg #[.int .i64 0,.int .i64 0,.int .i64 0,.slice none 0 0]):=rfl
theorem OR:(Tryz.prog.info? 81).bind (·.zero)=some (.agg #[.int .i64 0,.int .i64 0,.int .i64 0,.slice none 0 0]):=rfl
def Xz:Value:=Value.agg (([Value.int .i64 0,Value.int .i64 0,Value.bool false]:List Value)++Aa2 256 (Value.bool false)).toArray
def VM:List Value:=([Value.int .i64 0,Value.int .i64 0,Value.bool false]:List Value)++Aa2 256 (Value.bool false)
theorem TW:VM.length=259:=by simp [VM]
theorem Nh:(Tryz.prog.info? 185).bind (·.zero)=some Xz:=by kernel_rfl
theorem Qt{S:Nat→Prop}{H:Aa}{v:Value}{a:NfM}{K:Value→Aa→Prop}{t:TypeId}(h:NfV S H v a)
  (k:∀ea ec,v= .agg (nfL a (.slice ea a.edges.length ec)).toArray→SlD tEd S H ea ec a.edges→New H (fun b H'=>K (.pointer (some ⟨b,0,none⟩)) H') t (nfL a (.slice ea a.edges.length ec))):By Tryz.prog (Instr.box t v) H K:=by
 obtain⟨hr,hl,ea,ec,rfl,h1⟩:=h;exact B0 (nfL a (.slice ea a.edges.length ec)) rfl (k ea ec rfl h1)
theorem Qr{S:Nat→Prop}{H:Aa}{v:Value}{a:NfM}{K:Value→Aa→Prop}{t:TypeId}(h:NdV S H v a)
  (k:∀ea ec,v= .agg (nfL a (.slice ea a.edges.length ec)).toArray→SlD Cz S H ea ec a.edges→New H (fun b H'=>K (.pointer (some ⟨b,0,none⟩)) H') t (nfL a (.slice ea a.edges.length ec))):By Tryz.prog (Instr.box t v) H K:=by
 obtain⟨hr,hl,ea,ec,rfl,h1⟩:=h;exact B0 (nfL a (.slice ea a.edges.length ec)) rfl (k ea ec rfl h1)
theorem N4{S S0:Nat→Prop}{H:Aa}{a:NfM}{pb:Nat}{ea:Option Addr}{ec:Nat}{K:Value→Prop}{t:TypeId}(hr:a.Rng)(hl:a.edges.length≤33554432)(hb:Blk H pb t (nfL a (.slice ea a.edges.length ec)))(hag:Fa Tryz.prog t 4)(hS:S0 pb)(h1:SlD tEd S H ea ec a.edges)
  (k:∀v,NfV S H v a→K v):AH Tryz.prog (Instr.loadAt t (.pointer (some ⟨pb,0,none⟩))) S0 H K:=
 ldN (cs:=nfL a (.slice ea a.edges.length ec)) hag (hb.cells fun j v hv=>by rw [Aa5];exact hv) hS (k _ ⟨hr,hl,ea,ec,rfl,h1⟩)
theorem N3{S S0:Nat→Prop}{H:Aa}{a:NfM}{pb:Nat}{ea:Option Addr}{ec:Nat}{K:Value→Prop}{t:TypeId}(hr:a.Rng)(hl:a.edges.length≤33554432)(hb:Blk H pb t (nfL a (.slice ea a.edges.length ec)))(hag:Fa Tryz.prog t 4)(hS:S0 pb)(h1:SlD Cz S H ea ec a.edges)
  (k:∀v,NdV S H v a→K v):AH Tryz.prog (Instr.loadAt t (.pointer (some ⟨pb,0,none⟩))) S0 H K:=
 ldN (cs:=nfL a (.slice ea a.edges.length ec)) hag (hb.cells fun j v hv=>by rw [Aa5];exact hv) hS (k _ ⟨hr,hl,ea,ec,rfl,h1⟩)
inductive ReM
 | eps
 | cls (s:BitVec 256)
 | cat (a b:ReM)
 | alt (a b:ReM)
 | star (a:ReM)
 | and_ (a b:ReM)
 | minus (a b:ReM)
def A5:ReM→Value
 | .eps=>.iface 98 (.agg #[])
 | .cls s=>.iface 104 (Bm s)
 | .cat a b=>.iface 105 (.agg #[A5 a,A5 b])
 | .alt a b=>.iface 305 (.agg #[A5 a,A5 b])
 | .star a=>.iface 310 (.agg #[A5 a])
 | .and_ a b=>.iface 64 (.agg #[A5 a,A5 b])
 | .minus a b=>.iface 65 (.agg #[A5 a,A5 b])
theorem Fk(r:ReM):∃T v,A5 r= .iface T v:=by cases r<;>exact⟨_,_,rfl⟩
theorem HJ(r:ReM):(A5 r).oneCell'=true:=by cases r<;>rfl
def ReM.nodes:ReM→Nat
 | .eps=>1
 | .cls _=>1
 | .cat a b=>1+a.nodes+b.nodes
 | .alt a b=>1+a.nodes+b.nodes
 | .star a=>1+a.nodes
 | .and_ a b=>1+a.nodes+b.nodes
 | .minus a b=>1+a.nodes+b.nodes
def ReM.plain:ReM→Bool
 | .eps=>true
 | .cls _=>true
 | .cat a b=>a.plain&&b.plain
 | .alt a b=>a.plain&&b.plain
 | .star a=>a.plain
 | .and_ _ _=>false
 | .minus _ _=>false
end Go.Proofs.YtfbghcpdinlmcaaGreatDoor
namespace Go.VC
section
variable{P:Program}{t:TypeId}{x y:Operand}{S:Nat→Prop}{H:Aa}{K:Value→Prop}{T A:TypeId}{v z:Value}{d:TypeDesc}
theorem Jt(hd:P.underlying A=some d)(hn:∀ms,d≠ .interface ms)(k:K (.tuple #[v,.bool true])):AH P (Instr.typeAssert (.iface A v) t A true) S H K:=by
 refine AH.mk _ (fun w _=>?_) k;unfold Instr.typeAssert;simp only [Sem.run_bind,run_underlying hd,Result.andThen_ok];cases d<;>first | (exact absurd rfl (hn _)) | simp
theorem FS(hd:P.underlying A=some d)(hn:∀ms,d≠ .interface ms)(hz:(P.info? A).bind (·.zero)=some z)(hne:T≠A)(k:K (.tuple #[z,.bool false])):AH P (Instr.typeAssert (.iface T v) t A true) S H K:=by
 refine AH.mk _ (fun w _=>?_) k;have hzr:(zeroValue A).run P w= .ok z w:=by
  cases hi:P.info? A with
  | none=>rw [hi]at hz;cases hz
  | some i=>
    have hz':i.zero=some z:=by simpa [hi]using hz
    simp [zeroValue,typeInfo,hi,hz']
 unfold Instr.typeAssert;simp only [Sem.run_bind,run_underlying hd,Result.andThen_ok];cases d<;>first | (exact absurd rfl (hn _)) | simp [hne,hzr]
theorem LM{ms:Array (String×TypeId)}(h:P.underlying t=some (.interface ms))(w:World):(Op.equal t (.iface T v) .nilIface).run P w= .ok false w:=by
 have:∀d:Nat,(Op.equalIn (d+1) t (.iface T v) .nilIface).run P w= .ok false w:=fun d=>by
  simp [Op.equalIn,run_underlying h]
 exact this 9999
theorem Ph{ms:Array (String×TypeId)}(h:P.underlying t=some (.interface ms))(w:World):(Op.equal t .nilIface .nilIface).run P w= .ok true w:=by
 have:∀d:Nat,(Op.equalIn (d+1) t .nilIface .nilIface).run P w= .ok true w:=fun d=>by
  simp [Op.equalIn,run_underlying h]
 exact this 9999
theorem ZI{ms:Array (String×TypeId)}(h:P.underlying t=some (.interface ms))(k:K (.bool false)):AH P (do eqGuard .eql t x y (.iface T v) .nilIface;binOp .eql t (.iface T v) .nilIface) S H K:=by
 refine AH.mk _ (fun w _=>?_) k;simp [eqGuard,binOp,LM h]
theorem Uu{ms:Array (String×TypeId)}(h:P.underlying t=some (.interface ms))(k:K (.bool true)):AH P (do eqGuard .neq t x y (.iface T v) .nilIface;binOp .neq t (.iface T v) .nilIface) S H K:=by
 refine AH.mk _ (fun w _=>?_) k;simp [eqGuard,binOp,LM h]
theorem Uv{ms:Array (String×TypeId)}{c:Value}(h:P.underlying t=some (.interface ms))(k:K (.bool false)):AH P (do eqGuard .neq t x (.const c) .nilIface .nilIface;binOp .neq t .nilIface .nilIface) S H K:=by
 refine AH.mk _ (fun w _=>?_) k;simp [eqGuard,binOp,Ph h]
end
end Go.VC
namespace Go.Proofs.YtfbghcpdinlmcaaGreatDoor
open Go.VC
theorem Qn(x:Value)(w:World):(callMethod (.iface 98 x) "Size" #[]).run Tryz.prog w= .ok (.enter 271 #[x]) w:=by kernel_rfl
theorem Qm(x:Value)(w:World):(callMethod (.iface 104 x) "Size" #[]).run Tryz.prog w= .ok (.enter 273 #[x]) w:=by kernel_rfl
theorem Ql(x:Value)(w:World):(callMethod (.iface 105 x) "Size" #[]).run Tryz.prog w= .ok (.enter 275 #[x]) w:=by kernel_rfl
theorem Qj(x:Value)(w:World):(callMethod (.iface 305 x) "Size" #[]).run Tryz.prog w= .ok (.enter 278 #[x]) w:=by kernel_rfl
theorem OL(x:Value)(w:World):(callMethod (.iface 310 x) "Size" #[]).run Tryz.prog w= .ok (.enter 280 #[x]) w:=by kernel_rfl
theorem Qk(x:Value)(w:World):(callMethod (.iface 64 x) "Size" #[]).run Tryz.prog w= .ok (.enter 266 #[x]) w:=by kernel_rfl
theorem Nx(x:Value)(w:World):(callMethod (.iface 65 x) "Size" #[]).run Tryz.prog w= .ok (.enter 269 #[x]) w:=by kernel_rfl
end Go.Proofs.YtfbghcpdinlmcaaGreatDoor
namespace Go.VC
open Go.Sort
structure Tw(P:Program)(f:FuncId):Prop where
 call:∀(args:Array Value) (w:World),(callFunc f args).run P w= .ok (.enter f args) w
 some_:∀(blk off cap:Nat) (zs:List Int) (w:World),Holds (Value.int .i64) w blk off zs.toArray→blk<w.heap.size→zs.length<4611686018427387904→
  Calls P f #[.slice (some ⟨blk,off,none⟩) zs.length cap] w fun e w'=>e= .returned (.tuple #[])∧∃n os,w'=grow (putRow (Value.int .i64) (Sort.ahead w n) blk off (zs.mergeSort fun x y=>decide (x≤y)).toArray) os
 none_:∀(p:Option Addr) (cap:Nat) (w:World),Calls P f #[.slice p 0 cap] w fun e w'=>e= .returned (.tuple #[])∧w'=w
theorem MA{S:Nat→Prop}{H:Aa}:∀{xs:List Int} {cs:List Value},(HT .i64).reps S H cs xs→cs=xs.map (Value.int .i64)∧∀x∈xs,inK .i64 x
 | [],_,h=>by cases h;exact⟨rfl,fun x hx=>by cases hx⟩
 | x::xs,_,h=>by
   obtain⟨c,r,rfl,⟨rfl,h1⟩,h2⟩:=h;obtain⟨rfl,h3⟩:=MA h2;refine⟨rfl,fun y hy=>?_⟩;rcases AcA.1 hy with rfl | hy
   ·exact h1
   ·exact h3 y hy
theorem Mx{S:Nat→Prop}{H:Aa}:∀{xs:List Int},(∀x∈xs,inK .i64 x)→(HT .i64).reps S H (xs.map (Value.int .i64)) xs
 | [],_=>rfl
 | x::xs,h=>⟨[.int .i64 x],xs.map (Value.int .i64),rfl,⟨rfl,h x (by simp)⟩,Mx fun y hy=>h y (by simp [hy])⟩
theorem Zj{P:Program}{f:FuncId}{B:Nat→Prop}{H0 H:Aa}{ps:List Pc}{e:TypeId}{a:Option Addr}{n cap:Nat}{xs:List Int}{K:Value→Aa→Prop}(hf:Tw P f)(st:StB B H0 H ps)(i:Nat)(hp:ps[i]? =some (pS (HT .i64) e a n cap xs))(hlen:xs.length<4611686018427387904)
  (k:∀H',StB B H0 H' (ps.set i (pS (HT .i64) e a n cap (xs.mergeSort fun x y=>decide (x≤y))))→K (.tuple #[]) H'):Ag P f #[.slice a n cap] H K:=by
 obtain⟨hown,-⟩:=st.at_ i hp;obtain⟨cs,⟨hcl,hcase⟩,hreps⟩:=hown;obtain⟨rfl,hrng⟩:=MA hreps;refine⟨fun w hw=>⟨hf.call _ w,?_⟩⟩;subst hw;rcases hcase with⟨he,hn0⟩ | ⟨b,c,l,he,-,hb,hnc,hcm,hll,htk⟩
 ·injection he with e1 e2 e3
  subst e1;subst e2;subst e3;obtain rfl:=AaH hn0;refine(hf.none_ none 0 w).mono ?_;rintro _ _ ⟨rfl,rfl⟩;exact⟨_,rfl,Env.refl _,k _ (by rw [show([]:List Int).mergeSort (fun x y=>decide (x≤y))=[] by simp];exact st.say i hp _ (st.at_ i hp) (fun k hk=>hk))⟩
 ·injection he with e1 e2 e3
  subst e1;subst e2;subst e3;rw [show xs.length*(HT .i64).size=xs.length from AaJ _]at htk;rw [show cap*(HT .i64).size=cap from AaJ _]at hll;have hbl:=(Aa7.1 hb).1;have hsl:(xs.mergeSort fun x y=>decide (x≤y)).length=xs.length:=List.length_mergeSort _;have hH:Holds (Value.int .i64) w b 0 xs.toArray:=holds_of_blockI (e:=e) (cur:=l.toArray) hb (by simpa using htk);refine(hf.some_ b 0 cap xs w hH hbl hlen).mono ?_;rintro _ w' ⟨rfl,n,os,rfl⟩;have hbw:=heap_sortedI (n:=n) (os:=os) (xs.mergeSort fun x y=>decide (x≤y)).toArray hb;obtain⟨-,-,-,hsz,hoth⟩:=grownBy_sortedI (w:=w) (g:=b) (n:=n) (os:=os) (xs.mergeSort fun x y=>decide (x≤y)).toArray;refine⟨_,rfl,⟨rfl,rfl,rfl⟩,k _ (st.upd i hp (fun j hj=>hoth j hj.1 fun e=>?_) _ ⟨⟨_,⟨?_,.inr ⟨b,cap,(putCells (Value.int .i64) 0 (xs.mergeSort fun x y=>decide (x≤y)).toArray l.toArray).toList,?_,AaY _,?_,by omega,hcm,?_,?_⟩⟩,Mx fun x hx=>hrng x (List.mem_mergeSort.1 hx)⟩,fun k hk=>hk.elim⟩ (fun k hk=>.inl hk) (fun k hk=>?_) hsz)⟩
  ·cases e;exact hj.2 (.inl ⟨0,_,_,rfl⟩)
  ·rw [Ab6];exact(AaJ _).symm
  ·rw [hsl]
  ·show _=_;rw [hbw]
  ·rw [AaL];unfold putCells;rw [Array.size_mapIdx];simp only [List.size_toArray,hll];exact(AaJ _).symm
  ·rw [show(xs.mergeSort fun x y=>decide (x≤y)).length*(HT .i64).size=(xs.mergeSort fun x y=>decide (x≤y)).length from AaJ _];exact take_putCellsI l.toArray _ (by rw [hsl];simpa [hll]using hnc)
  ·have h1:=(st.in_ i hp hk).2;exact AbA h1 hsz
end Go.VC
namespace Go.Proofs.YtfbghcpdinlmcaaGreatDoor
open Go.VC
def Vf:Go.Shelf.Ren:=⟨fun | 189=>140 | 125=>181 | 257=>180 | 128=>206 | 129=>207 | 294=>197 | 295=>198 | 296=>199 | 297=>200 | 298=>201 | 299=>202 | 216=>203 | 300=>204 | 301=>205 | 328=>219 | 329=>220 | 330=>221 | 331=>222 | 332=>223 | 215=>224 | 343=>235 | n=>n,fun | 28=>41 | 3=>3 | 46=>218 | 0=>0 | 51=>332 | 53=>99 | 4=>4 | 183=>325 | 182=>324 | 131=>260 | 5=>5 | 9=>9 | 218=>344 | 222=>348 | 228=>359 | 229=>247 | n=>n,fun | n=>n⟩
theorem RA:Go.Proofs.Lays.n189 Tryz.prog Vf:={
 mixed:=by kernel_rfl
 f125:=Tryz.func181.trans (congrArg some (by kernel_rfl))
 f128:=Tryz.func206.trans (congrArg some (by kernel_rfl))
 f129:=Tryz.func207.trans (congrArg some (by kernel_rfl))
 f189:=Tryz.func140.trans (congrArg some (by kernel_rfl))
 f215:=Tryz.func224.trans (congrArg some (by kernel_rfl))
 f216:=Tryz.func203.trans (congrArg some (by kernel_rfl))
 f257:=Tryz.func180.trans (congrArg some (by kernel_rfl))
 f294:=Tryz.func197.trans (congrArg some (by kernel_rfl))
 f295:=Tryz.func198.trans (congrArg some (by kernel_rfl))
 f296:=Tryz.func199.trans (congrArg some (by kernel_rfl))
 f297:=Tryz.func200.trans (congrArg some (by kernel_rfl))
 f298:=Tryz.func201.trans (congrArg some (by kernel_rfl))
 f299:=Tryz.func202.trans (congrArg some (by kernel_rfl))
 f300:=Tryz.func204.trans (congrArg some (by kernel_rfl))
 f301:=Tryz.func205.trans (congrArg some (by kernel_rfl))
 f328:=Tryz.func219.trans (congrArg some (by kernel_rfl))
 f329:=Tryz.func220.trans (congrArg some (by kernel_rfl))
 f330:=Tryz.func221.trans (congrArg some (by kernel_rfl))
 f331:=Tryz.func222.trans (congrArg some (by kernel_rfl))
 f332:=Tryz.func223.trans (congrArg some (by kernel_rfl))
 f343:=Tryz.func235.trans (congrArg some (by kernel_rfl))
 t0:=Tryz.underlying0
 a0:=Tryz.isAgg0
 z0:=Tryz.sizeOf0
 v0:=Tryz.zeroValue0
 t3:=Tryz.underlying3
 a3:=Tryz.isAgg3
 z3:=Tryz.sizeOf3
 v3:=Tryz.zeroValue3
 t4:=Tryz.underlying4
 a4:=Tryz.isAgg4
 z4:=Tryz.sizeOf4
 v4:=Tryz.zeroValue4
 t5:=Tryz.underlying5
 a5:=Tryz.isAgg5
 z5:=Tryz.sizeOf5
 v5:=Tryz.zeroValue5
 t9:=Tryz.underlying9
 a9:=Tryz.isAgg9
 z9:=Tryz.sizeOf9
 v9:=Tryz.zeroValue9
 t28:=Tryz.underlying41
 a28:=Tryz.isAgg41
 z28:=Tryz.sizeOf41
 v28:=Tryz.zeroValue41
 t46:=Tryz.underlying218
 a46:=Tryz.isAgg218
 z46:=Tryz.sizeOf218
 v46:=Tryz.zeroValue218
 t51:=Tryz.underlying332
 a51:=Tryz.isAgg332
 z51:=Tryz.sizeOf332
 v51:=Tryz.zeroValue332
 t53:=Tryz.underlying99
 a53:=Tryz.isAgg99
 z53:=Tryz.sizeOf99
 v53:=Tryz.zeroValue99
 t131:=Tryz.underlying260
 a131:=Tryz.isAgg260
 z131:=Tryz.sizeOf260
 v131:=Tryz.zeroValue260
 t182:=Tryz.underlying324
 a182:=Tryz.isAgg324
 z182:=Tryz.sizeOf324
 v182:=Tryz.zeroValue324
 t183:=Tryz.underlying325
 a183:=Tryz.isAgg325
 z183:=Tryz.sizeOf325
 v183:=Tryz.zeroValue325
 t218:=Tryz.underlying344
 a218:=Tryz.isAgg344
 z218:=Tryz.sizeOf344
 v218:=Tryz.zeroValue344
 t222:=Tryz.underlying348
 a222:=Tryz.isAgg348
 z222:=Tryz.sizeOf348
 v222:=Tryz.zeroValue348
 t228:=Tryz.underlying359
 a228:=Tryz.isAgg359
 z228:=Tryz.sizeOf359
 v228:=Tryz.zeroValue359
 t229:=Tryz.underlying247
 a229:=Tryz.isAgg247
 z229:=Tryz.sizeOf247
 v229:=Tryz.zeroValue247}
theorem XZ:Tw Tryz.prog 140 where
 call:=Tryz.call140
 some_:=fun blk off cap zs w hH hblk hsz=>Any.slices_Sort_int RA blk off cap zs w hH hblk hsz
 none_:=fun p cap w=>Any.slices_Sort_int_none RA p cap w
end Go.Proofs.YtfbghcpdinlmcaaGreatDoor
namespace Go.VC
def FW(ro:Option Nat):Fence:={Fence.wide with round:=ro}
def OM(ds:List Nat):List Deferred:=ds.map fun D=>{target:=.collected D,args:= #[]}
structure AtD(ds:List Nat)(fr:Fr)(a:Act):Prop where
 tmps:a.tmps.toList=fr
 defers:a.defers=OM ds
structure Xq(P:Program)(l:Nat)(args:Array Value)(H:Aa)(K:Value→Aa→Prop):Prop where
 in_::
 out_:∀w:World,w.heap=H→∃f tmps assign body,(Instr.yield l args).run P w= .ok (.round l f tmps assign body) w∧RoundIn (FW none) 0 P l f tmps assign body w fun e w'=>∃v,e= .returned v∧Env w w'∧K v w'.heap
def yK(P:Program)(o:Oper)(fr:Fr)(H:Aa)(K:Value→Aa→Prop):Prop:=
 match o.op with
 | .call {callee:=.value f,args, .. }=>evK fr f fun g=>match g with
   | .func (.yield l) first cap=>Gm fr args.toList fun vs=>Xq P l (first.toList++vs).toArray H K
   | _=>opK P false (fun _=>True) o fr H K
 | .defer _=>False
 | _=>opK P false (fun _=>True) o fr H K
def Zw(P:Program)(o:Oper)(want:Bool)(t:Nat)(fr:Fr)(H:Aa)(K:Fr→Aa→Prop):Prop:=
 rdK fr t fun v=>match v with
  | .bool b=>AB b
    (wrK fr t (.bool true) fun fr1=>match want with
     | true=>yK P o fr1 H fun v H'=>C5 o.dst fr1 v fun fr'=>apK K fr' H'
     | false=>C5 o.dst fr1 undef fun fr'=>apK K fr' H)
    (wrK fr t (.bool false) fun fr1=>match want with
     | false=>yK P o fr1 H fun v H'=>C5 o.dst fr1 v fun fr'=>apK K fr' H'
     | true=>C5 o.dst fr1 undef fun fr'=>apK K fr' H)
  | .tuple _=>C5 o.dst fr undef fun fr'=>apK K fr' H
  | _=>False
abbrev KD:=Fr→List Nat→Aa→Prop
def WQ(w0:World)(Q:Exit→Fr→List Nat→Aa→Prop):Exit→Act→World→Prop
 | .panic _,_,_=>False
 | .outgrown,_,_=>False
 | e,a,w=>∃fr ds,AtD ds fr a∧Env w0 w∧Q e fr ds w.heap
def Ub(X:List (Nat×KD))(id:Nat)(fr:Fr)(ds:List Nat)(H:Aa):Prop:=
 match X with
 | []=>False
 | (j,k)::X=>match Nat.beq j id with
   | true=>k fr ds H
   | false=>Ub X id fr ds H
def QxD(kn:KD)(X:List (Nat×KD))(kr:KD)(e:Exit)(fr:Fr)(ds:List Nat)(H:Aa):Prop:=
 match e with
 | .normal=>kn fr ds H
 | .exit id=>Ub X id fr ds H
 | .ret=>kr fr ds H
 | _=>False
structure ZA(P:Program)(ro:Option Nat)(c:Code)(fr:Fr)(ds:List Nat)(H:Aa)(X:List (Nat×KD))(kr:KD):Prop where
 in_::
 out_:∀(n:Nat) (a:Act) (w:World),AtD ds fr a→w.heap=H→(Code.loop c).wpIn (FW ro) n P (WQ w (QxD (fun _ _ _=>False) X kr)) a w
structure VRF(P:Program)(g:Operand)(ps:Array Tmp)(assign body:Code)(fr:Fr)(ds:List Nat)(H:Aa)(kn:KD)(X:List (Nat×KD))(kr:KD):Prop where
 in_::
 out_:∀(n:Nat) (a:Act) (w:World),AtD ds fr a→w.heap=H→(Code.rangeFunc g ps assign body).wpIn (FW none) n P (WQ w (QxD kn X kr)) a w
section
variable(P:Program)(ro:Option Nat)(a b:Code)(fr:Fr)(ds:List Nat)(H:Aa)(kn:KD)(X:List (Nat×KD))(kr:KD)
end
structure VRet(P:Program)(rs:List ResultVar)(R:Value→Aa→Prop)(fr:Fr)(ds:List Nat)(H:Aa):Prop where
 in_::
 nd:ds.Nodup
 open_:∀D∈ds,H[D]? =some (.deferred (some []))
 res:∀H',Agr (fun k=>k∉ds) H H'→H'.size=H.size→Mf P rs fr H' R
section
variable{B:Nat→Prop}{H0 H:Aa}{ps qs:List Pc}{p:Pc}
theorem StB.perm(st:StB B H0 H ps)(h:ps.Perm qs):StB B H0 H qs:=
 ⟨st.old,st.lt0,st.size,fun p hp=>st.oks p (h.mem_iff.2 hp),fun p hp=>st.rng p (h.mem_iff.2 hp),(h.pairwise_iff fun{x y} hxy k hk hk'=>hxy k hk' hk).1 st.dis⟩
theorem StB.sub(st:StB B H0 H ps)(h:qs.Sublist ps):StB B H0 H qs:=
 ⟨st.old,st.lt0,st.size,fun p hp=>st.oks p (h.subset hp),fun p hp=>st.rng p (h.subset hp),st.dis.sublist h⟩
end
section
variable{α:Type}{T:Ty α}{e:TypeId}{a:Option Addr}{n cap:Nat}{xs:List α}{B:Nat→Prop}{H0 H:Aa}{p1 p2:Pc}{rest:List Pc}
end
section
variable{B:Nat→Prop}{H0 H:Aa}{ps rest:List Pc}
theorem StB.pickN(st:StB B H0 H ps)(n:Nat)(is:List Nat)(hn:is.Nodup):StB B H0 H ((is.filterMap fun i=>(ps.take n)[i]?)++ps.drop n):=by
 have e:=List.take_append_drop n ps;rw [←e]at st;generalize ps.take n=qs at*;generalize ps.drop n=rs at*;obtain⟨d1,d2,d3⟩:=Ab5.1 st.dis;have st1:StB B H0 H qs:=st.sub (List.sublist_append_left _ _);have st2:=st1.pick is hn;have hm:∀q,q∈is.filterMap (fun i=>qs[i]?)→q∈qs:=fun q hq=>by
  obtain⟨i,-,hi⟩:=AbR.1 hq;exact Aa3 hi
 refine⟨st.old,st.lt0,st.size,fun q hq=>?_,fun q hq k hk=>?_,Ab5.2 ⟨st2.dis,d2,fun q hq r hr=>d3 q (hm q hq) r hr⟩⟩
 ·rcases AaC.1 hq with hq | hq
  ·exact st2.oks q hq
  ·exact st.oks q (AaC.2 (.inr hq))
 ·rcases AaC.1 hq with hq | hq
  ·exact st2.rng q hq k hk
  ·exact st.rng q (AaC.2 (.inr hq)) k hk
end
end Go.VC
namespace Go.Proofs.YtfbghcpdinlmcaaGreatDoor
open Go.VC
abbrev kI:Int→Value:=Value.int .i64
theorem R9:KR Tryz.prog 3 (KX (α:=Int)) kI:=KR.ofE Tryz.underlying3 (ZK .i64)
theorem RD:IE Tryz.prog 251 3 3 (.int .i64 0):=⟨rfl,rfl⟩
abbrev Dom(mm:Int→Option Value):Int→Prop:=fun q=>(mm q).isSome=true
abbrev tIk:Ty Int:=HT .i64
theorem Fl:∀(n:Nat) (l:List Int),l.Nodup→(∀x∈l,0≤x∧x<(n:Int))→l.length≤n
 | 0,l,_,h=>by
   cases l with
   | nil=>exact AaA _
   | cons x l=>have:=h x AbU;omega
 | n+1,l,hd,h=>by
   have h1:=Fl n (l.filter fun x=>decide (x<(n:Int))) (hd.filter _) (fun x hx=>by
    obtain⟨h1,h2⟩:=Ac6.1 hx;exact⟨(h x h1).1,by simpa using h2⟩)
   have h2:l.length≤(l.filter fun x=>decide (x<(n:Int))).length+1:=by
    clear h1
    induction l with
    | nil=>simp
    | cons x l ih=>
      rw [List.nodup_cons]at hd;by_cases hx:x<(n:Int)
      ·rw [List.filter_cons_of_pos (by simpa using hx)];have:=ih hd.2 (fun y hy=>h y (AbN _ hy));simp only [AaO];omega
      ·rw [List.filter_cons_of_neg (by simpa using hx)];have hxn:x=(n:Int):=by have:=h x AbU;omega
       have:l.filter (fun x=>decide (x<(n:Int)))=l:=List.filter_eq_self.2 fun y hy=>by
        have h3:=h y (AbN _ hy);have:y≠x:=fun e=>hd.1 (e ▸ hy);rw [decide_eq_true_eq];omega
       rw [this];simp
   omega
theorem L2{x:Int}(h:0≤x∧x<65536):inK .i64 x:=⟨by simp [IntKind.min,IntKind.signed,IntKind.bits];omega,by simp [IntKind.max,IntKind.signed,IntKind.bits];omega⟩
theorem QB{ks:List Int}(h:ks.Nodup):(ks.mergeSort fun x y=>decide (x≤y)).Pairwise (·<·):=by
 have h1:(ks.mergeSort fun x y=>decide (x≤y)).Pairwise (·≤·):=(List.pairwise_mergeSort (fun a b c h1 h2=>by simp only [decide_eq_true_eq]at*;omega) (fun a b=>by simp only [AaN,decide_eq_true_eq];omega) _).imp fun h=>of_decide_eq_true h;have h2:(ks.mergeSort fun x y=>decide (x≤y)).Nodup:=(List.mergeSort_perm _ _).nodup_iff.2 h;exact(h1.and h2).imp fun⟨h3,h4⟩=>by omega
end Go.Proofs.YtfbghcpdinlmcaaGreatDoor
