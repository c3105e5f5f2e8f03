/- Parts of the proof: PPa1, PDp1, PDBl, PSpk04, PNfa7, PDTx, VElem, PDp2, PPa2, PPa3, PPa4, PRd4 -/
import Derived.Test.YtfbghcpdinlmcaaGreatDoorKDn2
import Derived.Test.YtfbghcpdinlmcaaGreatDoorKDn3
set_option maxHeartbeats 64000000
open Bool renaming and_eq_true → AaK
open Int renaming toNat_natCast → AaD, eq_ofNat_of_zero_le → AaG
open List renaming length_append → Aa0, perm_append_singleton → Aa1, length_cons → Aa2, length_nil → Aa4, toList_toArray → Aa6, length_singleton → Aa8, getElem?_eq_some_iff → Aa9, append_assoc → AaB, getElem?_set_ne → AaC, all_eq_true → AaE, getElem?_eq_getElem → AaF, append_nil → AaH, getElem?_set_self → AaI, length_replicate → AaJ, length_set → AaL
open Nat renaming zero_add → Aa3, le_refl → Aa5, lt_succ_self → Aa7
open Option renaming isSome_iff_exists → AaA
set_option linter.unusedVariables false
set_option linter.unusedSimpArgs false
set_option maxRecDepth 100000
namespace Go.Proofs.YtfbghcpdinlmcaaGreatDoor
open Go.VC Go.Lib
def AW(a:ReM):ReM:=.alt a .eps
def TK(q:Option ReM)(p:ReM):ReM:=match q with
 | none=>p
 | some q=>.cat q p
def BA(a:ReM)(m:Nat):Nat→Option ReM
 | 0=>none
 | k+1=>some (TK (BA a m k) (if k<m then a else AW a))
def BH(a:ReM)(m:Nat)(n:Int):ReM:=
 if n<0 then(if m=0 then .star a else .cat ((BA a m m).getD .eps) (.star a))else if n=0 then .eps else(BA a m n.toNat).getD .eps
structure AF where
 place:Int
 alt:Option ReM
 meet:Option ReM
 sign:Nat
 row:Option ReM
 factor:Option ReM
def A0(f:AF):AF:=match f.factor with
 | none=>f
 | some p=>{f with row:=some (TK f.row p),factor:=none}
def BY(f:AF):AF:=
 let g:=A0 f
 let r:=g.row.getD .eps
 {g with meet:=some (match g.meet with | none=>r | some q=>if g.sign=38 then .and_ q r else .minus q r),row:=none}
def Cr(f:AF):AF:=
 let g:=BY f
 let r:=g.meet.getD .eps
 {g with alt:=some (match g.alt with | none=>r | some q=>.alt q r),meet:=none}
def DR(place:Int):AF:=⟨place,none,none,0,none,none⟩
def Dt(t:ByteArray)(i:Nat):Bool:=decide (48≤bt t i∧bt t i≤57)
def Bz(t:ByteArray):Nat→Nat→Nat→Nat×Nat
 | 0,i,v=>(v,i)
 | k+1,i,v=>if Dt t i then Bz t k (i+1) (10*v+(bt t i - 48))else(v,i)
def upM(t:ByteArray)(m i:Nat):Sum (Nat×Nat) (Int×Nat):=
 if bt t i=44 then(if bt t (i+1)=125 then .inr (-1,i+1)else if Dt t (i+1)then .inr (((Bz t 3 (i+1) 0).1:Int),(Bz t 3 (i+1) 0).2)else .inl (20,i+1))else .inr ((m:Int),i)
def E9(t:ByteArray)(from_ m:Nat)(n:Int)(i:Nat):Sum (Nat×Nat) (Nat×Int×Nat):=
 if bt t i=125 then(if 255<m∨255<n∨(0≤n∧n<(m:Int))then .inl (22,from_)else .inr (m,n,i+1))else .inl (20,i)
def BF(t:ByteArray)(from_:Nat):Sum (Nat×Nat) (Nat×Int×Nat):=
 if Dt t (from_+1)then(match upM t (Bz t 3 (from_+1) 0).1 (Bz t 3 (from_+1) 0).2 with
  | .inl e=>.inl e
  | .inr (n,i)=>E9 t from_ (Bz t 3 (from_+1) 0).1 n i)
 else .inl (20,from_+1)
theorem FA{t:ByteArray}:∀(k i v:Nat),i≤(Bz t k i v).2∧(Bz t k i v).2≤i+k∧(i≤t.size→(Bz t k i v).2≤t.size)
 | 0,i,v=>⟨Aa5 _,Aa5 _,fun h=>h⟩
 | k+1,i,v=>by
   unfold Bz;split
   ·rename_i h;obtain⟨h1,h2,h3⟩:=FA (t:=t) k (i+1) (10*v+(bt t i - 48));unfold Dt at h;have h:=of_decide_eq_true h;have hi:i<t.size:=Dc (by omega);exact⟨by omega,by omega,fun _=>h3 (by omega)⟩
   ·exact⟨Aa5 _,by omega,fun h=>h⟩
theorem KN{t:ByteArray}:∀(k i v:Nat),(Bz t k i v).1<(v+1)*10 ^ k
 | 0,i,v=>by unfold Bz;simp
 | k+1,i,v=>by
   unfold Bz;split
   ·rename_i h;unfold Dt at h;have h:=of_decide_eq_true h;have h1:=KN (t:=t) k (i+1) (10*v+(bt t i - 48));refine Nat.lt_of_lt_of_le h1 ?_;rw [Nat.pow_succ,Nat.mul_comm (10 ^ k) 10,←Nat.mul_assoc];exact Nat.mul_le_mul_right _ (by omega)
   ·show v<(v+1)*10 ^ (k+1);have:1≤10 ^ (k+1):=Nat.one_le_pow _ _ (by omega);have:=Nat.mul_le_mul (Aa5 (v+1)) this;omega
theorem Il{t:ByteArray}{p m j:Nat}{n:Int}(h:BF t p= .inr (m,n,j)):p<j∧j≤t.size∧m≤255∧n≤255∧(0≤n→(m:Int)≤n)∧ -1≤n:=by
 unfold BF at h;split at h
 ·obtain⟨a1,a2,-⟩:=FA (t:=t) 3 (p+1) 0;generalize Bz t 3 (p+1) 0=q at h a1 a2;split at h
  ·cases h
  ·rename_i n2 i2 hu;have hi2:q.2≤i2∧ -1≤n2:=by
    unfold upM at hu;split at hu
    ·split at hu
     ·cases hu;exact⟨by omega,by omega⟩
     ·split at hu
      ·obtain⟨b1,b2,-⟩:=FA (t:=t) 3 (q.2+1) 0;cases hu;exact⟨by omega,by omega⟩
      ·cases hu
    ·cases hu;exact⟨Aa5 _,by omega⟩
   unfold E9 at h;split at h
   ·rename_i h125;split at h
    ·cases h
    ·rename_i hc;cases h;have:i2<t.size:=Dc (by omega);refine⟨by omega,by omega,?_,?_,?_,hi2.2⟩<;>omega
   ·cases h
 ·cases h
def EF(c:Nat):Bool:=c==42|| c==43|| c==63|| c==123
def Ec(t:ByteArray)(i:Nat):Sum (Nat×Nat) (Nat×Int×Nat):=
 if bt t i=42 then .inr (0,-1,i+1)else if bt t i=43 then .inr (1,-1,i+1)else if bt t i=63 then .inr (0,1,i+1)else BF t i
structure RdS where
 i:Nat
 f:AF
 fs:List AF
def BO(t:ByteArray)(s:RdS):Sum (Nat×Nat) RdS:=
 if EF (bt t s.i)then(match s.f.factor with
  | none=>.inl (20,s.i)
  | some a=>match Ec t s.i with
    | .inl e=>.inl e
    | .inr (m,n,k)=>.inr ⟨k,{s.f with factor:=some (BH a m n)},s.fs⟩)
 else if bt t s.i=124 then .inr ⟨s.i+1,Cr s.f,s.fs⟩
 else if bt t s.i=38∨bt t s.i=45 then .inr ⟨s.i+1,{BY s.f with sign:=bt t s.i},s.fs⟩
 else if bt t s.i=41 then(match s.fs with
  | []=>.inl (20,s.i)
  | g::r=>.inr ⟨s.i+1,{g with factor:=(Cr s.f).alt},r⟩)
 else if bt t s.i=40 then(if 1000≤s.fs.length then .inl (23,s.i)else .inr ⟨s.i+1,DR s.i,A0 s.f::s.fs⟩)
 else match Bo t s.i with
  | .inl e=>.inl (10,e)
  | .inr (x,k)=>.inr ⟨k,{A0 s.f with factor:=some (.cls x)},s.fs⟩
theorem Pa{t:ByteArray}{s s':RdS}(h:BO t s= .inr s')(hi:s.i<t.size):s.i<s'.i∧s'.i≤t.size:=by
 unfold BO at h;split at h
 ·rename_i hp;split at h
  ·cases h
  ·split at h
   ·cases h
   ·rename_i m n k hpm;cases h;unfold Ec at hpm;split at hpm
    ·cases hpm;exact⟨Aa7 _,hi⟩
    ·split at hpm
     ·cases hpm;exact⟨Aa7 _,hi⟩
     ·split at hpm
      ·cases hpm;exact⟨Aa7 _,hi⟩
      ·have:=Il hpm;exact⟨this.1,this.2.1⟩
 ·split at h
  ·cases h;exact⟨Aa7 _,hi⟩
  ·split at h
   ·cases h;exact⟨Aa7 _,hi⟩
   ·split at h
    ·split at h
     ·cases h
     ·cases h;exact⟨Aa7 _,hi⟩
    ·split at h
     ·split at h
      ·cases h
      ·cases h;exact⟨Aa7 _,hi⟩
     ·split at h
      ·cases h
      ·rename_i x k hr;cases h;exact I6 hr
def SS(s:RdS):Sum (Nat×Int) ReM:=match s.fs with
 | []=>let r:=(Cr s.f).alt.getD .eps;if 2000<r.nodes then .inl (24,0)else .inr r
 | _::_=>.inl (21,s.f.place)
def U0(e:Nat×Nat):Nat×Int:=(e.1,(e.2:Int))
def Ge(t:ByteArray):Nat→RdS→Sum (Nat×Int) ReM
 | 0,s=>SS s
 | n+1,s=>if s.i<t.size then(match BO t s with
   | .inl e=>.inl (U0 e)
   | .inr s'=>Ge t n s')else SS s
def BE(t:ByteArray)(s:RdS):Sum (Nat×Int) ReM:=Ge t (t.size - s.i) s
theorem EP{t:ByteArray}:∀(n m:Nat) (s:RdS),t.size - s.i≤n→t.size - s.i≤m→Ge t n s=Ge t m s
 | 0,0,s,_,_=>rfl
 | 0,m+1,s,h,_=>by unfold Ge;rw [if_neg (by omega)]
 | n+1,0,s,_,h=>by unfold Ge;rw [if_neg (by omega)]
 | n+1,m+1,s,h1,h2=>by
   unfold Ge;by_cases hi:s.i<t.size
   ·rw [if_pos hi,if_pos hi];cases hs:BO t s with
    | inl e=>rfl
    | inr s'=>
      have:=Pa hs hi;exact EP n m s' (by omega) (by omega)
   ·rw [if_neg hi,if_neg hi]
theorem DA{t:ByteArray}{s s':RdS}(hi:s.i<t.size)(h:BO t s= .inr s'):BE t s=BE t s':=by
 have hk:=Pa h hi;have e:BE t s=Ge t (t.size - s.i - 1+1) s:=EP _ _ _ (Aa5 _) (by omega);rw [e,Ge,if_pos hi,h];exact EP _ _ _ (by omega) (Aa5 _)
theorem DS{t:ByteArray}{s:RdS}{e:Nat×Nat}(hi:s.i<t.size)(h:BO t s= .inl e):BE t s= .inl (U0 e):=by
 have e1:BE t s=Ge t (t.size - s.i - 1+1) s:=EP _ _ _ (Aa5 _) (by omega);rw [e1,Ge,if_pos hi,h]
theorem LB{t:ByteArray}{s:RdS}(hi:¬s.i<t.size):BE t s=SS s:=by
 unfold BE;rw [show t.size - s.i=0 by omega];rfl
def D8(t:ByteArray):Sum (Nat×Int) ReM:=if 1048576<t.size then .inl (1,0)else BE t ⟨0,DR (-1),[]⟩
inductive RwM
 | eps
 | cls (s:BitVec 256)
 | cat (a b:RwM)
 | alt (a b:RwM)
 | and_ (a b:RwM)
 | minus (a b:RwM)
 | rep (a:RwM) (m n:Int)
def AJ(m:Int):Nat:=if m= -2 then 1 else m.toNat
def RwM.den:RwM→ReM
 | .eps=>.eps
 | .cls s=>.cls s
 | .cat a b=>.cat a.den b.den
 | .alt a b=>.alt a.den b.den
 | .and_ a b=>.and_ a.den b.den
 | .minus a b=>.minus a.den b.den
 | .rep a m n=>BH a.den (AJ m) n
def A4(op x y:Int):RnM:=⟨op,0#256,x,y,0,0⟩
def Di(s:BitVec 256):RnM:=⟨1,s,0,0,0,0⟩
def B9(x m n:Int):RnM:=⟨7,0#256,x,0,m,n⟩
def QS(m n:Int):Prop:=(m= -2∧n= -1)∨(0≤m∧m≤255∧ -1≤n∧n≤255∧(0≤n→m≤n))
def KS(ws:List RwM)(d:RnM):RwM→Prop
 | .eps=>d=A4 0 0 0
 | .cls s=>d=Di s
 | .cat a b=>∃j k:Nat,d=A4 2 j k∧ws[j]? =some a∧ws[k]? =some b
 | .alt a b=>∃j k:Nat,d=A4 3 j k∧ws[j]? =some a∧ws[k]? =some b
 | .and_ a b=>∃j k:Nat,d=A4 5 j k∧ws[j]? =some a∧ws[k]? =some b
 | .minus a b=>∃j k:Nat,d=A4 6 j k∧ws[j]? =some a∧ws[k]? =some b
 | .rep a m n=>∃j:Nat,d=B9 j m n∧ws[j]? =some a∧QS m n
inductive Raw:List RnM→List RwM→Prop
 | nil:Raw [] []
 | add {ds:List RnM} {ws:List RwM} {d:RnM} {w:RwM}:Raw ds ws→KS ws d w→Raw (ds++[d]) (ws++[w])
theorem Raw.len{ds:List RnM}{ws:List RwM}(h:Raw ds ws):ds.length=ws.length:=by
 induction h with
 | nil=>rfl
 | add _ _ ih=>simp [ih]
theorem KS.more{ws us:List RwM}{d:RnM}:∀{w:RwM},KS ws d w→KS (ws++us) d w
 | .eps,h=>h
 | .cls s,h=>h
 | .cat a b,⟨j,k,h1,h2,h3⟩=>⟨j,k,h1,Gc h2,Gc h3⟩
 | .alt a b,⟨j,k,h1,h2,h3⟩=>⟨j,k,h1,Gc h2,Gc h3⟩
 | .and_ a b,⟨j,k,h1,h2,h3⟩=>⟨j,k,h1,Gc h2,Gc h3⟩
 | .minus a b,⟨j,k,h1,h2,h3⟩=>⟨j,k,h1,Gc h2,Gc h3⟩
 | .rep a m n,⟨j,h1,h2,h3⟩=>⟨j,h1,Gc h2,h3⟩
theorem Ur{α:Type}{l:List α}{x y:α}{i:Nat}(h:(l++[x])[i]? =some y):l[i]? =some y∨(i=l.length∧y=x):=by
 by_cases hi:i<l.length
 ·rw [List.getElem?_append_left hi]at h;exact .inl h
 ·rw [List.getElem?_append_right (by omega)]at h;have:i - l.length=0:=by
   have:=(Aa9.1 h).1;simp at this;omega
  rw [this]at h;exact .inr ⟨by omega,by simpa using h.symm⟩
theorem Raw.at_{ds:List RnM}{ws:List RwM}(h:Raw ds ws):∀{i:Nat} {w:RwM},ws[i]? =some w→∃d us vs,ds[i]? =some d∧ws=us++vs∧us.length=i∧KS us d w:=by
 induction h with
 | nil=>intro i w hw;cases hw
 | @add ds ws d w h1 h2 ih=>
   intro i w' hw;rcases Ur hw with hw | ⟨rfl,rfl⟩
   ·obtain⟨d',us,vs,h3,rfl,h4,h5⟩:=ih hw;exact⟨d',us,vs++[w],Gc h3,by simp,h4,h5⟩
   ·refine⟨d,ws,[w'],?_,rfl,rfl,h2⟩;rw [←h1.len];simp
theorem Raw.at2{ds:List RnM}{ws:List RwM}(h:Raw ds ws){i:Nat}{w:RwM}(hw:ws[i]? =some w):∃d,ds[i]? =some d∧KS ws d w:=by
 obtain⟨d,us,vs,h1,rfl,-,h3⟩:=h.at_ hw;exact⟨d,h1,h3.more⟩
structure FrD where
 place:Int
 alt:Int
 meet:Int
 sign:Nat
 row:Int
 factor:Int
def frL(f:FrD):List Value:=[.int .i64 f.place,.int .i64 f.alt,.int .i64 f.meet,.int .u8 (f.sign:Int),.int .i64 f.row,.int .i64 f.factor]
def tFr:Ty FrD where
 size:=6
 rep _ _ cs d:=cs=frL d
 len h:=by rw [h];rfl
 frame h _:=h
 mono h _:=h
theorem R4(d:FrD):(frL d).all (·.oneCell')=true:=rfl
def IxR(ws:List RwM)(x:Int):Option ReM→Prop
 | none=>x= -1
 | some r=>∃(j:Nat) (w:RwM),x=(j:Int)∧ws[j]? =some w∧w.den=r
structure FrR(ws:List RwM)(f:FrD)(a:AF):Prop where
 place:f.place=a.place
 alt:IxR ws f.alt a.alt
 meet:IxR ws f.meet a.meet
 sign:f.sign=a.sign
 row:IxR ws f.row a.row
 factor:IxR ws f.factor a.factor
theorem IxR.more{ws us:List RwM}{x:Int}:∀{o:Option ReM},IxR ws x o→IxR (ws++us) x o
 | none,h=>h
 | some r,⟨j,w,h1,h2,h3⟩=>⟨j,w,h1,Gc h2,h3⟩
theorem FrR.more{ws us:List RwM}{f:FrD}{a:AF}(h:FrR ws f a):FrR (ws++us) f a:=⟨h.place,h.alt.more,h.meet.more,h.sign,h.row.more,h.factor.more⟩
theorem IxR.neg{ws:List RwM}{x:Int}{o:Option ReM}(h:IxR ws x o):x<0↔o=none:=by
 cases o with
 | none=>exact⟨fun _=>rfl,fun _=>by rw [show x= -1 from h];decide⟩
 | some r=>
   obtain⟨j,w,rfl,-⟩:=h;exact⟨fun h=>absurd h (by omega),fun h=>by cases h⟩
theorem IxR.new{ds:List RnM}{ws:List RwM}{w:RwM}{r:ReM}(h:Raw ds ws)(hr:w.den=r):IxR (ws++[w]) (ds.length:Int) (some r):=⟨ds.length,w,rfl,by rw [h.len];simp,hr⟩
def AV(ds:List RnM)(f:FrD):List RnM×FrD:=
 if f.factor<0 then(ds,f)else if f.row<0 then(ds,{f with row:=f.factor,factor:= -1})else(ds++[A4 2 f.row f.factor],{f with row:=ds.length,factor:= -1})
def Cw(ds:List RnM)(f:FrD):List RnM×FrD:=if f.row<0 then(ds++[A4 0 0 0],{f with row:=ds.length})else(ds,f)
def Ea(ds:List RnM)(f:FrD):List RnM×FrD:=
 if f.meet<0 then(ds,{f with meet:=f.row,row:= -1})else(ds++[A4 (if f.sign=38 then 5 else 6) f.meet f.row],{f with meet:=ds.length,row:= -1})
def C2(ds:List RnM)(f:FrD):List RnM×FrD:=Ea (Cw (AV ds f).1 (AV ds f).2).1 (Cw (AV ds f).1 (AV ds f).2).2
def Od(ds:List RnM)(f:FrD):List RnM×FrD:=
 if f.alt<0 then(ds,{f with alt:=f.meet,meet:= -1})else(ds++[A4 3 f.alt f.meet],{f with alt:=ds.length,meet:= -1})
def D3(ds:List RnM)(f:FrD):List RnM×FrD:=Od (C2 ds f).1 (C2 ds f).2
theorem FD(ds:List RnM)(f:FrD):(AV ds f).1.length≤ds.length+1:=by
 unfold AV;split;· simp
 split<;>simp
theorem Lp(ds:List RnM)(f:FrD):(Cw ds f).1.length≤ds.length+1:=by unfold Cw;split<;>simp
theorem SI(ds:List RnM)(f:FrD):(Ea ds f).1.length≤ds.length+1:=by unfold Ea;split<;>simp
theorem T4(ds:List RnM)(f:FrD):(Od ds f).1.length≤ds.length+1:=by unfold Od;split<;>simp
theorem HF(ds:List RnM)(f:FrD):(C2 ds f).1.length≤ds.length+3:=by
 unfold C2;have h1:=FD ds f;have h2:=Lp (AV ds f).1 (AV ds f).2;have h3:=SI (Cw (AV ds f).1 (AV ds f).2).1 (Cw (AV ds f).1 (AV ds f).2).2;omega
theorem Im(ds:List RnM)(f:FrD):(D3 ds f).1.length≤ds.length+4:=by
 unfold D3;have h1:=HF ds f;have h2:=T4 (C2 ds f).1 (C2 ds f).2;omega
structure MJ(ws:List RwM)(q:List RnM×FrD)(a:AF):Prop where
 ex:∃us,Raw q.1 (ws++us)∧FrR (ws++us) q.2 a
theorem MJ.then_{ws:List RwM}{q q':List RnM×FrD}{a a':AF}(h:MJ ws q a)(k:∀ws',Raw q.1 ws'→FrR ws' q.2 a→MJ ws' q' a'):MJ ws q' a':=by
 obtain⟨us,h1,h2⟩:=h;obtain⟨vs,h3,h4⟩:=k _ h1 h2;rw [AaB]at h3 h4;exact⟨_,h3,h4⟩
theorem Kj{ds:List RnM}{ws:List RwM}{f:FrD}{a:AF}(h:Raw ds ws)(g:FrR ws f a):MJ ws (AV ds f) (A0 a):=by
 unfold AV A0;cases hf:a.factor with
 | none=>
   rw [if_pos (g.factor.neg.2 hf)];exact⟨[],by simpa using h,by simpa using g⟩
 | some p=>
   rw [if_neg (fun e=>by have:=g.factor.neg.1 e;rw [hf]at this;cases this)];have gf:=g.factor;rw [hf]at gf;cases hr:a.row with
   | none=>
     rw [if_pos (g.row.neg.2 hr)];exact⟨[],by simpa using h,by simpa using⟨g.place,g.alt,g.meet,g.sign,gf,rfl⟩⟩
   | some q=>
     rw [if_neg (fun e=>by have:=g.row.neg.1 e;rw [hr]at this;cases this)];have gr:=g.row;rw [hr]at gr;obtain⟨j,w,e1,e2,e3⟩:=gr;obtain⟨k,v,e4,e5,e6⟩:=gf;refine⟨[.cat w v],h.add ⟨j,k,by rw [e1,e4],e2,e5⟩,⟨g.place,g.alt.more,g.meet.more,g.sign,?_,rfl⟩⟩;exact IxR.new h (by rw [←e3,←e6];rfl)
theorem JA{ds:List RnM}{ws:List RwM}{f:FrD}{a:AF}(h:Raw ds ws)(g:FrR ws f a):MJ ws (C2 ds f) (BY a):=by
 refine(Kj h g).then_ fun ws1 h1 g1=>?_;unfold C2;generalize AV ds f=q1 at*;obtain⟨ds1,f1⟩:=q1;have he:MJ ws1 (Cw ds1 f1) {A0 a with row:=some ((A0 a).row.getD .eps)}:=by
  unfold Cw;cases hr:(A0 a).row with
  | none=>
    rw [if_pos (g1.row.neg.2 hr)];exact⟨[.eps],h1.add rfl,⟨g1.place,g1.alt.more,g1.meet.more,g1.sign,IxR.new h1 rfl,g1.factor.more⟩⟩
  | some q=>
    rw [if_neg (fun e=>by have:=g1.row.neg.1 e;rw [hr]at this;cases this)];have gr:=g1.row;rw [hr]at gr;exact⟨[],by simpa using h1,by simpa using⟨g1.place,g1.alt,g1.meet,g1.sign,gr,g1.factor⟩⟩
 refine he.then_ fun ws2 h2 g2=>?_;generalize Cw ds1 f1=q2 at*;obtain⟨ds2,f2⟩:=q2;obtain⟨j,w,e1,e2,e3⟩:=g2.row;unfold Ea;cases hm:(A0 a).meet with
 | none=>
   rw [if_pos (g2.meet.neg.2 hm)];refine⟨[],by simpa using h2,?_⟩;rw [AaH];refine⟨g2.place,g2.alt,?_,g2.sign,rfl,g2.factor⟩;show IxR ws2 f2.row (some (match(A0 a).meet with | none=>_ | some q=>_));rw [hm];exact⟨j,w,e1,e2,e3⟩
 | some q=>
   rw [if_neg (fun e=>by have:=g2.meet.neg.1 e;rw [show({A0 a with row:=some ((A0 a).row.getD .eps)}:AF).meet=(A0 a).meet from rfl,hm]at this;cases this)];have gm:=g2.meet;rw [show({A0 a with row:=some ((A0 a).row.getD .eps)}:AF).meet=(A0 a).meet from rfl,hm]at gm;obtain⟨k,v,e4,e5,e6⟩:=gm;have hs:f2.sign=(A0 a).sign:=g2.sign;have fin:∀(x:RwM) (op:Int),KS ws2 (A4 op f2.meet f2.row) x→some x.den=(BY a).meet→MJ ws2 (ds2++[A4 op f2.meet f2.row],{f2 with meet:=(ds2.length:Int),row:= -1}) (BY a):=fun x op hx hxd=>
    ⟨[x],h2.add hx,⟨g2.place,g2.alt.more,by show IxR _ _ (BY a).meet;rw [←hxd];exact IxR.new h2 rfl,g2.sign,rfl,g2.factor.more⟩⟩
   by_cases h38:f2.sign=38
   ·rw [if_pos h38];refine fin (.and_ v w) 5 ⟨k,j,by rw [e1,e4],e5,e2⟩ ?_;show some (ReM.and_ v.den w.den)=some (match(A0 a).meet with | none=>_ | some q=>_);rw [hm];show _=some (if(A0 a).sign=38 then _ else _);rw [if_pos (by rw [←hs];exact h38),e3,e6]
   ·rw [if_neg h38];refine fin (.minus v w) 6 ⟨k,j,by rw [e1,e4],e5,e2⟩ ?_;show some (ReM.minus v.den w.den)=some (match(A0 a).meet with | none=>_ | some q=>_);rw [hm];show _=some (if(A0 a).sign=38 then _ else _);rw [if_neg (by rw [←hs];exact h38),e3,e6]
theorem Io{ds:List RnM}{ws:List RwM}{f:FrD}{a:AF}(h:Raw ds ws)(g:FrR ws f a):MJ ws (D3 ds f) (Cr a):=by
 refine(JA h g).then_ fun ws2 h2 g2=>?_;unfold D3;generalize C2 ds f=q2 at*;obtain⟨ds2,f2⟩:=q2;have gm:=g2.meet;have hfm:(BY a).meet=some ((BY a).meet.getD .eps):=rfl;rw [hfm]at gm;obtain⟨j,w,e1,e2,e3⟩:=gm;unfold Od;cases hm:(BY a).alt with
 | none=>
   rw [if_pos (g2.alt.neg.2 hm)];refine⟨[],by simpa using h2,?_⟩;rw [AaH];refine⟨g2.place,?_,rfl,g2.sign,g2.row,g2.factor⟩;show IxR ws2 f2.meet (some (match(BY a).alt with | none=>_ | some q=>_));rw [hm];exact⟨j,w,e1,e2,e3⟩
 | some q=>
   rw [if_neg (fun e=>by have:=g2.alt.neg.1 e;rw [hm]at this;cases this)];have ga:=g2.alt;rw [hm]at ga;obtain⟨k,v,e4,e5,e6⟩:=ga;refine⟨[.alt v w],h2.add ⟨k,j,by rw [e1,e4],e5,e2⟩,⟨g2.place,?_,rfl,g2.sign,g2.row.more,g2.factor.more⟩⟩;show IxR _ _ (some (match(BY a).alt with | none=>_ | some q=>_));rw [hm];exact IxR.new h2 (by show ReM.alt v.den w.den=_;rw [e3,e6])
end Go.Proofs.YtfbghcpdinlmcaaGreatDoor
namespace Go.Proofs.YtfbghcpdinlmcaaGreatDoor
open Go.VC
theorem YK{place:Nat→Option (Nat×Nat)}{c0 c1 c2 v0 v1 v2:Value}{zs:List Value}(p0:place 0=some (0,1))(p1:place 1=some (1,1))(p2:place 2=some (2,1))
  (h0:v0.cells= #[v0]) (h1:v1.cells= #[v1]) (h2:v2.cells= #[v2]):Instr.fill place ([c0,c1,c2]++zs).toArray [(0,v0),(1,v1),(2,v2)]=some ([v0,v1,v2]++zs).toArray:=by
 have e0:Ae ([c0,c1,c2]++zs) 0 [v0]=[v0,c1,c2]++zs:=rfl;have e1:Ae ([v0,c1,c2]++zs) 1 [v1]=[v0,v1,c2]++zs:=rfl;have e2:Ae ([v0,v1,c2]++zs) 2 [v2]=[v0,v1,v2]++zs:=rfl;rw [Bq p0 (by rw [h0];rfl) (by simp),h0,Aa6,e0,Bq p1 (by rw [h1];rfl) (by simp),h1,Aa6,e1,Bq p2 (by rw [h2];rfl) (by simp),h2,Aa6,Aa6,e2];rfl
theorem X2{place:Nat→Option (Nat×Nat)}{c0 c1 c2 v0 v1:Value}{zs bs:List Value}(hl:bs.length=zs.length)(p0:place 0=some (0,1))(p1:place 1=some (1,1))(p3:place 3=some (3,zs.length))
  (h0:v0.cells= #[v0]) (h1:v1.cells= #[v1]):Instr.fill place ([c0,c1,c2]++zs).toArray [(0,v0),(1,v1),(3,.agg bs.toArray)]=some ([v0,v1,c2]++bs).toArray:=by
 have e0:Ae ([c0,c1,c2]++zs) 0 [v0]=[v0,c1,c2]++zs:=rfl;have e1:Ae ([v0,c1,c2]++zs) 1 [v1]=[v0,v1,c2]++zs:=rfl;have e3:Ae ([v0,v1,c2]++zs) 3 bs=[v0,v1,c2]++bs:=by
  unfold Ae;rw [show([v0,v1,c2]++zs).take 3=[v0,v1,c2]from rfl,List.drop_eq_nil_of_le (by simp;omega),AaH]
 have ec:(Value.agg bs.toArray).cells=bs.toArray:=rfl;rw [Bq p0 (by rw [h0];rfl) (by simp),h0,Aa6,e0,Bq p1 (by rw [h1];rfl) (by simp),h1,Aa6,e1,Bq p3 (by rw [ec];simpa using hl) (by simp;omega),ec,Aa6,Aa6,e3];rfl
theorem QA(p q:Nat){S:Nat→Prop}{H:Aa}{K:Value→Prop}(k:K (.agg (EL (Bk p q)).toArray)):
  AH Tryz.prog (Instr.build 185 [(0,.int .i64 (p:Int)),(1,.int .i64 (q:Int)),(2,.bool true)].toArray) S H K:=by
 refine A6 Tryz.underlying185 rfl Xz Nh (EL (Bk p q)) ?_ k;unfold EL;rw [show(Bk p q).set=0#256 from rfl,Ih];exact YK (by kernel_rfl) (by kernel_rfl) (by kernel_rfl) rfl rfl rfl
theorem Q8(p q:Nat)(s:BitVec 256){S:Nat→Prop}{H:Aa}{K:Value→Prop}(k:K (.agg (EL (Ft p q s)).toArray)):
  AH Tryz.prog (Instr.build 185 [(0,.int .i64 (p:Int)),(1,.int .i64 (q:Int)),(3,.agg (Ap s).toArray)].toArray) S H K:=
 A6 Tryz.underlying185 rfl Xz Nh (EL (Ft p q s)) (X2 (zs:=List.replicate 256 (Value.bool false)) (by rw [show(Ap s).length=256 from Bj _ _,AaJ]) (by kernel_rfl) (by kernel_rfl) (by rw [AaJ];kernel_rfl) rfl rfl) k
def dbL(n:Nat)(v:Value):List Value:=[.int .i64 (n:Int),.int .i64 0,.int .i64 0,v]
abbrev tDb:TypeId:=81
section
variable{B:Nat→Prop}{H0 H:Aa}{rest:List Pc}{bb n:Nat}{v:Value}
theorem FO{K:Value→Aa→Prop}{a:Option Addr}{c p q:Nat}{es:List EdM}(st:StB B H0 H (pB tDb bb (dbL n (.slice a es.length c))::pS Cz 185 a es.length c es::rest))(hp:p≤2000000)(hq:q≤2000000)(hl:es.length+1≤4194304)
  (k:∀a' c' H',StB B H0 H' (pB tDb bb (dbL n (.slice a' (es++[Bk p q]).length c'))::pS Cz 185 a' (es++[Bk p q]).length c' (es++[Bk p q])::rest)→K (.tuple #[]) H'):
  Ag Tryz.prog 179 #[.pointer (some ⟨bb,0,none⟩),.int .i64 (p:Int),.int .i64 (q:Int)] H K:=by
 refine Ag.mk (R:=fun r H'=>r= .tuple #[]∧∃a' c',StB B H0 H' (pB tDb bb (dbL n (.slice a' (es++[Bk p q]).length c'))::pS Cz 185 a' (es++[Bk p q]).length c' (es++[Bk p q])::rest)) ?_ fun r H' ⟨h1,a',c',h2⟩=>by rw [h1];exact k a' c' H' h2
 refine Al.of_vc Tryz.func179 rfl (Tryz.call179 _) (fa Gs ?_);refine ld1 (v:=.slice a es.length c) J6 (by rw [(st.blk 0 rfl).cell];rfl) trivial ?_;refine QA p q (A2 HS (EL (Bk p q)) rfl (DL _) (by decide) (by decide) ?_);intro y H1 hy hs1 hb1 ha1;have st1:=st.skip hy ha1;refine KZ (ys:=[Bk p q]) st1 1 HS rfl (hb1.cells (o:=0) (cs:=EL (Bk p q)) fun j v hv=>by rw [Aa3];exact hv) (Ty.reps_one ⟨rfl,K4 hp hq _ _⟩) rfl (fun u hu=>AaE.1 (IS _) u hu) (by simp only [Aa2,Aa4];omega) (by decide) fun a9 c9 H9 st9 _=>?_;refine fa Gs (AT st9 0 J6 rfl (show 3<4 by decide) rfl fun H10 st10=>?_);(conv=>whnf);have el:es.length+[Bk p q].length=(es++[Bk p q]).length:=by simp
 rw [el]at st10;exact⟨rfl,a9,c9,st10⟩
end
theorem Ww{B:Nat→Prop}{H0:Aa}{bb:Nat}{ns:List RnM}{Av:Int}{v0:Value}(hv0:ReV B H0 v0 ns Av):∀(r:ReM),r.plain=true→∀{H:Aa} {rest:List Pc} {n i:Nat} {a:Option Addr} {c:Nat} {es:List EdM} {v:Value},Ba ns r i→v=v0→
  (st:StB B H0 H (pB tDb bb (dbL n (.slice a es.length c))::pS Cz 185 a es.length c es::rest))→n+stM r≤1000000→es.length+2*stM r≤4000000→
  Al Tryz.prog 139 #[.pointer (some ⟨bb,0,none⟩),v,.int .i64 (i:Int),.slice none 0 0] H fun u H'=>u= .tuple #[.int .i64 ((Ay r n).1:Nat),.int .i64 ((Ay r n).2.1:Nat)]∧∃a' c',StB B H0 H' (pB tDb bb (dbL (n+stM r) (.slice a' (es++(Ay r n).2.2).length c'))::pS Cz 185 a' (es++(Ay r n).2.2).length c' (es++(Ay r n).2.2)::rest):=fun r=>by
 obtain⟨hl,na,nc,rfl,h1⟩:=hv0;have hlt:∀{H:Aa} {ps:List Pc},StB B H0 H ps→∀k,B k→k<H0.size:=fun st=>st.lt0
 induction r with
 | eps=>
   intro hpl H rest n i a c es v ht hv st hn hl2;subst hv;simp only [stM]at hn hl2;obtain⟨d,hd,hop⟩:=ht;refine Al.of_vc Tryz.func139 rfl (Tryz.call139 _) (B0 (reL (.slice na ns.length nc) Av) rfl ?_);intro p H1 hp hs1 hb1 ha1;have st1:=(st.box hp hs1 hb1 ha1).perm (Aa1 _ _);refine fa BD ?_;refine ld1 (v:=.slice na ns.length nc) Cb (by rw [(st1.blk 0 rfl).cell];rfl) trivial ?_;refine ixr (i:=i) C6 (h1.frame st1.old) hd rfl ?_;rintro b2 o2 c2 hS2 hc2 ⟨rfl,hok⟩;refine ldN (cs:=rnL d) (by rw [Ai];exact Do) hc2 trivial ?_;refine Ak _ rnZ EU rfl ?_;intro x H3 hx hs3 hb3 ha3;have st3:=(st1.box hx hs3 hb3 ha3).perm (Aa1 _ _);refine AI (cs:=rnL d) st3 0 (by rw [Ai];rfl) rfl (by rw [Ai,AK];decide) (Be d) fun H4 st4=>?_;rw [Ax (show(rnL d).length=rnZ.length by rw [Ai,AK])]at st4;replace st4:StB B H0 H4 (pB tDb bb (dbL n (.slice a es.length c))::pS Cz 185 a es.length c es::pB 159 x (rnL d)::pB 56 p (reL (.slice na ns.length nc) Av)::rest):=st4.pickN 4 [2,3,0,1] (by decide);refine fa Ck ?_;refine ld1 (v:=.int .i64 (n:Int)) ct3 (by rw [(st4.blk 0 rfl).cell];rfl) trivial ?_;refine fa AN ?_;refine ld1 (v:=.int .i64 d.op) ct3 (by rw [(st4.blk 2 rfl).cell];exact BB d) trivial ?_;(conv=>whnf);rw [hop];refine fa Ck ?_;refine ld1 (v:=.int .i64 ((n:Nat):Int)) ct3 (by rw [(st4.blk 0 rfl).cell];rfl) trivial ?_;(conv=>whnf);rw [w64 (x:=((n:Nat):Int)+2) (by omega) (by omega),show((n:Nat):Int)+2=((n+2:Nat):Int) by omega];refine fa Ck (AT st4 0 ct3 rfl (show 0<4 by decide) rfl fun H5 st5=>?_);(conv=>whnf);rw [w64 (x:=(n:Int)+1) (by omega) (by omega),show(n:Int)+1=((n+1:Nat):Int) by omega];refine FO st5 (by omega) (by omega) (by first | omega | (simp only [Aa0,Aa2,Aa4];omega)) fun a6 c6 H6 st6=>?_;(conv=>whnf);rw [w64 (x:=(n:Int)+1) (by omega) (by omega),show(n:Int)+1=((n+1:Nat):Int) by omega];(conv=>whnf);exact⟨rfl,a6,c6,st6.pickN 4 [0,1] (by decide)⟩
 | cls s=>
   intro hpl H rest n i a c es v ht hv st hn hl2;subst hv;simp only [stM]at hn hl2;obtain⟨d,hd,hop,hset⟩:=ht;refine Al.of_vc Tryz.func139 rfl (Tryz.call139 _) (B0 (reL (.slice na ns.length nc) Av) rfl ?_);intro p H1 hp hs1 hb1 ha1;have st1:=(st.box hp hs1 hb1 ha1).perm (Aa1 _ _);refine fa BD ?_;refine ld1 (v:=.slice na ns.length nc) Cb (by rw [(st1.blk 0 rfl).cell];rfl) trivial ?_;refine ixr (i:=i) C6 (h1.frame st1.old) hd rfl ?_;rintro b2 o2 c2 hS2 hc2 ⟨rfl,hok⟩;refine ldN (cs:=rnL d) (by rw [Ai];exact Do) hc2 trivial ?_;refine Ak _ rnZ EU rfl ?_;intro x H3 hx hs3 hb3 ha3;have st3:=(st1.box hx hs3 hb3 ha3).perm (Aa1 _ _);refine AI (cs:=rnL d) st3 0 (by rw [Ai];rfl) rfl (by rw [Ai,AK];decide) (Be d) fun H4 st4=>?_;rw [Ax (show(rnL d).length=rnZ.length by rw [Ai,AK])]at st4;replace st4:StB B H0 H4 (pB tDb bb (dbL n (.slice a es.length c))::pS Cz 185 a es.length c es::pB 159 x (rnL d)::pB 56 p (reL (.slice na ns.length nc) Av)::rest):=st4.pickN 4 [2,3,0,1] (by decide);refine fa Ck ?_;refine ld1 (v:=.int .i64 (n:Int)) ct3 (by rw [(st4.blk 0 rfl).cell];rfl) trivial ?_;refine fa AN ?_;refine ld1 (v:=.int .i64 d.op) ct3 (by rw [(st4.blk 2 rfl).cell];exact BB d) trivial ?_;(conv=>whnf);rw [hop];refine fa Ck ?_;refine ld1 (v:=.int .i64 ((n:Nat):Int)) ct3 (by rw [(st4.blk 0 rfl).cell];rfl) trivial ?_;(conv=>whnf);rw [w64 (x:=((n:Nat):Int)+2) (by omega) (by omega),show((n:Nat):Int)+2=((n+2:Nat):Int) by omega];refine fa Ck (AT st4 0 ct3 rfl (show 0<4 by decide) rfl fun H5 st5=>?_);have hdis:=st5.apart2 (i:=0) (j:=1) rfl rfl (by decide);have hdis2:=st5.apart2 (i:=2) (j:=1) rfl rfl (by decide);have hb5:bb<H5.size∧¬slB (.slice a es.length c) bb:=⟨(st5.in_ 0 rfl rfl).2,fun h=>hdis bb rfl (.inl h)⟩;have hx5:x<H5.size∧¬slB (.slice a es.length c) x:=⟨(st5.in_ 2 rfl rfl).2,fun h=>hdis2 x rfl (.inl h)⟩;refine Ar.heldZ (fun k=>k<H5.size∧¬slB (.slice a es.length c) k) [15] (sq [0,1,2,3,4,5,6,7,8,9,10] (.f 11 (.f 12 (sq [13,14] (.f 15 .e))))) rfl (by kernel_rfl) (fa Gs ?_);refine ld1 (v:=.slice a es.length c) J6 (by rw [(st5.blk 0 rfl).cell];rfl) hb5 ?_;(conv=>whnf);rw [w64 (x:=(n:Int)+1) (by omega) (by omega),show(n:Int)+1=((n+1:Nat):Int) by omega];refine fa KA ?_;refine ldN (cs:=Ap d.set) (by rw [Aq];exact KW) ((st5.blk 2 rfl).cells fun j v hv=>ND d j v hv) hx5 ?_;(conv=>whnf);rw [hset];refine Q8 n (n+1) s (A2 HS (EL (Ft n (n+1) s)) rfl (DL _) (by decide) (by decide) ?_);intro y H6 hy hs6 hb6 ha6;have st6:=st5.skip hy ha6;refine⟨ha6.mono fun k hk=>by have:=hk.1;omega,?_⟩;refine KZ (ys:=[Ft n (n+1) s]) st6 1 HS rfl (hb6.cells (o:=0) (cs:=EL (Ft n (n+1) s)) fun j v hv=>by rw [Aa3];exact hv) (Ty.reps_one ⟨rfl,K4 (by omega) (by omega) _ _⟩) rfl (fun u hu=>AaE.1 (IS _) u hu) (by simp only [Aa2,Aa4];omega) (by decide) fun a9 c9 H9 st9 ha9=>?_;refine⟨(ha6.mono fun k hk=>by have:=hk.1;omega).trans (ha9.mono fun k hk=>⟨by have:=hk.1;omega,hk.2⟩),?_⟩;refine fa Gs (AT st9 0 J6 rfl (show 3<4 by decide) rfl fun H10 st10=>?_);(conv=>whnf);rw [w64 (x:=(n:Int)+1) (by omega) (by omega),show(n:Int)+1=((n+1:Nat):Int) by omega];(conv=>whnf);have el:es.length+[Ft n (n+1) s].length=(es++[Ft n (n+1) s]).length:=by simp
   rw [el]at st10;exact⟨rfl,a9,c9,st10.pickN 4 [0,1] (by decide)⟩
 | cat r1 r2 ih1 ih2=>
   intro hpl H rest n i a c es v ht hv st hn hl2;subst hv;simp only [ReM.plain,AaK]at hpl;simp only [stM]at hn hl2;obtain⟨d,j,k,hd,hop,hl1,hl2',hta,htb⟩:=ht;have hm1:=BX r1 hpl.1 n;have hm2:=BX r2 hpl.2 (n+stM r1);have hi1:=Bn r1 hpl.1 n;have hi2:=Bn r2 hpl.2 (n+stM r1);refine Al.of_vc Tryz.func139 rfl (Tryz.call139 _) (B0 (reL (.slice na ns.length nc) Av) rfl ?_);intro p H1 hp hs1 hb1 ha1;have st1:=(st.box hp hs1 hb1 ha1).perm (Aa1 _ _);refine fa BD ?_;refine ld1 (v:=.slice na ns.length nc) Cb (by rw [(st1.blk 0 rfl).cell];rfl) trivial ?_;refine ixr (i:=i) C6 (h1.frame st1.old) hd rfl ?_;rintro b2 o2 c2 hS2 hc2 ⟨rfl,hok⟩;refine ldN (cs:=rnL d) (by rw [Ai];exact Do) hc2 trivial ?_;refine Ak _ rnZ EU rfl ?_;intro x H3 hx hs3 hb3 ha3;have st3:=(st1.box hx hs3 hb3 ha3).perm (Aa1 _ _);refine AI (cs:=rnL d) st3 0 (by rw [Ai];rfl) rfl (by rw [Ai,AK];decide) (Be d) fun H4 st4=>?_;rw [Ax (show(rnL d).length=rnZ.length by rw [Ai,AK])]at st4;replace st4:StB B H0 H4 (pB tDb bb (dbL n (.slice a es.length c))::pS Cz 185 a es.length c es::pB 159 x (rnL d)::pB 56 p (reL (.slice na ns.length nc) Av)::rest):=st4.pickN 4 [2,3,0,1] (by decide);refine fa Ck ?_;refine ld1 (v:=.int .i64 (n:Int)) ct3 (by rw [(st4.blk 0 rfl).cell];rfl) trivial ?_;refine fa AN ?_;refine ld1 (v:=.int .i64 d.op) ct3 (by rw [(st4.blk 2 rfl).cell];exact BB d) trivial ?_;(conv=>whnf);rw [hop];refine ldN (cs:=reL (.slice na ns.length nc) Av) Dr ((st4.blk 3 rfl).cells fun j v hv=>by rw [Aa3];exact hv) trivial ?_;refine fa Bh ?_;refine ld1 (v:=.int .i64 d.l) ct3 (by rw [(st4.blk 2 rfl).cell,Aa3];exact ET d) trivial ?_;(conv=>whnf);rw [hl1];refine Ag.mk (ih1 hpl.1 hta rfl st4 (by omega) (by first | omega | (simp only [Aa0];omega))) ?_;rintro _ H5 ⟨rfl,a5,c5,st5⟩;refine ldN (cs:=reL (.slice na ns.length nc) Av) Dr ((st5.blk 3 rfl).cells fun j v hv=>by rw [Aa3];exact hv) trivial ?_;refine fa CA ?_;refine ld1 (v:=.int .i64 d.r) ct3 (by rw [(st5.blk 2 rfl).cell,Aa3];exact JO d) trivial ?_;(conv=>whnf);rw [hl2'];refine Ag.mk (ih2 hpl.2 htb rfl st5 (by omega) (by first | omega | (simp only [Aa0];omega))) ?_;rintro _ H6 ⟨rfl,a6,c6,st6⟩;refine FO st6 (by omega) (by omega) (by first | omega | (simp only [Aa0,Aa2,Aa4];omega)) fun a7 c7 H7 st7=>?_;(conv=>whnf);have e1:es++(Ay r1 n).2.2++(Ay r2 (n+stM r1)).2.2++[Bk (Ay r1 n).2.1 (Ay r2 (n+stM r1)).1]=es++(Ay (.cat r1 r2) n).2.2:=by simp [Ay]
   rw [e1,show n+stM r1+stM r2=n+stM (.cat r1 r2) by simp only [stM];omega]at st7;exact⟨rfl,a7,c7,st7.pickN 4 [0,1] (by decide)⟩
 | alt r1 r2 ih1 ih2=>
   intro hpl H rest n i a c es v ht hv st hn hl2;subst hv;simp only [ReM.plain,AaK]at hpl;simp only [stM]at hn hl2;obtain⟨d,j,k,hd,hop,hl1,hl2',hta,htb⟩:=ht;have hm1:=BX r1 hpl.1 (n+1);have hm2:=BX r2 hpl.2 (n+1+stM r1);have hi1:=Bn r1 hpl.1 (n+1);have hi2:=Bn r2 hpl.2 (n+1+stM r1);refine Al.of_vc Tryz.func139 rfl (Tryz.call139 _) (B0 (reL (.slice na ns.length nc) Av) rfl ?_);intro p H1 hp hs1 hb1 ha1;have st1:=(st.box hp hs1 hb1 ha1).perm (Aa1 _ _);refine fa BD ?_;refine ld1 (v:=.slice na ns.length nc) Cb (by rw [(st1.blk 0 rfl).cell];rfl) trivial ?_;refine ixr (i:=i) C6 (h1.frame st1.old) hd rfl ?_;rintro b2 o2 c2 hS2 hc2 ⟨rfl,hok⟩;refine ldN (cs:=rnL d) (by rw [Ai];exact Do) hc2 trivial ?_;refine Ak _ rnZ EU rfl ?_;intro x H3 hx hs3 hb3 ha3;have st3:=(st1.box hx hs3 hb3 ha3).perm (Aa1 _ _);refine AI (cs:=rnL d) st3 0 (by rw [Ai];rfl) rfl (by rw [Ai,AK];decide) (Be d) fun H4 st4=>?_;rw [Ax (show(rnL d).length=rnZ.length by rw [Ai,AK])]at st4;replace st4:StB B H0 H4 (pB tDb bb (dbL n (.slice a es.length c))::pS Cz 185 a es.length c es::pB 159 x (rnL d)::pB 56 p (reL (.slice na ns.length nc) Av)::rest):=st4.pickN 4 [2,3,0,1] (by decide);refine fa Ck ?_;refine ld1 (v:=.int .i64 (n:Int)) ct3 (by rw [(st4.blk 0 rfl).cell];rfl) trivial ?_;refine fa AN ?_;refine ld1 (v:=.int .i64 d.op) ct3 (by rw [(st4.blk 2 rfl).cell];exact BB d) trivial ?_;(conv=>whnf);rw [hop];refine fa Ck ?_;refine ld1 (v:=.int .i64 ((n:Nat):Int)) ct3 (by rw [(st4.blk 0 rfl).cell];rfl) trivial ?_;(conv=>whnf);rw [w64 (x:=((n:Nat):Int)+1) (by omega) (by omega),show((n:Nat):Int)+1=((n+1:Nat):Int) by omega];refine fa Ck (AT st4 0 ct3 rfl (show 0<4 by decide) rfl fun H5 st5=>?_);replace st5:StB B H0 H5 (pB tDb bb (dbL (n+1) (.slice a es.length c))::pS Cz 185 a es.length c es::pB 159 x (rnL d)::pB 56 p (reL (.slice na ns.length nc) Av)::rest):=st5;refine ldN (cs:=reL (.slice na ns.length nc) Av) Dr ((st5.blk 3 rfl).cells fun j v hv=>by rw [Aa3];exact hv) trivial ?_;refine fa Bh ?_;refine ld1 (v:=.int .i64 d.l) ct3 (by rw [(st5.blk 2 rfl).cell,Aa3];exact ET d) trivial ?_;(conv=>whnf);rw [hl1];refine Ag.mk (ih1 hpl.1 hta rfl st5 (by omega) (by first | omega | (simp only [Aa0];omega))) ?_;rintro _ H6 ⟨rfl,a6,c6,st6⟩;refine ldN (cs:=reL (.slice na ns.length nc) Av) Dr ((st6.blk 3 rfl).cells fun j v hv=>by rw [Aa3];exact hv) trivial ?_;refine fa CA ?_;refine ld1 (v:=.int .i64 d.r) ct3 (by rw [(st6.blk 2 rfl).cell,Aa3];exact JO d) trivial ?_;(conv=>whnf);rw [hl2'];refine Ag.mk (ih2 hpl.2 htb rfl st6 (by omega) (by first | omega | (simp only [Aa0];omega))) ?_;rintro _ H7 ⟨rfl,a7,c7,st7⟩;refine fa Ck ?_;refine ld1 (v:=.int .i64 ((n+1+stM r1+stM r2:Nat):Int)) ct3 (by rw [(st7.blk 0 rfl).cell];rfl) trivial ?_;refine fa Ck ?_;refine ld1 (v:=.int .i64 ((n+1+stM r1+stM r2:Nat):Int)) ct3 (by rw [(st7.blk 0 rfl).cell];rfl) trivial ?_;(conv=>whnf);rw [w64 (x:=((n+1+stM r1+stM r2:Nat):Int)+1) (by omega) (by omega),show((n+1+stM r1+stM r2:Nat):Int)+1=((n+1+stM r1+stM r2+1:Nat):Int) by omega];refine fa Ck (AT st7 0 ct3 rfl (show 0<4 by decide) rfl fun H8 st8=>?_);replace st8:StB B H0 H8 (pB tDb bb (dbL (n+1+stM r1+stM r2+1) (.slice a7 (es++(Ay r1 (n+1)).2.2++(Ay r2 (n+1+stM r1)).2.2).length c7))::pS Cz 185 a7 (es++(Ay r1 (n+1)).2.2++(Ay r2 (n+1+stM r1)).2.2).length c7 (es++(Ay r1 (n+1)).2.2++(Ay r2 (n+1+stM r1)).2.2)::pB 159 x (rnL d)::pB 56 p (reL (.slice na ns.length nc) Av)::rest):=st8;refine FO st8 (by omega) (by omega) (by first | omega | (simp only [Aa0,Aa2,Aa4];omega)) fun a9 c9 H9 st9=>?_;refine FO st9 (by omega) (by omega) (by first | omega | (simp only [Aa0,Aa2,Aa4];omega)) fun a10 c10 H10 st10=>?_
   refine FO st10 (by omega) (by omega) (by first | omega | (simp only [Aa0,Aa2,Aa4];omega)) fun a11 c11 H11 st11=>?_;refine FO st11 (by omega) (by omega) (by first | omega | (simp only [Aa0,Aa2,Aa4];omega)) fun a12 c12 H12 st12=>?_;(conv=>whnf);have e1:es++(Ay r1 (n+1)).2.2++(Ay r2 (n+1+stM r1)).2.2++[Bk n (Ay r1 (n+1)).1]++[Bk n (Ay r2 (n+1+stM r1)).1]++[Bk (Ay r1 (n+1)).2.1 (n+1+stM r1+stM r2)]++[Bk (Ay r2 (n+1+stM r1)).2.1 (n+1+stM r1+stM r2)]=es++(Ay (.alt r1 r2) n).2.2:=by simp [Ay]
   rw [e1,show n+1+stM r1+stM r2+1=n+stM (.alt r1 r2) by simp only [stM];omega]at st12;exact⟨rfl,a12,c12,st12.pickN 4 [0,1] (by decide)⟩
 | star r1 ih1=>
   intro hpl H rest n i a c es v ht hv st hn hl2;subst hv;simp only [ReM.plain]at hpl;simp only [stM]at hn hl2;obtain⟨d,j,hd,hop,hl1,hta⟩:=ht;have hm1:=BX r1 hpl (n+1);have hi1:=Bn r1 hpl (n+1);refine Al.of_vc Tryz.func139 rfl (Tryz.call139 _) (B0 (reL (.slice na ns.length nc) Av) rfl ?_);intro p H1 hp hs1 hb1 ha1;have st1:=(st.box hp hs1 hb1 ha1).perm (Aa1 _ _);refine fa BD ?_;refine ld1 (v:=.slice na ns.length nc) Cb (by rw [(st1.blk 0 rfl).cell];rfl) trivial ?_;refine ixr (i:=i) C6 (h1.frame st1.old) hd rfl ?_;rintro b2 o2 c2 hS2 hc2 ⟨rfl,hok⟩;refine ldN (cs:=rnL d) (by rw [Ai];exact Do) hc2 trivial ?_;refine Ak _ rnZ EU rfl ?_;intro x H3 hx hs3 hb3 ha3;have st3:=(st1.box hx hs3 hb3 ha3).perm (Aa1 _ _);refine AI (cs:=rnL d) st3 0 (by rw [Ai];rfl) rfl (by rw [Ai,AK];decide) (Be d) fun H4 st4=>?_;rw [Ax (show(rnL d).length=rnZ.length by rw [Ai,AK])]at st4;replace st4:StB B H0 H4 (pB tDb bb (dbL n (.slice a es.length c))::pS Cz 185 a es.length c es::pB 159 x (rnL d)::pB 56 p (reL (.slice na ns.length nc) Av)::rest):=st4.pickN 4 [2,3,0,1] (by decide);refine fa Ck ?_;refine ld1 (v:=.int .i64 (n:Int)) ct3 (by rw [(st4.blk 0 rfl).cell];rfl) trivial ?_;refine fa AN ?_;refine ld1 (v:=.int .i64 d.op) ct3 (by rw [(st4.blk 2 rfl).cell];exact BB d) trivial ?_;(conv=>whnf);rw [hop];refine fa Ck ?_;refine ld1 (v:=.int .i64 ((n:Nat):Int)) ct3 (by rw [(st4.blk 0 rfl).cell];rfl) trivial ?_;(conv=>whnf);rw [w64 (x:=((n:Nat):Int)+1) (by omega) (by omega),show((n:Nat):Int)+1=((n+1:Nat):Int) by omega];refine fa Ck (AT st4 0 ct3 rfl (show 0<4 by decide) rfl fun H5 st5=>?_);replace st5:StB B H0 H5 (pB tDb bb (dbL (n+1) (.slice a es.length c))::pS Cz 185 a es.length c es::pB 159 x (rnL d)::pB 56 p (reL (.slice na ns.length nc) Av)::rest):=st5;refine ldN (cs:=reL (.slice na ns.length nc) Av) Dr ((st5.blk 3 rfl).cells fun j v hv=>by rw [Aa3];exact hv) trivial ?_;refine fa Bh ?_;refine ld1 (v:=.int .i64 d.l) ct3 (by rw [(st5.blk 2 rfl).cell,Aa3];exact ET d) trivial ?_;(conv=>whnf);rw [hl1];refine Ag.mk (ih1 hpl hta rfl st5 (by omega) (by first | omega | (simp only [Aa0];omega))) ?_;rintro _ H6 ⟨rfl,a6,c6,st6⟩;refine fa Ck ?_;refine ld1 (v:=.int .i64 ((n+1+stM r1:Nat):Int)) ct3 (by rw [(st6.blk 0 rfl).cell];rfl) trivial ?_;refine fa Ck ?_;refine ld1 (v:=.int .i64 ((n+1+stM r1:Nat):Int)) ct3 (by rw [(st6.blk 0 rfl).cell];rfl) trivial ?_;(conv=>whnf);rw [w64 (x:=((n+1+stM r1:Nat):Int)+1) (by omega) (by omega),show((n+1+stM r1:Nat):Int)+1=((n+1+stM r1+1:Nat):Int) by omega];refine fa Ck (AT st6 0 ct3 rfl (show 0<4 by decide) rfl fun H8 st8=>?_);replace st8:StB B H0 H8 (pB tDb bb (dbL (n+1+stM r1+1) (.slice a6 (es++(Ay r1 (n+1)).2.2).length c6))::pS Cz 185 a6 (es++(Ay r1 (n+1)).2.2).length c6 (es++(Ay r1 (n+1)).2.2)::pB 159 x (rnL d)::pB 56 p (reL (.slice na ns.length nc) Av)::rest):=st8;refine FO st8 (by omega) (by omega) (by first | omega | (simp only [Aa0,Aa2,Aa4];omega)) fun a9 c9 H9 st9=>?_;refine FO st9 (by omega) (by omega) (by first | omega | (simp only [Aa0,Aa2,Aa4];omega)) fun a10 c10 H10 st10=>?_;refine FO st10 (by omega) (by omega) (by first | omega | (simp only [Aa0,Aa2,Aa4];omega)) fun a11 c11 H11 st11=>?_;refine FO st11 (by omega) (by omega) (by first | omega | (simp only [Aa0,Aa2,Aa4];omega)) fun a12 c12 H12 st12=>?_;(conv=>whnf);have e1:es++(Ay r1 (n+1)).2.2++[Bk n (Ay r1 (n+1)).1]++[Bk n (n+1+stM r1)]++[Bk (Ay r1 (n+1)).2.1 (Ay r1 (n+1)).1]++[Bk (Ay r1 (n+1)).2.1 (n+1+stM r1)]=es++(Ay (.star r1) n).2.2:=by simp [Ay]
   rw [e1,show n+1+stM r1+1=n+stM (.star r1) by simp only [stM];omega]at st12;exact⟨rfl,a12,c12,st12.pickN 4 [0,1] (by decide)⟩
 | and_=>intro h;cases h
 | minus=>intro h;cases h
abbrev tRe:TypeId:=56
section
variable{B:Nat→Prop}{H0 H:Aa}{rest:List Pc}{bb:Nat}
end
theorem Jm:(Tryz.prog.info? 56).bind (·.zero)=some (.agg #[.slice none 0 0,.int .i64 0]):=rfl
abbrev reZ:List Value:=[.slice none 0 0,.int .i64 0]
end Go.Proofs.YtfbghcpdinlmcaaGreatDoor
namespace Go.VC
section
variable{α:Type}{T:Ty α}{B:Nat→Prop}{H0 H:Aa}{ps:List Pc}{e:TypeId}{b n cap:Nat}{xs:List α}
theorem StB.cellsE{j:Nat}{x:α}(st:StB B H0 H ps)(i:Nat)(hp:ps[i]? =some (pS T e (some ⟨b,0,none⟩) n cap xs))(hx:xs[j]? =some x):∃c,Bi H b (j*T.size) c∧T.rep none_ H c x:=by
 have hi:=(Aa9.1 hx).1;obtain⟨-,-,-,l,-,-,h,-⟩:=(st.at_ i hp).1.placeS hi;exact h x hx
theorem StB.ltE(st:StB B H0 H ps)(i:Nat)(hp:ps[i]? =some (pS T e (some ⟨b,0,none⟩) n cap xs)):b<H.size:=(st.in_ i hp (.inl ⟨0,n,cap,rfl⟩)).2
theorem ixE{P:Program}{t by_ j:Nat}{z:Value}{k:IntKind}{ji:Int}{S0:Nat→Prop}{H2:Aa}{K:Value→Prop}(ht:SlT P t e T.size by_ z)(st:StB B H0 H ps)(i:Nat)(hp:ps[i]? =some (pS T e (some ⟨b,0,none⟩) n cap xs))
  (hj:j<xs.length) (hji:ji=(j:Int)) (hk:K (.pointer (some ⟨b,j*T.size,none⟩))):AH P (Instr.indexAt t (.slice (some ⟨b,0,none⟩) n cap) (.int k ji)) S0 H2 K:=by
 have hn:=st.len i hp;exact ix ht (by omega) (by omega) (by rw [hji,AaD,Aa3];exact hk)
theorem st1E{P:Program}{t j k:Nat}{v:Value}{x x':α}{K:Aa→Prop}(st:StB B H0 H ps)(i:Nat)(ht:BG P t)(hp:ps[i]? =some (pS T e (some ⟨b,0,none⟩) n cap xs))(hx:xs[j]? =some x)(hk:k<T.size)(hv:v.oneCell'=true)
  (hr:∀H' c,T.rep none_ H' c x→T.rep none_ H' (c.set k v) x') (kk:∀H',StB B H0 H' (ps.set i (pS T e (some ⟨b,0,none⟩) n cap (xs.set j x')))→Agr (fun q=>q≠b) H H'→K H'):
  C0 P (Instr.storeAt t (.pointer (some ⟨b,j*T.size+k,none⟩)) v) H K:=by
 have hj:=(Aa9.1 hx).1;have hok:=st.at_ i hp;obtain⟨-,-,-,l,hblk,hlen,hc,hput⟩:=hok.1.placeS hj;obtain⟨c,hc,hrep⟩:=hc x hx;have hcl:=T.len hrep;refine VC.st1 ht hblk (by omega) hv ?_;intro H' hb' ha' hs';have hSH:Agr none_ H H':=fun q hq=>hq.elim;have hrep':=hr H' c (T.frame hrep hSH);have hown:=hput H' (c.set k v) x' (by
  have:Ae l (j*T.size) (c.set k v)=l.set (j*T.size+k) v:=by
   apply List.ext_getElem?;intro m;rw [Cy (by rw [AaL,hcl];exact hlen),AaL,hcl];by_cases hm:j*T.size≤m∧m<j*T.size+T.size
   ·rw [if_pos hm];have hcm:m - j*T.size<c.length:=by omega
    have hce:(c[m - j*T.size]?)=l[m]? :=by
     have h1:=hc (m - j*T.size) _ (AaF hcm);rw [show j*T.size+(m - j*T.size)=m by omega,hblk.cell]at h1;rw [AaF hcm,h1]
    by_cases hmk:m=j*T.size+k
    ·subst hmk;rw [show j*T.size+k - j*T.size=k by omega,AaI (by omega),AaI (by omega)]
    ·rw [AaC (by omega),AaC (by omega),hce]
   ·rw [if_neg hm,AaC (by omega)]
  rw [this];exact hb') hSH hrep'
 exact kk H' (st.upd i hp (ha'.mono fun q hq hkb=>hq.2 (.inl (by subst hkb;exact⟨0,n,cap,rfl⟩))) _ ⟨hown,hok.2⟩ (fun q hq=>.inl hq) (fun q hq=>by rw [hs'];exact(st.in_ i hp hq).2) (by omega)) ha'
end
end Go.VC
namespace Go.Proofs.YtfbghcpdinlmcaaGreatDoor
open Go.VC Go.Lib
abbrev tSt:TypeId:=148
abbrev stP(sb fb:Nat)(na:Option Addr)(nc fc n:Nat)(ds:List RnM)(frs:List FrD)(rest:List Pc):List Pc:=
 pB tSt sb [.slice na ds.length nc,.slice (some ⟨fb,0,none⟩) n fc]::pS tRn 159 na ds.length nc ds::pS tFr 150 (some ⟨fb,0,none⟩) n fc frs::rest
structure Dst(B:Nat→Prop)(H0 H:Aa)(sb fb:Nat)(ds:List RnM)(frs:List FrD)(rest:List Pc):Prop where
 ex:∃na nc fc n,StB B H0 H (stP sb fb na nc fc n ds frs rest)
def AD(x:Int):Prop:= -4294967296<x∧x<4294967296
theorem Bu{x:Int}(h:AD x):inK .i64 x:=by
 unfold AD at h;unfold inK;show(-9223372036854775808:Int)≤x∧x≤9223372036854775807;omega
theorem TB{op x y:Int}(h1:AD op)(h2:AD x)(h3:AD y):(A4 op x y).Ok:=⟨Bu h1,Bu h2,Bu h3,Bu (x:=0) (by unfold AD;omega),Bu (x:=0) (by unfold AD;omega)⟩
section
variable{B:Nat→Prop}{H0 H:Aa}{sb fb nc fc n:Nat}{na:Option Addr}{ds:List RnM}{frs:List FrD}{rest:List Pc}
theorem Ir{op x y:Int}(st:StB B H0 H (stP sb fb na nc fc n ds frs rest))(h1:AD op)(h2:AD x)(h3:AD y)(hl:ds.length≤16777216):
  Al Tryz.prog 133 #[.pointer (some ⟨sb,0,none⟩),.int .i64 op,.int .i64 x,.int .i64 y] H
   (fun v H'=>v= .int .i64 (ds.length:Int)∧Agr (fun k=>k=fb) H H'∧∃na' nc',StB B H0 H' (stP sb fb na' nc' fc n (ds++[A4 op x y]) frs rest)):=by
 have f1:fb≠sb:=fun e=>st.apart2 (i:=0) (j:=2) rfl rfl (by decide) sb rfl (.inl ⟨0,n,fc,by rw [e]⟩);have f2:¬slB (.slice na ds.length nc) fb:=fun e=>st.apart2 (i:=1) (j:=2) rfl rfl (by decide) fb (.inl e) (.inl ⟨0,n,fc,rfl⟩);have f3:fb<H.size:=st.ltE 2 rfl;refine Al.of_vc Tryz.func133 rfl (Tryz.call133 _) (VC.fa BQ ?_);refine ld1 (v:=.slice na ds.length nc) Cb (by rw [(st.blk 0 rfl).cell];rfl) trivial ?_;refine MB op x y (A2 C6 (rnL (A4 op x y)) rfl (Ai _) (by decide) (by decide) ?_);intro z H1 hz hs1 hb1 ha1;have st1:=st.skip hz ha1;refine MO (ys:=[A4 op x y]) st1 1 C6 rfl (hb1.cells (o:=0) (cs:=rnL (A4 op x y)) fun j v hv=>by rw [Aa3];exact hv) (Ty.reps_one ⟨rfl,TB h1 h2 h3⟩) rfl (fun u hu=>AaE.1 (Be _) u hu) (by simp [maxLen];omega) (by simp;omega) fun a9 c9 H9 st9 ha9=>?_;have el:ds.length+[A4 op x y].length=(ds++[A4 op x y]).length:=by simp
 rw [el]at st9 ⊢;refine VC.fa BQ (Vg st9 0 Cb rfl (show 0<2 by decide) rfl fun H10 st10 ja js=>(VC.fa BQ ?_));refine ld1 (v:=.slice a9 (ds++[A4 op x y]).length c9) Cb (by rw [(st10.blk 0 rfl).cell];rfl) trivial ?_;have w1:IntKind.wrap .i64 (((ds++[A4 op x y]).length:Int) - 1)=(ds.length:Int):=by
  rw [Aa0,Aa8,w64 (by omega) (by omega)];omega
 (conv=>whnf);rw [w1];(conv=>whnf);refine⟨rfl,?_,a9,c9,st10⟩;rintro k rfl;rw [ja _ f1,ha9 _ ⟨by have:z=H.size:=hz;omega,f2⟩,ha1 _ (by have:z=H.size:=hz;omega)]
theorem AY{fr:List FrD}{f:FrD}{k:Nat}{v:Value}(st:StB B H0 H (stP sb fb na nc fc n ds (fr++[f]) rest))(hk:(frL f)[k]? =some v):cell H fb (fr.length*tFr.size+k)=some v:=by
 obtain⟨c,hc,rfl⟩:=st.cellsE 2 rfl (x:=f) (j:=fr.length) (by simp);exact hc k v hk
theorem R3{fr:List FrD}{f:FrD}(st:StB B H0 H (stP sb fb na nc fc n ds (fr++[f]) rest)):n=fr.length+1:=by
 have:=st.len 2 rfl;rw [this];simp
theorem DX{t k:Nat}{v:Value}{fr:List FrD}{f f':FrD}{K:Aa→Prop}(st:StB B H0 H (stP sb fb na nc fc n ds (fr++[f]) rest))(ht:BG Tryz.prog t)(hk:k<6)(hv:v.oneCell'=true)(hr:(frL f).set k v=frL f')
  (kk:∀H',StB B H0 H' (stP sb fb na nc fc n ds (fr++[f']) rest)→Agr (fun q=>q≠fb) H H'→K H'):C0 Tryz.prog (Instr.storeAt t (.pointer (some ⟨fb,fr.length*tFr.size+k,none⟩)) v) H K:=by
 refine st1E (T:=tFr) (x:=f) (x':=f') st 2 ht rfl (by simp) hk hv (fun H' c hc=>by rw [show c=frL f from hc];exact hr) fun H' st' ha=>?_;rw [show(fr++[f]).set fr.length f'=fr++[f']from by simp]at st';exact kk H' st' ha
structure FrN(f:FrD):Prop where
 alt:AD f.alt
 meet:AD f.meet
 row:AD f.row
 factor:AD f.factor
theorem L7:AD (-1):=by unfold AD;omega
theorem Jh{m:Nat}(h:m≤16777216):AD (m:Int):=by unfold AD;omega
theorem Hu{ds:List RnM}{f:FrD}(h:FrN f)(hl:ds.length≤16777216):FrN (AV ds f).2:=by
 unfold AV;split
 ·exact h
 ·split
  ·exact⟨h.alt,h.meet,h.factor,L7⟩
  ·exact⟨h.alt,h.meet,Jh hl,L7⟩
theorem PT{ds:List RnM}{f:FrD}(h:FrN f)(hl:ds.length≤16777216):FrN (Cw ds f).2:=by
 unfold Cw;split
 ·exact⟨h.alt,h.meet,Jh hl,h.factor⟩
 ·exact h
theorem SJ{ds:List RnM}{f:FrD}(h:FrN f)(hl:ds.length≤16777216):FrN (Ea ds f).2:=by
 unfold Ea;split
 ·exact⟨h.alt,h.row,L7,h.factor⟩
 ·exact⟨h.alt,Jh hl,L7,h.factor⟩
theorem SA{ds:List RnM}{f:FrD}(h:FrN f)(hl:ds.length≤16777200):FrN (C2 ds f).2:=by
 unfold C2;have h1:=FD ds f;have h2:=Lp (AV ds f).1 (AV ds f).2;exact SJ (PT (Hu h (by omega)) (by omega)) (by omega)
theorem Mr{fr:List FrD}{f:FrD}(st:StB B H0 H (stP sb fb na nc fc n ds (fr++[f]) rest))(hn:FrN f)(hl:ds.length≤16777216):
  Al Tryz.prog 80 #[.pointer (some ⟨sb,0,none⟩)] H (fun _ H'=>∃na' nc',StB B H0 H' (stP sb fb na' nc' fc n (AV ds f).1 (fr++[(AV ds f).2]) rest)):=by
 have hlen:=R3 st;have hmx:=st.max 2 rfl;simp only [Aa0,Aa8,maxLen]at hmx;refine Al.of_vc Tryz.func80 rfl (Tryz.call80 _) (Ar.lex rfl (by kernel_rfl) (VC.fa Bc ?_));refine ld1 (v:=.slice (some ⟨fb,0,none⟩) n fc) Cj (by rw [(st.blk 0 rfl).cell];rfl) trivial ?_;refine VC.fa Bc ?_;refine ld1 (v:=.slice (some ⟨fb,0,none⟩) n fc) Cj (by rw [(st.blk 0 rfl).cell];rfl) trivial ?_;(conv=>whnf);rw [w64 (x:=(n:Int) - 1) (by omega) (by omega)];refine ixE (j:=fr.length) EG st 2 rfl (by simp) (by omega) (VC.fa C9 (ld1 (v:=.int .i64 f.factor) ct3 (AY st (k:=5) rfl) trivial ?_));by_cases h1:f.factor<0
 ·have d1:decide (f.factor<0)=true:=decide_eq_true h1;have e:AV ds f=(ds,f):=by unfold AV;rw [if_pos h1]
  (conv=>whnf);rw [d1];(conv=>whnf);rw [e];exact⟨na,nc,st⟩
 ·have d1:decide (f.factor<0)=false:=decide_eq_false h1;(conv=>whnf);rw [d1];(conv=>whnf);try (refine Am.run ?_)
  refine VC.fa Co (ld1 (v:=.int .i64 f.row) ct3 (AY st (k:=4) rfl) trivial ?_);by_cases h2:f.row<0
  ·have d2:decide (f.row<0)=true:=decide_eq_true h2;have e:AV ds f=(ds,{f with row:=f.factor,factor:= -1}):=by unfold AV;rw [if_neg h1,if_pos h2]
   (conv=>whnf);rw [d2];refine VC.fa C9 (ld1 (v:=.int .i64 f.factor) ct3 (AY st (k:=5) rfl) trivial (VC.fa Co (DX (k:=4) (f':={f with row:=f.factor}) st ct3 (by decide) rfl rfl fun G1 sg1 ja=>(VC.fa C9 (DX (k:=5) (f':={f with row:=f.factor,factor:= -1}) sg1 ct3 (by decide) rfl rfl fun G2 sg2 ja=>?_)))));(conv=>whnf);rw [e];exact⟨na,nc,sg2⟩
  ·have d2:decide (f.row<0)=false:=decide_eq_false h2;have e:AV ds f=(ds++[A4 2 f.row f.factor],{f with row:=ds.length,factor:= -1}):=by unfold AV;rw [if_neg h1,if_neg h2]
   (conv=>whnf);rw [d2];refine Ar.heldZ (fun k=>k=fb) [13] (sq [0,1,2,3,4,5,6,7,8,9] (.f 10 (sq [11,12] (.f 13 .e)))) rfl (by kernel_rfl) (VC.fa Co (ld1 (v:=.int .i64 f.row) ct3 (AY st (k:=4) rfl) rfl (VC.fa C9 (ld1 (v:=.int .i64 f.factor) ct3 (AY st (k:=5) rfl) rfl ?_))));refine Ag.mk (Ir (op:=2) st (by unfold AD;omega) hn.row hn.factor hl) ?_;rintro _ G1 ⟨rfl,af,na1,nc1,sg1⟩;refine⟨af,?_⟩;refine VC.fa Co (DX (k:=4) (f':={f with row:=ds.length}) sg1 ct3 (by decide) rfl rfl fun G2 sg2 ja=>(VC.fa C9 (DX (k:=5) (f':={f with row:=ds.length,factor:= -1}) sg2 ct3 (by decide) rfl rfl fun G3 sg3 ja=>?_)));(conv=>whnf);rw [e];exact⟨na1,nc1,sg3⟩
theorem Nc{fr:List FrD}{f:FrD}(st:StB B H0 H (stP sb fb na nc fc n ds (fr++[f]) rest))(hn:FrN f)(hl:ds.length≤16777200):
  Al Tryz.prog 79 #[.pointer (some ⟨sb,0,none⟩)] H (fun _ H'=>∃na' nc',StB B H0 H' (stP sb fb na' nc' fc n (C2 ds f).1 (fr++[(C2 ds f).2]) rest)):=by
 have hlen:=R3 st;have hmx:=st.max 2 rfl;simp only [Aa0,Aa8,maxLen]at hmx;refine Al.of_vc Tryz.func79 rfl (Tryz.call79 _) (Ag.mk (Mr st hn (by omega)) ?_);rintro v1 H1 ⟨na1,nc1,st1⟩;have hn1:=Hu hn (ds:=ds) (by omega);have hl1:=FD ds f;have e0:C2 ds f=Ea (Cw (AV ds f).1 (AV ds f).2).1 (Cw (AV ds f).1 (AV ds f).2).2:=rfl;obtain⟨ds1,f1,hq⟩:∃ds1 f1,AV ds f=(ds1,f1):=⟨_,_,rfl⟩;rw [hq]at st1 hn1 hl1 e0;replace st1:StB B H0 H1 (stP sb fb na1 nc1 fc n ds1 (fr++[f1]) rest):=st1;replace hn1:FrN f1:=hn1;replace hl1:ds1.length≤ds.length+1:=hl1;replace e0:C2 ds f=Ea (Cw ds1 f1).1 (Cw ds1 f1).2:=e0;refine Ar.lex rfl (by kernel_rfl) (VC.fa Bc ?_);refine ld1 (v:=.slice (some ⟨fb,0,none⟩) n fc) Cj (by rw [(st1.blk 0 rfl).cell];rfl) trivial ?_;refine VC.fa Bc ?_;refine ld1 (v:=.slice (some ⟨fb,0,none⟩) n fc) Cj (by rw [(st1.blk 0 rfl).cell];rfl) trivial ?_;(conv=>whnf);rw [w64 (x:=(n:Int) - 1) (by omega) (by omega)];refine ixE (j:=fr.length) EG st1 2 rfl (by simp) (by omega) ?_;(conv=>whnf);try (refine Am.run ?_)
 refine VC.fa Co (ld1 (v:=.int .i64 f1.row) ct3 (AY st1 (k:=4) rfl) trivial ?_);by_cases h2:f1.row<0
 ·have d2:decide (f1.row<0)=true:=decide_eq_true h2;have e1:Ea (Cw ds1 f1).1 (Cw ds1 f1).2=Ea (ds1++[A4 0 0 0]) {f1 with row:=(ds1.length:Int)}:=by unfold Cw;rw [if_pos h2]
  (conv=>whnf);rw [d2];refine Ag.mk (Ir (op:=0) (x:=0) (y:=0) st1 (by unfold AD;omega) (by unfold AD;omega) (by unfold AD;omega) (by omega)) ?_;rintro _ G8 ⟨rfl,af8,na8,nc8,sg8⟩;refine VC.fa Co (DX (k:=4) (f':={f1 with row:=(ds1.length:Int)}) sg8 ct3 (by decide) rfl rfl fun G9 sg9 ja=>?_);have hn2:FrN {f1 with row:=(ds1.length:Int)}:=⟨hn1.alt,hn1.meet,Jh (by omega),hn1.factor⟩;(conv=>whnf);try (refine Am.run ?_)
  refine VC.fa C8 (ld1 (v:=.int .i64 ({f1 with row:=(ds1.length:Int)}).meet) ct3 (AY sg9 (k:=2) rfl) trivial ?_);by_cases m1:f1.meet<0
  ·have d3:decide (f1.meet<0)=true:=decide_eq_true m1;have e:C2 ds f=(ds1++[A4 0 0 0],{({f1 with row:=(ds1.length:Int)})with meet:=({f1 with row:=(ds1.length:Int)}).row,row:= -1}):=by rw [e0,e1];unfold Ea;rw [if_pos m1]
   (conv=>whnf);rw [d3];refine VC.fa Co (ld1 (v:=.int .i64 ({f1 with row:=(ds1.length:Int)}).row) ct3 (AY sg9 (k:=4) rfl) trivial (VC.fa C8 (DX (k:=2) (f':={({f1 with row:=(ds1.length:Int)})with meet:=({f1 with row:=(ds1.length:Int)}).row}) sg9 ct3 (by decide) rfl rfl fun G5 sg5 ja=>(VC.fa Co (DX (k:=4) (f':={({f1 with row:=(ds1.length:Int)})with meet:=({f1 with row:=(ds1.length:Int)}).row,row:= -1}) sg5 ct3 (by decide) rfl rfl fun G6 sg6 ja=>?_)))));(conv=>whnf);rw [e];exact⟨_,_,sg6⟩
  ·have d3:decide (f1.meet<0)=false:=decide_eq_false m1;(conv=>whnf);rw [d3];(conv=>whnf);try (refine Am.run ?_)
   refine VC.fa K9 (ld1 (v:=.int .u8 (({f1 with row:=(ds1.length:Int)}).sign:Int)) ct5 (AY sg9 (k:=3) rfl) trivial ?_);by_cases s1:f1.sign=38
   ·have d4:((f1.sign:Int)==38)=true:=by rw [s1];rfl
    have e:C2 ds f=(ds1++[A4 0 0 0]++[A4 5 ({f1 with row:=(ds1.length:Int)}).meet ({f1 with row:=(ds1.length:Int)}).row],{({f1 with row:=(ds1.length:Int)})with meet:=((ds1++[A4 0 0 0]).length:Int),row:= -1}):=by rw [e0,e1];unfold Ea;rw [if_neg m1];show(_++[A4 (if f1.sign=38 then 5 else 6) _ _],_)=_;rw [if_pos s1]
    (conv=>whnf);rw [d4];refine Ar.heldZ (fun k=>k=fb) [13] (sq [0,1,2,3,4,5,6,7,8,9] (.f 10 (sq [11,12] (.f 13 .e)))) rfl (by kernel_rfl) (VC.fa C8 (ld1 (v:=.int .i64 ({f1 with row:=(ds1.length:Int)}).meet) ct3 (AY sg9 (k:=2) rfl) rfl (VC.fa Co (ld1 (v:=.int .i64 ({f1 with row:=(ds1.length:Int)}).row) ct3 (AY sg9 (k:=4) rfl) rfl ?_))));refine Ag.mk (Ir (op:=5) sg9 (by unfold AD;omega) hn2.meet hn2.row (by simp;omega)) ?_;rintro _ G1 ⟨rfl,af,na1,nc1,sg1⟩;refine⟨af,?_⟩;refine VC.fa C8 (DX (k:=2) (f':={({f1 with row:=(ds1.length:Int)})with meet:=((ds1++[A4 0 0 0]).length:Int)}) sg1 ct3 (by decide) rfl rfl fun G2 sg2 ja=>(VC.fa Co (DX (k:=4) (f':={({f1 with row:=(ds1.length:Int)})with meet:=((ds1++[A4 0 0 0]).length:Int),row:= -1}) sg2 ct3 (by decide) rfl rfl fun G6 sg6 ja=>?_)));(conv=>whnf);rw [e];exact⟨_,_,sg6⟩
   ·have d4:((f1.sign:Int)==38)=false:=beq_eq_false_iff_ne.2 (by omega);have e:C2 ds f=(ds1++[A4 0 0 0]++[A4 6 ({f1 with row:=(ds1.length:Int)}).meet ({f1 with row:=(ds1.length:Int)}).row],{({f1 with row:=(ds1.length:Int)})with meet:=((ds1++[A4 0 0 0]).length:Int),row:= -1}):=by rw [e0,e1];unfold Ea;rw [if_neg m1];show(_++[A4 (if f1.sign=38 then 5 else 6) _ _],_)=_;rw [if_neg s1]
    (conv=>whnf);rw [d4];refine Ar.heldZ (fun k=>k=fb) [13] (sq [0,1,2,3,4,5,6,7,8,9] (.f 10 (sq [11,12] (.f 13 .e)))) rfl (by kernel_rfl) (VC.fa C8 (ld1 (v:=.int .i64 ({f1 with row:=(ds1.length:Int)}).meet) ct3 (AY sg9 (k:=2) rfl) rfl (VC.fa Co (ld1 (v:=.int .i64 ({f1 with row:=(ds1.length:Int)}).row) ct3 (AY sg9 (k:=4) rfl) rfl ?_))));refine Ag.mk (Ir (op:=6) sg9 (by unfold AD;omega) hn2.meet hn2.row (by simp;omega)) ?_;rintro _ G1 ⟨rfl,af,na1,nc1,sg1⟩;refine⟨af,?_⟩;refine VC.fa C8 (DX (k:=2) (f':={({f1 with row:=(ds1.length:Int)})with meet:=((ds1++[A4 0 0 0]).length:Int)}) sg1 ct3 (by decide) rfl rfl fun G2 sg2 ja=>(VC.fa Co (DX (k:=4) (f':={({f1 with row:=(ds1.length:Int)})with meet:=((ds1++[A4 0 0 0]).length:Int),row:= -1}) sg2 ct3 (by decide) rfl rfl fun G6 sg6 ja=>?_)));(conv=>whnf);rw [e];exact⟨_,_,sg6⟩
 ·have d2:decide (f1.row<0)=false:=decide_eq_false h2;have e1:Ea (Cw ds1 f1).1 (Cw ds1 f1).2=Ea ds1 f1:=by unfold Cw;rw [if_neg h2]
  (conv=>whnf);rw [d2];(conv=>whnf);try (refine Am.run ?_)
  refine VC.fa C8 (ld1 (v:=.int .i64 (f1).meet) ct3 (AY st1 (k:=2) rfl) trivial ?_);by_cases m1:f1.meet<0
  ·have d3:decide (f1.meet<0)=true:=decide_eq_true m1;have e:C2 ds f=(ds1,{(f1)with meet:=(f1).row,row:= -1}):=by rw [e0,e1];unfold Ea;rw [if_pos m1]
   (conv=>whnf);rw [d3];refine VC.fa Co (ld1 (v:=.int .i64 (f1).row) ct3 (AY st1 (k:=4) rfl) trivial (VC.fa C8 (DX (k:=2) (f':={(f1)with meet:=(f1).row}) st1 ct3 (by decide) rfl rfl fun G5 sg5 ja=>(VC.fa Co (DX (k:=4) (f':={(f1)with meet:=(f1).row,row:= -1}) sg5 ct3 (by decide) rfl rfl fun G6 sg6 ja=>?_)))));(conv=>whnf);rw [e];exact⟨_,_,sg6⟩
  ·have d3:decide (f1.meet<0)=false:=decide_eq_false m1;(conv=>whnf);rw [d3];(conv=>whnf);try (refine Am.run ?_)
   refine VC.fa K9 (ld1 (v:=.int .u8 ((f1).sign:Int)) ct5 (AY st1 (k:=3) rfl) trivial ?_);by_cases s1:f1.sign=38
   ·have d4:((f1.sign:Int)==38)=true:=by rw [s1];rfl
    have e:C2 ds f=(ds1++[A4 5 (f1).meet (f1).row],{(f1)with meet:=((ds1).length:Int),row:= -1}):=by rw [e0,e1];unfold Ea;rw [if_neg m1];show(_++[A4 (if f1.sign=38 then 5 else 6) _ _],_)=_;rw [if_pos s1]
    (conv=>whnf);rw [d4];refine Ar.heldZ (fun k=>k=fb) [13] (sq [0,1,2,3,4,5,6,7,8,9] (.f 10 (sq [11,12] (.f 13 .e)))) rfl (by kernel_rfl) (VC.fa C8 (ld1 (v:=.int .i64 (f1).meet) ct3 (AY st1 (k:=2) rfl) rfl (VC.fa Co (ld1 (v:=.int .i64 (f1).row) ct3 (AY st1 (k:=4) rfl) rfl ?_))));refine Ag.mk (Ir (op:=5) st1 (by unfold AD;omega) hn1.meet hn1.row (by omega)) ?_;rintro _ G1 ⟨rfl,af,na1,nc1,sg1⟩;refine⟨af,?_⟩;refine VC.fa C8 (DX (k:=2) (f':={(f1)with meet:=((ds1).length:Int)}) sg1 ct3 (by decide) rfl rfl fun G2 sg2 ja=>(VC.fa Co (DX (k:=4) (f':={(f1)with meet:=((ds1).length:Int),row:= -1}) sg2 ct3 (by decide) rfl rfl fun G6 sg6 ja=>?_)));(conv=>whnf);rw [e];exact⟨_,_,sg6⟩
   ·have d4:((f1.sign:Int)==38)=false:=beq_eq_false_iff_ne.2 (by omega);have e:C2 ds f=(ds1++[A4 6 (f1).meet (f1).row],{(f1)with meet:=((ds1).length:Int),row:= -1}):=by rw [e0,e1];unfold Ea;rw [if_neg m1];show(_++[A4 (if f1.sign=38 then 5 else 6) _ _],_)=_;rw [if_neg s1]
    (conv=>whnf);rw [d4];refine Ar.heldZ (fun k=>k=fb) [13] (sq [0,1,2,3,4,5,6,7,8,9] (.f 10 (sq [11,12] (.f 13 .e)))) rfl (by kernel_rfl) (VC.fa C8 (ld1 (v:=.int .i64 (f1).meet) ct3 (AY st1 (k:=2) rfl) rfl (VC.fa Co (ld1 (v:=.int .i64 (f1).row) ct3 (AY st1 (k:=4) rfl) rfl ?_))));refine Ag.mk (Ir (op:=6) st1 (by unfold AD;omega) hn1.meet hn1.row (by omega)) ?_;rintro _ G1 ⟨rfl,af,na1,nc1,sg1⟩;refine⟨af,?_⟩;refine VC.fa C8 (DX (k:=2) (f':={(f1)with meet:=((ds1).length:Int)}) sg1 ct3 (by decide) rfl rfl fun G2 sg2 ja=>(VC.fa Co (DX (k:=4) (f':={(f1)with meet:=((ds1).length:Int),row:= -1}) sg2 ct3 (by decide) rfl rfl fun G6 sg6 ja=>?_)));(conv=>whnf);rw [e];exact⟨_,_,sg6⟩
theorem Ll{fr:List FrD}{f:FrD}(st:StB B H0 H (stP sb fb na nc fc n ds (fr++[f]) rest))(hn:FrN f)(hl:ds.length≤16777200):
  Al Tryz.prog 78 #[.pointer (some ⟨sb,0,none⟩)] H (fun _ H'=>∃na' nc',StB B H0 H' (stP sb fb na' nc' fc n (D3 ds f).1 (fr++[(D3 ds f).2]) rest)):=by
 have hlen:=R3 st;have hmx:=st.max 2 rfl;simp only [Aa0,Aa8,maxLen]at hmx;refine Al.of_vc Tryz.func78 rfl (Tryz.call78 _) (Ag.mk (Nc st hn (by omega)) ?_);rintro v1 H1 ⟨na1,nc1,st1⟩;have hn1:=SA hn (ds:=ds) (by omega);have hl1:=HF ds f;have e0:D3 ds f=Od (C2 ds f).1 (C2 ds f).2:=rfl;obtain⟨ds1,f1,hq⟩:∃ds1 f1,C2 ds f=(ds1,f1):=⟨_,_,rfl⟩;rw [hq]at st1 hn1 hl1 e0;replace st1:StB B H0 H1 (stP sb fb na1 nc1 fc n ds1 (fr++[f1]) rest):=st1;replace hn1:FrN f1:=hn1;replace hl1:ds1.length≤ds.length+3:=hl1;replace e0:D3 ds f=Od ds1 f1:=e0;refine Ar.lex rfl (by kernel_rfl) (VC.fa Bc ?_);refine ld1 (v:=.slice (some ⟨fb,0,none⟩) n fc) Cj (by rw [(st1.blk 0 rfl).cell];rfl) trivial ?_;refine VC.fa Bc ?_;refine ld1 (v:=.slice (some ⟨fb,0,none⟩) n fc) Cj (by rw [(st1.blk 0 rfl).cell];rfl) trivial ?_;(conv=>whnf);rw [w64 (x:=(n:Int) - 1) (by omega) (by omega)];refine ixE (j:=fr.length) EG st1 2 rfl (by simp) (by omega) ?_;(conv=>whnf);try (refine Am.run ?_)
 refine VC.fa HC (ld1 (v:=.int .i64 f1.alt) ct3 (AY st1 (k:=1) rfl) trivial ?_);by_cases h2:f1.alt<0
 ·have d2:decide (f1.alt<0)=true:=decide_eq_true h2;have e:D3 ds f=(ds1,{f1 with alt:=f1.meet,meet:= -1}):=by rw [e0];unfold Od;rw [if_pos h2]
  (conv=>whnf);rw [d2];refine VC.fa C8 (ld1 (v:=.int .i64 f1.meet) ct3 (AY st1 (k:=2) rfl) trivial (VC.fa HC (DX (k:=1) (f':={f1 with alt:=f1.meet}) st1 ct3 (by decide) rfl rfl fun G5 sg5 ja=>(VC.fa C8 (DX (k:=2) (f':={f1 with alt:=f1.meet,meet:= -1}) sg5 ct3 (by decide) rfl rfl fun G6 sg6 ja=>?_)))));(conv=>whnf);rw [e];exact⟨_,_,sg6⟩
 ·have d2:decide (f1.alt<0)=false:=decide_eq_false h2;have e:D3 ds f=(ds1++[A4 3 f1.alt f1.meet],{f1 with alt:=(ds1.length:Int),meet:= -1}):=by rw [e0];unfold Od;rw [if_neg h2]
  (conv=>whnf);rw [d2];refine Ar.heldZ (fun k=>k=fb) [13] (sq [0,1,2,3,4,5,6,7,8,9] (.f 10 (sq [11,12] (.f 13 .e)))) rfl (by kernel_rfl) (VC.fa HC (ld1 (v:=.int .i64 f1.alt) ct3 (AY st1 (k:=1) rfl) rfl (VC.fa C8 (ld1 (v:=.int .i64 f1.meet) ct3 (AY st1 (k:=2) rfl) rfl ?_))));refine Ag.mk (Ir (op:=3) st1 (by unfold AD;omega) hn1.alt hn1.meet (by omega)) ?_;rintro _ G1 ⟨rfl,af,na1,nc1,sg1⟩;refine⟨af,?_⟩;refine VC.fa HC (DX (k:=1) (f':={f1 with alt:=(ds1.length:Int)}) sg1 ct3 (by decide) rfl rfl fun G2 sg2 ja=>(VC.fa C8 (DX (k:=2) (f':={f1 with alt:=(ds1.length:Int),meet:= -1}) sg2 ct3 (by decide) rfl rfl fun G6 sg6 ja=>?_)));(conv=>whnf);rw [e];exact⟨_,_,sg6⟩
end
end Go.Proofs.YtfbghcpdinlmcaaGreatDoor
namespace Go.VC
theorem StB.rebase{B:Nat→Prop}{H0 H:Aa}{ps:List Pc}(st:StB B H0 H ps):StB B H H ps:=⟨Agr.refl _ _,fun k hk=>st.up hk,Aa5 _,st.oks,st.rng,st.dis⟩
theorem StB.widen{B:Nat→Prop}{H0 H H':Aa}{ps:List Pc}(st:StB B H0 H ps)(ha:Agr (Old H) H H')(N:Nat→Prop)(hN:∀k,N k→H.size≤k∧k<H'.size):StB (fun k=>B k∨N k) H' H' ps:=by
 have st':=st.call ha;refine⟨Agr.refl _ _,fun k hk=>?_,Aa5 _,st'.oks,fun p hp k hk=>⟨fun hB=>?_,(st'.rng p hp k hk).2⟩,st'.dis⟩
 ·rcases hk with hk | hk
  ·exact st'.up hk
  ·exact(hN k hk).2
 ·rcases hB with hB | hB
  ·exact(st.rng p hp k hk).1 hB
  ·have:=(st.rng p hp k hk).2;have:=(hN k hB).1;omega
end Go.VC
namespace Go.Proofs.YtfbghcpdinlmcaaGreatDoor
open Go.VC Go.Lib
inductive ROp
 | alt
 | cat
 | and_
 | minus
def opR:ROp→ReM→ReM→ReM
 | .alt=>.alt
 | .cat=>.cat
 | .and_=>.and_
 | .minus=>.minus
def opF:ROp→FuncId
 | .alt=>131
 | .cat=>194
 | .and_=>167
 | .minus=>168
theorem M0(op:ROp)(a b:ReM):(opR op a b).nodes=1+a.nodes+b.nodes:=by cases op<;>rfl
def szR(r:ReM):Nat:=min r.nodes 2001
def Ab(r:ReM)(fn:Value):List Value:=[.int .i64 ((szR r:Nat):Int),fn]
inductive Cq(B:Nat→Prop)(H:Aa):Value→ReM→Prop
 | leaf {b:Nat} {r:ReM}:B b→Blk H b 28 [A5 r]→Cq B H (.func (.func 214) #[] #[.pointer (some ⟨b,0,none⟩)]) r
 | join {b1 b2 b3:Nat} {va vb:Value} {ra rb:ReM} (op:ROp):B b1→B b2→B b3→Blk H b1 238 [.func (.func (opF op)) #[] #[]]→Blk H b2 142 (Ab ra va)→Blk H b3 142 (Ab rb vb)→
   Cq B H va ra→Cq B H vb rb→Cq B H (.func (.func 170) #[] #[.pointer (some ⟨b1,0,none⟩),.pointer (some ⟨b2,0,none⟩),.pointer (some ⟨b3,0,none⟩)]) (opR op ra rb)
 | star {b:Nat} {va:Value} {ra:ReM}:B b→Blk H b 142 (Ab ra va)→Cq B H va ra→Cq B H (.func (.func 230) #[] #[.pointer (some ⟨b,0,none⟩)]) (.star ra)
theorem Cq.frame{B B':Nat→Prop}{H H':Aa}{v:Value}{r:ReM}(h:Cq B H v r)(k:Agr B H H')(s:∀k,B k→B' k):Cq B' H' v r:=by
 induction h with
 | leaf h1 h2=>exact .leaf (s _ h1) (h2.agr k h1)
 | join op h1 h2 h3 h4 h5 h6 _ _ ih1 ih2=>exact .join op (s _ h1) (s _ h2) (s _ h3) (h4.agr k h1) (h5.agr k h2) (h6.agr k h3) ih1 ih2
 | star h1 h2 _ ih=>exact .star (s _ h1) (h2.agr k h1) ih
theorem Sq{B:Nat→Prop}{H H':Aa}(ha:Agr B H H')(hB:∀k,B k→k<H.size){k:Nat}(hk:B k):k<H'.size:=by
 have h:=ha k hk;rw [Array.getElem?_eq_getElem (hB k hk)]at h;exact(Array.getElem?_eq_some_iff.1 h).1
theorem ZQ(op:ROp)(a b:ReM)(H:Aa):B8 Tryz.prog (opF op) #[A5 a,A5 b] H (A5 (opR op a b)):=by
 obtain⟨T1,v1,e1⟩:=Fk a;obtain⟨T2,v2,e2⟩:=Fk b;cases op with
 | alt=>
   show B8 Tryz.prog 131 #[A5 a,A5 b] H (.iface 305 (.agg #[A5 a,A5 b]));rw [e1,e2];refine Al.of_vc Tryz.func131 rfl (Tryz.call131 _) (A6 Tryz.underlying305 rfl _ rfl [.iface T1 v1,.iface T2 v2] rfl ?_);(conv=>whnf);exact⟨rfl,Agr.refl _ _⟩
 | cat=>
   show B8 Tryz.prog 194 #[A5 a,A5 b] H (.iface 105 (.agg #[A5 a,A5 b]));rw [e1,e2];refine Al.of_vc Tryz.func194 rfl (Tryz.call194 _) (A6 Tryz.underlying105 rfl _ rfl [.iface T1 v1,.iface T2 v2] rfl ?_);(conv=>whnf);exact⟨rfl,Agr.refl _ _⟩
 | and_=>
   show B8 Tryz.prog 167 #[A5 a,A5 b] H (.iface 64 (.agg #[A5 a,A5 b]));rw [e1,e2];refine Al.of_vc Tryz.func167 rfl (Tryz.call167 _) (A6 Tryz.underlying64 rfl _ rfl [.iface T1 v1,.iface T2 v2] rfl ?_);(conv=>whnf);exact⟨rfl,Agr.refl _ _⟩
 | minus=>
   show B8 Tryz.prog 168 #[A5 a,A5 b] H (.iface 65 (.agg #[A5 a,A5 b]));rw [e1,e2];refine Al.of_vc Tryz.func168 rfl (Tryz.call168 _) (A6 Tryz.underlying65 rfl _ rfl [.iface T1 v1,.iface T2 v2] rfl ?_);(conv=>whnf);exact⟨rfl,Agr.refl _ _⟩
theorem Kz(cap:Array Value):(((#[]:Array Value).toList++([]:List Value))++cap.toList).toArray=cap:=by simp
theorem XC{B:Nat→Prop}{H:Aa}{v:Value}{r:ReM}(h:Cq B H v r)(hB:∀k,B k→k<H.size):∃g cap,v= .func (.func g) #[] cap∧∀H',Agr B H H'→B8 Tryz.prog g cap H' (A5 r):=by
 induction h with
 | @leaf b r h1 h2=>
   refine⟨_,_,rfl,fun H' ha=>?_⟩;have hb:=h2.agr ha h1;refine Al.of_vc Tryz.func214 rfl (Tryz.call214 _) ?_;refine ld1 (v:=A5 r) EJ (by rw [hb.cell];rfl) trivial ?_;(conv=>whnf);exact⟨rfl,Agr.refl _ _⟩
 | @join b1 b2 b3 va vb ra rb op h1 h2 h3 h4 h5 h6 _ _ ih1 ih2=>
   refine⟨_,_,rfl,fun H' ha=>?_⟩;have k4:=h4.agr ha h1;have k5:=h5.agr ha h2;have k6:=h6.agr ha h3;obtain⟨g1,c1,rfl,p1⟩:=ih1;obtain⟨g2,c2,rfl,p2⟩:=ih2;refine Al.of_vc Tryz.func170 rfl (Tryz.call170 _) (Ar.held (Old H') 9 (sq [0,1,2,4,5] (.f 3 (.f 6 (.f 7 (.f 8 .e))))) rfl (by kernel_rfl) ?_);refine ld1 (v:=.func (.func (opF op)) #[] #[]) YE (by rw [k4.cell];rfl) k4.lt ?_;refine VC.fa K8 ?_;refine ld1 (v:=.func (.func g1) #[] c1) Re (by rw [k5.cell];rfl) k5.lt ?_;refine VC.fa K8 ?_;refine ld1 (v:=.func (.func g2) #[] c2) Re (by rw [k6.cell];rfl) k6.lt ?_;(conv=>whnf);rw [Kz];refine Ao (p1 H' ha) fun G1 ga1=>?_;refine⟨ga1,?_⟩;have ha2:Agr B H G1:=ha.trans (ga1.mono fun k hk=>Sq ha hB hk);(conv=>whnf);rw [Kz];refine Ao (p2 G1 ha2) fun G2 ga2=>?_;have ga3:=ga1.trans (ga2.mono fun k hk=>As ga1 hk);refine⟨ga3,?_⟩;refine Ao (ZQ op ra rb G2) fun G3 ga4=>?_;have ga5:=ga3.trans (ga4.mono fun k hk=>As ga3 hk);refine⟨ga5,?_⟩;(conv=>whnf);refine⟨ga5,?_⟩;exact⟨rfl,ga5⟩
 | @star b va ra h1 h2 _ ih=>
   refine⟨_,_,rfl,fun H' ha=>?_⟩;have k2:=h2.agr ha h1;obtain⟨g1,c1,rfl,p1⟩:=ih;refine Al.of_vc Tryz.func230 rfl (Tryz.call230 _) (VC.fa K8 ?_);refine ld1 (v:=.func (.func g1) #[] c1) Re (by rw [k2.cell];rfl) trivial ?_;(conv=>whnf);rw [Kz];refine Ao (p1 H' ha) fun G1 ga1=>?_;obtain⟨T1,v1,e1⟩:=Fk ra;show _;rw [show A5 (.star ra)= .iface 310 (.agg #[A5 ra])from rfl];rw [e1];refine A6 Tryz.underlying310 rfl _ rfl [.iface T1 v1] rfl ?_;(conv=>whnf);exact⟨rfl,ga1⟩
structure NT(B:Nat→Prop)(H:Aa)(ps:List Pc)(r:ReM)(v:Value)(H':Aa):Prop where
 ex:∃(B':Nat→Prop) (fn:Value),v= .agg (Ab r fn).toArray∧(∀k,B k→B' k)∧Agr (Old H) H H'∧StB B' H' H' ps∧Cq B' H' fn r
theorem Cq.fn{B:Nat→Prop}{H:Aa}{v:Value}{r:ReM}(h:Cq B H v r):∃g c,v= .func (.func g) #[] c:=by
 cases h<;>exact⟨_,_,rfl⟩
theorem Cd{l:List Value}{r:ReM}{v:Value}(h:l.length=2):Ae l 0 (Ab r v)=Ab r v:=A8 (by rw [h];rfl)
theorem Au{H:Aa}{b:Nat}{r:ReM}{v:Value}(h:Blk H b 142 (Ab r v)):Bi H b 0 (Ab r v):=h.cells (fun j v hv=>by rw [Aa3];exact hv)
def Aj:List Value:=[.int .i64 0,.nilFunc]
theorem CM:(Tryz.prog.info? 142).bind (·.zero)=some (.agg Aj.toArray):=by kernel_rfl
theorem Om(n:Nat)(hn:n<1152921504606846976)(H:Aa):B8 Tryz.prog 169 #[.int .i64 (n:Int)] H (.int .i64 ((min n 2001:Nat):Int)):=by
 refine Al.of_vc Tryz.func169 rfl (Tryz.call169 _) (Xm ?_);(conv=>whnf);refine⟨?_,Agr.refl _ _⟩
 congr 1
 split<;>omega
theorem EB(r:ReM):szR r≤2001:=Nat.min_le_right _ _
theorem Nu{B:Nat→Prop}{H0 H:Aa}{ps:List Pc}{r:ReM}(st:StB B H0 H ps)(hr:r.nodes=1):Al Tryz.prog 191 #[A5 r] H (NT B H ps r):=by
 refine Al.of_vc Tryz.func191 rfl (Tryz.call191 _) ?_;obtain⟨T1,v1,e1⟩:=Fk r;rw [e1];refine B0 [.iface T1 v1] rfl ?_;intro b1 H1 hq1 hs1 hb1 ha1;refine Ak (.agg Aj.toArray) Aj CM rfl ?_;intro q H2 hq2 hs2 hb2 ha2;refine A6 Tryz.underlying142 rfl _ rfl (Ab r (.func (.func 214) #[] #[.pointer (some ⟨b1,0,none⟩)])) (by unfold Ab szR;rw [hr];rfl) ?_;refine VC.stN (cs:=Ab r (.func (.func 214) #[] #[.pointer (some ⟨b1,0,none⟩)])) rfl hb2 (by simp [Ab,Aj]) rfl ?_;intro H3 hb3 ha3 hs3;rw [Cd rfl]at hb3;refine ldN (cs:=Ab r (.func (.func 214) #[] #[.pointer (some ⟨b1,0,none⟩)])) AO (Au hb3) trivial ?_;have ag2:Agr (Old H) H H2:=(ha1.mono fun k hk=>by have:k<H.size:=hk;omega).trans (ha2.mono fun k hk=>by have:k<H.size:=hk;omega);have ag3:Agr (Old H) H H3:=ag2.trans (ha3.mono fun k hk=>by have:k<H.size:=hk;omega);have k1:Blk H3 b1 28 [A5 r]:=by
  rw [e1];exact(hb1.agr ha2 (show b1<q by omega)).agr ha3 (show b1≠q by omega)
 exact⟨_,_,rfl,fun k hk=>.inl hk,ag3,st.widen ag3 (fun k=>k=b1) (fun k hk=>by omega),.leaf (.inr rfl) k1⟩
theorem EA{B:Nat→Prop}{H0 H:Aa}{ps:List Pc}{ra rb:ReM}{va vb:Value}(op:ROp)(st:StB B H0 H ps)(ga:Cq B H va ra)(gb:Cq B H vb rb):
  Al Tryz.prog 130 #[.agg (Ab ra va).toArray,.agg (Ab rb vb).toArray,.func (.func (opF op)) #[] #[]] H (NT B H ps (opR op ra rb)):=by
 obtain⟨g1,c1,rfl⟩:=ga.fn;obtain⟨g2,c2,rfl⟩:=gb.fn;have z1:=EB ra;have z2:=EB rb;refine Al.of_vc Tryz.func130 rfl (Tryz.call130 _) (B0 (Ab ra (.func (.func g1) #[] c1)) rfl ?_);intro b2 H1 hq1 hs1 hb1 ha1;refine B0 (Ab rb (.func (.func g2) #[] c2)) rfl ?_;intro b3 H2 hq2 hs2 hb2 ha2;refine B0 [.func (.func (opF op)) #[] #[]] rfl ?_;intro b1 H3 hq3 hs3 hb3 ha3;refine Ak (.agg Aj.toArray) Aj CM rfl ?_;intro q H4 hq4 hs4 hb4 ha4;have k2:Blk H4 b2 142 (Ab ra (.func (.func g1) #[] c1)):=((hb1.agr ha2 (show b2<b3 by omega)).agr ha3 (show b2<b1 by omega)).agr ha4 (show b2<q by omega);have k3:Blk H4 b3 142 (Ab rb (.func (.func g2) #[] c2)):=(hb2.agr ha3 (show b3<b1 by omega)).agr ha4 (show b3<q by omega);have k1:Blk H4 b1 238 [.func (.func (opF op)) #[] #[]]:=hb3.agr ha4 (show b1<q by omega);refine VC.fa K7 ?_;refine ld1 (v:=.int .i64 ((szR ra:Nat):Int)) ct3 (by rw [k2.cell];rfl) trivial ?_;(conv=>whnf);rw [w64 (x:=1+((szR ra:Nat):Int)) (by omega) (by omega)];refine VC.fa K7 ?_;refine ld1 (v:=.int .i64 ((szR rb:Nat):Int)) ct3 (by rw [k3.cell];rfl) trivial ?_;(conv=>whnf);rw [w64 (x:=1+((szR ra:Nat):Int)+((szR rb:Nat):Int)) (by omega) (by omega)];rw [show 1+((szR ra:Nat):Int)+((szR rb:Nat):Int)=((1+szR ra+szR rb:Nat):Int) by omega];refine Ao (Om (1+szR ra+szR rb) (by omega) H4) fun H5 ha5=>?_;have hsz:min (1+szR ra+szR rb) 2001=szR (opR op ra rb):=by unfold szR;rw [M0];omega
 rw [hsz];have fnv:=Ab (opR op ra rb) (.func (.func 170) #[] #[.pointer (some ⟨b1,0,none⟩),.pointer (some ⟨b2,0,none⟩),.pointer (some ⟨b3,0,none⟩)]);refine A6 Tryz.underlying142 rfl _ rfl (Ab (opR op ra rb) (.func (.func 170) #[] #[.pointer (some ⟨b1,0,none⟩),.pointer (some ⟨b2,0,none⟩),.pointer (some ⟨b3,0,none⟩)])) rfl (VC.stN (cs:=Ab (opR op ra rb) (.func (.func 170) #[] #[.pointer (some ⟨b1,0,none⟩),.pointer (some ⟨b2,0,none⟩),.pointer (some ⟨b3,0,none⟩)])) rfl (hb4.agr ha5 hb4.lt) (by simp [Ab,Aj]) rfl ?_);intro H6 hb6 ha6 hs6;rw [Cd rfl]at hb6;refine ldN (cs:=Ab (opR op ra rb) (.func (.func 170) #[] #[.pointer (some ⟨b1,0,none⟩),.pointer (some ⟨b2,0,none⟩),.pointer (some ⟨b3,0,none⟩)])) AO (Au hb6) trivial ?_;have ag4:Agr (Old H) H H4:=(((ha1.mono fun k hk=>by have:k<H.size:=hk;omega).trans (ha2.mono fun k hk=>by have:k<H.size:=hk;omega)).trans (ha3.mono fun k hk=>by have:k<H.size:=hk;omega)).trans (ha4.mono fun k hk=>by have:k<H.size:=hk;omega);have ag6:Agr (Old H) H H6:=(ag4.trans (ha5.mono fun k hk=>As ag4 hk)).trans (ha6.mono fun k hk=>by have:k<H.size:=hk;omega);have l5:=Bx ha5;have m:∀{b:Nat} {e:TypeId} {l:List Value},Blk H4 b e l→b≠q→Blk H6 b e l:=fun h hne=>(h.agr ha5 h.lt).agr ha6 hne;have agB:Agr B H H6:=ag6.mono fun k hk=>st.up hk;exact⟨_,_,rfl,fun k hk=>.inl hk,ag6,st.widen ag6 (fun k=>k=b1∨k=b2∨k=b3) (fun k hk=>by rcases hk with rfl | rfl | rfl<;>omega),
  .join op (.inr (.inl rfl)) (.inr (.inr (.inl rfl))) (.inr (.inr (.inr rfl))) (m k1 (by omega)) (m k2 (by omega)) (m k3 (by omega)) (ga.frame agB fun k hk=>.inl hk) (gb.frame agB fun k hk=>.inl hk)⟩
theorem LR{B:Nat→Prop}{H0 H:Aa}{ps:List Pc}{ra:ReM}{va:Value}(st:StB B H0 H ps)(ga:Cq B H va ra):
  Al Tryz.prog 215 #[.agg (Ab ra va).toArray] H (NT B H ps (.star ra)):=by
 obtain⟨g1,c1,rfl⟩:=ga.fn;have z1:=EB ra;refine Al.of_vc Tryz.func215 rfl (Tryz.call215 _) (B0 (Ab ra (.func (.func g1) #[] c1)) rfl ?_);intro b2 H1 hq1 hs1 hb1 ha1;refine Ak (.agg Aj.toArray) Aj CM rfl ?_;intro q H4 hq4 hs4 hb4 ha4;have k2:Blk H4 b2 142 (Ab ra (.func (.func g1) #[] c1)):=hb1.agr ha4 (show b2<q by omega);refine VC.fa K7 ?_;refine ld1 (v:=.int .i64 ((szR ra:Nat):Int)) ct3 (by rw [k2.cell];rfl) trivial ?_;(conv=>whnf);rw [w64 (x:=1+((szR ra:Nat):Int)) (by omega) (by omega)];rw [show 1+((szR ra:Nat):Int)=((1+szR ra:Nat):Int) by omega];refine Ao (Om (1+szR ra) (by omega) H4) fun H5 ha5=>?_;have hsz:min (1+szR ra) 2001=szR (.star ra):=by unfold szR;show _=min (1+ra.nodes) 2001;omega
 rw [hsz];refine A6 Tryz.underlying142 rfl _ rfl (Ab (.star ra) (.func (.func 230) #[] #[.pointer (some ⟨b2,0,none⟩)])) rfl (VC.stN (cs:=Ab (.star ra) (.func (.func 230) #[] #[.pointer (some ⟨b2,0,none⟩)])) rfl (hb4.agr ha5 hb4.lt) (by simp [Ab,Aj]) rfl ?_);intro H6 hb6 ha6 hs6;rw [Cd rfl]at hb6;refine ldN (cs:=Ab (.star ra) (.func (.func 230) #[] #[.pointer (some ⟨b2,0,none⟩)])) AO (Au hb6) trivial ?_;have ag4:Agr (Old H) H H4:=(ha1.mono fun k hk=>by have:k<H.size:=hk;omega).trans (ha4.mono fun k hk=>by have:k<H.size:=hk;omega);have ag6:Agr (Old H) H H6:=(ag4.trans (ha5.mono fun k hk=>As ag4 hk)).trans (ha6.mono fun k hk=>by have:k<H.size:=hk;omega);have l5:=Bx ha5;have agB:Agr B H H6:=ag6.mono fun k hk=>st.up hk;exact⟨_,_,rfl,fun k hk=>.inl hk,ag6,st.widen ag6 (fun k=>k=b2) (fun k hk=>by omega),.star (.inr rfl) ((k2.agr ha5 k2.lt).agr ha6 (show b2≠q by omega)) (ga.frame agB fun k hk=>.inl hk)⟩
theorem KI{B:Nat→Prop}{H0 H:Aa}{ps:List Pc}{ra:ReM}{va:Value}(st:StB B H0 H ps)(ga:Cq B H va ra):
  Al Tryz.prog 216 #[.agg (Ab ra va).toArray] H (NT B H ps (AW ra)):=by
 obtain⟨g1,c1,rfl⟩:=ga.fn;refine Al.of_vc Tryz.func216 rfl (Tryz.call216 _) (B0 (Ab ra (.func (.func g1) #[] c1)) rfl ?_);intro b2 H1 hq1 hs1 hb1 ha1;refine Ak (.agg Aj.toArray) Aj CM rfl ?_;intro q H4 hq4 hs4 hb4 ha4;have k2:Blk H4 b2 142 (Ab ra (.func (.func g1) #[] c1)):=hb1.agr ha4 (show b2<q by omega);have ag4:Agr (Old H) H H4:=(ha1.mono fun k hk=>by have:k<H.size:=hk;omega).trans (ha4.mono fun k hk=>by have:k<H.size:=hk;omega);have st4:=(st.skip hq1 ha1).box hq4 hs4 hb4 ha4;refine Ar.heldZ (Old H4) [5] (sq [0,1,2] (.f 3 (.f 4 (.f 5 .e)))) rfl (by kernel_rfl) (ldN (cs:=Ab ra (.func (.func g1) #[] c1)) AO (Au k2) k2.lt (A6 Tryz.underlying98 rfl _ rfl [] rfl (Ag.mk (Nu (r:=.eps) st4 rfl) ?_)));rintro _ H5 ⟨B1,f1,rfl,s1,a1,st5,ge⟩;refine⟨a1,?_⟩;have agB5:Agr B H H5:=(ag4.trans (a1.mono fun k hk=>As ag4 hk)).mono fun k hk=>st.up hk;refine Ag.mk (EA .alt st5 (ga.frame agB5 s1) ge) ?_;rintro _ H6 ⟨B2,f2,rfl,s2,a2,st6,gj⟩;have a12:=a1.trans (a2.mono fun k hk=>As a1 hk);refine⟨a12,?_⟩;obtain⟨g2,c2,rfl⟩:=gj.fn;refine Bf (cs:=Ab (AW ra) (.func (.func g2) #[] c2)) st6 _ rfl (D6 _ _) (by simp [Ab,Aj]) rfl fun H7 st7 ha7 hs7=>?_;rw [Nw,Cd rfl]at st7;have hb7:Blk H7 q 142 (Ab (AW ra) (.func (.func g2) #[] c2)):=st7.blk _ (D6 _ _);refine ldN (cs:=Ab (AW ra) (.func (.func g2) #[] c2)) AO (Au hb7) trivial ?_;have ag6:Agr (Old H) H H6:=ag4.trans (a12.mono fun k hk=>As ag4 hk);exact⟨B2,_,rfl,fun k hk=>s2 k (s1 k hk),ag6.trans (ha7.mono fun k hk=>by have:k<H.size:=hk;omega),st7.lft.rebase,gj.frame st7.old fun k hk=>hk⟩
theorem Hr(a:ReM)(m:Nat):BA a m 1=some (if 0<m then a else AW a):=rfl
theorem SY(a:ReM)(m k:Nat)(h:1≤k):∃r,BA a m k=some r:=by
 obtain⟨j,rfl⟩:∃j,k=j+1:=⟨k - 1,by omega⟩;exact⟨_,rfl⟩
theorem CS(a:ReM)(m k:Nat)(h:1≤k):(BA a m (k+1)).getD .eps= .cat ((BA a m k).getD .eps) (if k<m then a else AW a):=by
 obtain⟨r,hr⟩:=SY a m k h;show(some (TK (BA a m k) (if k<m then a else AW a))).getD .eps=_;rw [hr];rfl
def Kw(ps:List Pc)(b3 q6 q7:Nat)(a out:ReM)(va fn:Value):List Pc:=ps++[pB 142 b3 (Ab a va),pB 142 q6 Aj,pB 142 q7 (Ab out fn)]
structure Sm(B:Nat→Prop)(H:Aa)(ps:List Pc)(b3 q6 q7:Nat)(a out:ReM)(va:Value)(G:Aa):Prop where
 ex:∃(B':Nat→Prop) (fn:Value),(∀k,B k→B' k)∧Agr (Old H) H G∧StB B' G G (Kw ps b3 q6 q7 a out va fn)∧Cq B' G va a∧Cq B' G fn out
theorem Sd{B:Nat→Prop}{H0 H:Aa}{ps:List Pc}{a:ReM}{va:Value}{m:Nat}{n:Int}(st:StB B H0 H ps)(ga:Cq B H va a)(hm:m≤255)(hn1: -1≤n)(hn2:n≤255)(hmn:0≤n→(m:Int)≤n):
  Al Tryz.prog 232 #[.agg (Ab a va).toArray,.int .i64 (m:Int),.int .i64 n] H (NT B H ps (BH a m n)):=by
 obtain⟨g1,c1,rfl⟩:=ga.fn;refine Al.of_vc Tryz.func232 rfl (Tryz.call232 _) (B0 (Ab a (.func (.func g1) #[] c1)) rfl ?_);intro b3 H1 hq1 hs1 hb1 ha1;have st1:=st.box hq1 hs1 hb1 ha1;refine Ak (.agg Aj.toArray) Aj CM rfl ?_;intro q6 H2 hq2 hs2 hb2 ha2;have st2:=st1.box hq2 hs2 hb2 ha2;have ag2:Agr (Old H) H H2:=(ha1.mono fun k hk=>by have:k<H.size:=hk;omega).trans (ha2.mono fun k hk=>by have:k<H.size:=hk;omega);have agB2:Agr B H H2:=ag2.mono fun k hk=>st.up hk;rw [AaB]at st2;have ga2:=ga.frame agB2 fun k hk=>hk;have bb3:Blk H2 b3 142 (Ab a (.func (.func g1) #[] c1)):=st2.blk _ (D6 _ _);by_cases h1:m=0∧n<0
 ·have d1:((m:Int)==0)=true:=by rw [h1.1];rfl
  have d2:decide (n<0)=true:=decide_eq_true h1.2;(conv=>whnf);rw [d1];(conv=>whnf);rw [d2];refine ldN (cs:=Ab a (.func (.func g1) #[] c1)) AO (Au bb3) trivial (Ag.mk (LR st2 ga2) ?_);rintro _ H3 ⟨B1,f1,rfl,s1,a1,st3,gs⟩;obtain⟨g2,c2,rfl⟩:=gs.fn;refine Bf (cs:=Ab (.star a) (.func (.func g2) #[] c2)) st3 _ rfl (lgR ps _ 1) (by simp [Ab,Aj]) rfl fun H4 st4 ha4 hs4=>?_;rw [lsR,Cd rfl]at st4;have hb4:Blk H4 q6 142 (Ab (.star a) (.func (.func g2) #[] c2)):=st4.blk _ (lgR ps _ 1);refine ldN (cs:=Ab (.star a) (.func (.func g2) #[] c2)) AO (Au hb4) trivial ?_;have e:BH a m n= .star a:=by unfold BH;rw [if_pos h1.2,if_pos h1.1]
  rw [e];exact⟨B1,_,rfl,s1,(ag2.trans (a1.mono fun k hk=>As ag2 hk)).trans (ha4.mono fun k hk=>by have:k<H.size:=hk;omega),st4.lft.rebase,gs.frame st4.old fun k hk=>hk⟩
 by_cases h2:m=0∧n=0
 ·have d1:((m:Int)==0)=true:=by rw [h2.1];rfl
  have d2:decide (n<0)=false:=decide_eq_false (by omega);have d3:(n==0)=true:=by rw [h2.2];rfl
  (conv=>whnf);rw [d1];(conv=>whnf);rw [d2];(conv=>whnf);rw [d1];(conv=>whnf);rw [d3];refine A6 Tryz.underlying98 rfl _ rfl [] rfl (Ag.mk (Nu (r:=.eps) st2 rfl) ?_);rintro _ H3 ⟨B1,f1,rfl,s1,a1,st3,gs⟩;obtain⟨g2,c2,rfl⟩:=gs.fn;refine Bf (cs:=Ab .eps (.func (.func g2) #[] c2)) st3 _ rfl (lgR ps _ 1) (by simp [Ab,Aj]) rfl fun H4 st4 ha4 hs4=>?_;rw [lsR,Cd rfl]at st4;have hb4:Blk H4 q6 142 (Ab .eps (.func (.func g2) #[] c2)):=st4.blk _ (lgR ps _ 1);refine ldN (cs:=Ab .eps (.func (.func g2) #[] c2)) AO (Au hb4) trivial ?_;have e:BH a m n= .eps:=by unfold BH;rw [if_neg (by omega),if_pos h2.2]
  rw [e];exact⟨B1,_,rfl,s1,(ag2.trans (a1.mono fun k hk=>As ag2 hk)).trans (ha4.mono fun k hk=>by have:k<H.size:=hk;omega),st4.lft.rebase,gs.frame st4.old fun k hk=>hk⟩
 by_cases hm0:m=0
 ·have d1:((m:Int)==0)=true:=by rw [hm0];rfl
  have d2:decide (n<0)=false:=decide_eq_false (by omega);have d3:(n==0)=false:=beq_eq_false_iff_ne.2 (by omega);(conv=>whnf);rw [d1];(conv=>whnf);rw [d2];(conv=>whnf);rw [d1];(conv=>whnf);rw [d3];refine ldN (cs:=Ab a (.func (.func g1) #[] c1)) AO (Au bb3) trivial (Ak (.agg Aj.toArray) Aj CM rfl ?_);intro q7 H3 hq3 hs3 hb3 ha3;have st3:=st2.box hq3 hs3 hb3 ha3;rw [AaB]at st3;refine Bf (cs:=Ab a (.func (.func g1) #[] c1)) st3 _ rfl (lgR ps _ 2) (by simp [Ab,Aj]) rfl fun H4 st4 ha4 hs4=>?_;rw [lsR]at st4;replace st4:StB B H0 H4 (Kw ps b3 q6 q7 a a (.func (.func g1) #[] c1) (.func (.func g1) #[] c1)):=by
   have e:Ae Aj 0 (Ab a (.func (.func g1) #[] c1))=Ab a (.func (.func g1) #[] c1):=Cd rfl;have:=st4;rw [e]at this;exact this
  have ag4:Agr (Old H) H H4:=(ag2.trans (ha3.mono fun k hk=>by have:=As ag2 hk;omega)).trans (ha4.mono fun k hk=>by have:k<H.size:=hk;omega);have agB4:Agr B H H4:=ag4.mono fun k hk=>st.up hk;have n3:H.size≤q7:=by have:=Bx ag2;omega
  have n6:H.size≤q6:=by have:=Bx (show Agr (Old H) H H1 from ha1.mono fun k hk=>by have:k<H.size:=hk;omega);omega
  (conv=>whnf);refine Am.cut [] (fun _:Unit=>[]) (fun _ G=>Sm B H ps b3 q6 q7 a ((BA a m 1).getD .eps) (.func (.func g1) #[] c1) G) ?_ ?_
  ·(conv=>whnf);rw [d1];refine ldN (cs:=Ab a (.func (.func g1) #[] c1)) AO (Au (st4.blk _ (D6 _ _))) trivial (Ag.mk (KI st4 (ga.frame agB4 fun k hk=>hk)) ?_);rintro _ H5 ⟨B1,f1,rfl,s1,a1,st5,gs⟩;obtain⟨g2,c2,rfl⟩:=gs.fn;refine Bf (cs:=Ab (AW a) (.func (.func g2) #[] c2)) st5 _ rfl (lgR ps _ 2) (by simp [Ab]) rfl fun H6 st6 ha6 hs6=>?_;unfold Kw at st6;rw [lsR]at st6;have e6:Ae (Ab a (.func (.func g1) #[] c1)) 0 (Ab (AW a) (.func (.func g2) #[] c2))=Ab (AW a) (.func (.func g2) #[] c2):=Cd rfl;rw [e6]at st6;(conv=>whnf);have ag6:Agr (Old H) H H6:=(ag4.trans (a1.mono fun k hk=>As ag4 hk)).trans (ha6.mono fun k hk=>by have:k<H.size:=hk;omega);refine⟨rfl,(),rfl,⟨B1,.func (.func g2) #[] c2,s1,ag6,?_,ga.frame (ag6.mono fun k hk=>st.up hk) s1,?_⟩⟩
   ·rw [Hr,if_neg (by omega)];exact st6.rebase
   ·rw [Hr,if_neg (by omega)];exact gs.frame st6.old fun k hk=>hk
  ·rintro⟨⟩ G0 junk0 tim0;(conv=>whnf);refine A3.mk [8] (fun k:Nat=>[.int .i64 (k:Int)]) (fun k G=>1≤k∧k≤max m 1∧Sm B H ps b3 q6 q7 a ((BA a m k).getD .eps) (.func (.func g1) #[] c1) G) (fun k _=>max m 1 - k) ?_ ?_
   ·(conv=>whnf);exact⟨1,rfl,Aa5 _,by omega,tim0⟩
   ·rintro k G junk1 ⟨hk1,hkm,⟨B1,f1,s1,ag,sg,gv,gf⟩⟩;obtain⟨gg,cc,rfl⟩:=gf.fn;refine AB.mk (fun hz=>?_) (fun hz=>?_)<;>simp only [decide_eq_true_eq,decide_eq_false_iff_not]at hz
    ·(conv=>whnf);try (refine Am.run ?_)
     refine ldN (cs:=Ab ((BA a m k).getD .eps) (.func (.func gg) #[] cc)) AO (Au (sg.blk _ (lgR ps _ 2))) trivial (ldN (cs:=Ab a (.func (.func g1) #[] c1)) AO (Au (sg.blk _ (D6 ps _))) trivial (Ag.mk (EA .cat sg gf gv) ?_));rintro _ G1 ⟨B2,f2,rfl,s2,a2,sg2,gj⟩;obtain⟨g2,c2,rfl⟩:=gj.fn;refine Bf (cs:=Ab (opR .cat ((BA a m k).getD .eps) a) (.func (.func g2) #[] c2)) sg2 _ rfl (lgR ps _ 2) (by simp [Ab]) rfl fun G3 sg3 ja3 js3=>?_;unfold Kw at sg3;rw [lsR]at sg3;have e:Ae (Ab ((BA a m k).getD .eps) (.func (.func gg) #[] cc)) 0 (Ab (opR .cat ((BA a m k).getD .eps) a) (.func (.func g2) #[] c2))=Ab (opR .cat ((BA a m k).getD .eps) a) (.func (.func g2) #[] c2):=Cd rfl;rw [e]at sg3;(conv=>whnf);rw [w64 (x:=(k:Int)+1) (by omega) (by omega)];have ag3:Agr (Old H) H G3:=(ag.trans (a2.mono fun k hk=>As ag hk)).trans (ja3.mono fun k hk=>by have:k<H.size:=hk;omega);refine⟨rfl,k+1,rfl,⟨by omega,by omega,⟨B2,.func (.func g2) #[] c2,fun k hk=>s2 k (s1 k hk),ag3,?_,ga.frame (ag3.mono fun k hk=>st.up hk) fun k hk=>s2 k (s1 k hk),?_⟩⟩,by omega⟩
     ·rw [CS _ _ _ hk1,if_pos (by omega)];exact sg3.rebase
     ·rw [CS _ _ _ hk1,if_pos (by omega)];exact gj.frame sg3.old fun k hk=>hk
    ·obtain rfl:k=max m 1:=by omega
     by_cases hn:n<0
     ·have d2:decide (n<0)=true:=decide_eq_true hn;have hm1:max m 1=m:=by omega
      rw [hm1]at gf sg;(conv=>whnf);try (refine Am.run ?_)
      (conv=>whnf);rw [d2];refine Ar.heldZ (Old G) [4] (sq [0,1] (.f 2 (.f 3 (.f 4 .e)))) rfl (by kernel_rfl) (ldN (cs:=Ab ((BA a m m).getD .eps) (.func (.func gg) #[] cc)) AO (Au (sg.blk _ (lgR ps _ 2))) ((sg.in_ _ (lgR ps _ 2) (k:=q7) rfl).2) (ldN (cs:=Ab a (.func (.func g1) #[] c1)) AO (Au (sg.blk _ (D6 ps _))) ((sg.in_ _ (D6 ps _) (k:=b3) rfl).2) (Ag.mk (LR sg gv) ?_)));rintro _ G1 ⟨B2,f2,rfl,s2,a2,sg2,gs⟩;refine⟨a2,?_⟩;have agB2':Agr B1 G G1:=a2.mono fun k hk=>sg.up hk;refine Ag.mk (EA .cat sg2 (gf.frame agB2' s2) gs) ?_;rintro _ G2 ⟨B3,f3,rfl,s3,a3,sg3,gj⟩;have a23:=a2.trans (a3.mono fun k hk=>As a2 hk);refine⟨a23,?_⟩;obtain⟨g2,c2,rfl⟩:=gj.fn;refine Bf (cs:=Ab (opR .cat ((BA a m m).getD .eps) (.star a)) (.func (.func g2) #[] c2)) sg3 _ rfl (lgR ps _ 1) (by simp [Ab,Aj]) rfl fun G3 sg4 ja3 js3=>?_;unfold Kw at sg4;rw [lsR,Cd rfl]at sg4;have hb4:Blk G3 q6 142 (Ab (opR .cat ((BA a m m).getD .eps) (.star a)) (.func (.func g2) #[] c2)):=sg4.blk _ (lgR ps _ 1);refine ldN (cs:=Ab (opR .cat ((BA a m m).getD .eps) (.star a)) (.func (.func g2) #[] c2)) AO (Au hb4) trivial ?_;have e:BH a m n=opR .cat ((BA a m m).getD .eps) (.star a):=by unfold BH;rw [if_pos hn,if_neg (by omega)];rfl
      rw [e];exact⟨B3,_,rfl,fun k hk=>s3 k (s2 k (s1 k hk)),(ag.trans (a23.mono fun k hk=>As ag hk)).trans (ja3.mono fun k hk=>by have:k<H.size:=hk;omega),sg4.lft.rebase,gj.frame sg4.old fun k hk=>hk⟩
     ·have d2:decide (n<0)=false:=decide_eq_false hn;obtain⟨nn,rfl⟩:=AaG (show 0≤n by omega);(conv=>whnf);try (refine Am.run ?_)
      (conv=>whnf);refine A3.mk [8] (fun k:Nat=>[.int .i64 (k:Int)]) (fun k G=>max m 1≤k∧k≤nn∧Sm B H ps b3 q6 q7 a ((BA a m k).getD .eps) (.func (.func g1) #[] c1) G) (fun k _=>nn - k) ?_ ?_
      ·(conv=>whnf);exact⟨max m 1,rfl,Aa5 _,by omega,⟨B1,.func (.func gg) #[] cc,s1,ag,sg,gv,gf⟩⟩
      ·clear s1 ag sg gv gf B1;rintro k G junk2 ⟨hk1,hkm,⟨B1,f1,s1,ag,sg,gv,gf⟩⟩;obtain⟨gg,cc,rfl⟩:=gf.fn;refine AB.mk (fun hz=>?_) (fun hz=>?_)<;>simp only [decide_eq_true_eq,decide_eq_false_iff_not]at hz
       ·(conv=>whnf);try (refine Am.run ?_)
        refine Ar.heldZ (Old G) [4] (sq [0,1] (.f 2 (.f 3 (.f 4 .e)))) rfl (by kernel_rfl) (ldN (cs:=Ab ((BA a m k).getD .eps) (.func (.func gg) #[] cc)) AO (Au (sg.blk _ (lgR ps _ 2))) ((sg.in_ _ (lgR ps _ 2) (k:=q7) rfl).2) (ldN (cs:=Ab a (.func (.func g1) #[] c1)) AO (Au (sg.blk _ (D6 ps _))) ((sg.in_ _ (D6 ps _) (k:=b3) rfl).2) (Ag.mk (KI sg gv) ?_)));rintro _ G1 ⟨B2,f2,rfl,s2,a2,sg2,gs⟩;refine⟨a2,?_⟩;have agB2':Agr B1 G G1:=a2.mono fun k hk=>sg.up hk;refine Ag.mk (EA .cat sg2 (gf.frame agB2' s2) gs) ?_;rintro _ G2 ⟨B3,f3,rfl,s3,a3,sg3,gj⟩;have a23:=a2.trans (a3.mono fun k hk=>As a2 hk);refine⟨a23,?_⟩;obtain⟨g2,c2,rfl⟩:=gj.fn;refine Bf (cs:=Ab (opR .cat ((BA a m k).getD .eps) (AW a)) (.func (.func g2) #[] c2)) sg3 _ rfl (lgR ps _ 2) (by simp [Ab]) rfl fun G3 sg4 ja3 js3=>?_;unfold Kw at sg4;rw [lsR]at sg4;have e:Ae (Ab ((BA a m k).getD .eps) (.func (.func gg) #[] cc)) 0 (Ab (opR .cat ((BA a m k).getD .eps) (AW a)) (.func (.func g2) #[] c2))=Ab (opR .cat ((BA a m k).getD .eps) (AW a)) (.func (.func g2) #[] c2):=Cd rfl;rw [e]at sg4;(conv=>whnf);rw [w64 (x:=(k:Int)+1) (by omega) (by omega)];have ag3:Agr (Old H) H G3:=(ag.trans (a23.mono fun k hk=>As ag hk)).trans (ja3.mono fun k hk=>by have:k<H.size:=hk;omega);refine⟨rfl,k+1,rfl,⟨by omega,by omega,⟨B3,.func (.func g2) #[] c2,fun k hk=>s3 k (s2 k (s1 k hk)),ag3,?_,ga.frame (ag3.mono fun k hk=>st.up hk) fun k hk=>s3 k (s2 k (s1 k hk)),?_⟩⟩,by omega⟩
        ·rw [CS _ _ _ (by omega),if_neg (by omega)];exact sg4.rebase
        ·rw [CS _ _ _ (by omega),if_neg (by omega)];exact gj.frame sg4.old fun k hk=>hk
       ·obtain rfl:k=nn:=by omega
        refine ldN (cs:=Ab ((BA a m k).getD .eps) (.func (.func gg) #[] cc)) AO (Au (sg.blk _ (lgR ps _ 2))) trivial (Bf (cs:=Ab ((BA a m k).getD .eps) (.func (.func gg) #[] cc)) sg _ rfl (lgR ps _ 1) (by simp [Ab,Aj]) rfl fun G3 sg4 ja3 js3=>?_);unfold Kw at sg4;rw [lsR,Cd rfl]at sg4;have hb4:Blk G3 q6 142 (Ab ((BA a m k).getD .eps) (.func (.func gg) #[] cc)):=sg4.blk _ (lgR ps _ 1);refine ldN (cs:=Ab ((BA a m k).getD .eps) (.func (.func gg) #[] cc)) AO (Au hb4) trivial ?_;have e:BH a m (k:Int)=(BA a m k).getD .eps:=by unfold BH;rw [if_neg (by omega),if_neg (by omega),AaD]
        rw [e];exact⟨B1,_,rfl,s1,ag.trans (ja3.mono fun k hk=>by have:k<H.size:=hk;omega),sg4.lft.rebase,gf.frame sg4.old fun k hk=>hk⟩
 ·have d1:((m:Int)==0)=false:=beq_eq_false_iff_ne.2 (by omega);(conv=>whnf);rw [d1];(conv=>whnf);rw [d1];refine ldN (cs:=Ab a (.func (.func g1) #[] c1)) AO (Au bb3) trivial (Ak (.agg Aj.toArray) Aj CM rfl ?_);intro q7 H3 hq3 hs3 hb3 ha3;have st3:=st2.box hq3 hs3 hb3 ha3;rw [AaB]at st3;refine Bf (cs:=Ab a (.func (.func g1) #[] c1)) st3 _ rfl (lgR ps _ 2) (by simp [Ab,Aj]) rfl fun H4 st4 ha4 hs4=>?_;rw [lsR]at st4;replace st4:StB B H0 H4 (Kw ps b3 q6 q7 a a (.func (.func g1) #[] c1) (.func (.func g1) #[] c1)):=by
   have e:Ae Aj 0 (Ab a (.func (.func g1) #[] c1))=Ab a (.func (.func g1) #[] c1):=Cd rfl;have:=st4;rw [e]at this;exact this
  have ag4:Agr (Old H) H H4:=(ag2.trans (ha3.mono fun k hk=>by have:=As ag2 hk;omega)).trans (ha4.mono fun k hk=>by have:k<H.size:=hk;omega);have agB4:Agr B H H4:=ag4.mono fun k hk=>st.up hk;have n3:H.size≤q7:=by have:=Bx ag2;omega
  have n6:H.size≤q6:=by have:=Bx (show Agr (Old H) H H1 from ha1.mono fun k hk=>by have:k<H.size:=hk;omega);omega
  (conv=>whnf);refine Am.cut [] (fun _:Unit=>[]) (fun _ G=>Sm B H ps b3 q6 q7 a ((BA a m 1).getD .eps) (.func (.func g1) #[] c1) G) ?_ ?_
  ·(conv=>whnf);rw [d1];(conv=>whnf);refine⟨rfl,(),rfl,⟨B,.func (.func g1) #[] c1,fun k hk=>hk,ag4,?_,ga.frame agB4 fun k hk=>hk,?_⟩⟩
   ·rw [Hr,if_pos (by omega)];exact st4.rebase
   ·rw [Hr,if_pos (by omega)];exact ga.frame agB4 fun k hk=>hk
  ·rintro⟨⟩ G0 junk0 tim0;(conv=>whnf);refine A3.mk [8] (fun k:Nat=>[.int .i64 (k:Int)]) (fun k G=>1≤k∧k≤max m 1∧Sm B H ps b3 q6 q7 a ((BA a m k).getD .eps) (.func (.func g1) #[] c1) G) (fun k _=>max m 1 - k) ?_ ?_
   ·(conv=>whnf);exact⟨1,rfl,Aa5 _,by omega,tim0⟩
   ·rintro k G junk1 ⟨hk1,hkm,⟨B1,f1,s1,ag,sg,gv,gf⟩⟩;obtain⟨gg,cc,rfl⟩:=gf.fn;refine AB.mk (fun hz=>?_) (fun hz=>?_)<;>simp only [decide_eq_true_eq,decide_eq_false_iff_not]at hz
    ·(conv=>whnf);try (refine Am.run ?_)
     refine ldN (cs:=Ab ((BA a m k).getD .eps) (.func (.func gg) #[] cc)) AO (Au (sg.blk _ (lgR ps _ 2))) trivial (ldN (cs:=Ab a (.func (.func g1) #[] c1)) AO (Au (sg.blk _ (D6 ps _))) trivial (Ag.mk (EA .cat sg gf gv) ?_));rintro _ G1 ⟨B2,f2,rfl,s2,a2,sg2,gj⟩;obtain⟨g2,c2,rfl⟩:=gj.fn;refine Bf (cs:=Ab (opR .cat ((BA a m k).getD .eps) a) (.func (.func g2) #[] c2)) sg2 _ rfl (lgR ps _ 2) (by simp [Ab]) rfl fun G3 sg3 ja3 js3=>?_;unfold Kw at sg3;rw [lsR]at sg3;have e:Ae (Ab ((BA a m k).getD .eps) (.func (.func gg) #[] cc)) 0 (Ab (opR .cat ((BA a m k).getD .eps) a) (.func (.func g2) #[] c2))=Ab (opR .cat ((BA a m k).getD .eps) a) (.func (.func g2) #[] c2):=Cd rfl;rw [e]at sg3;(conv=>whnf);rw [w64 (x:=(k:Int)+1) (by omega) (by omega)];have ag3:Agr (Old H) H G3:=(ag.trans (a2.mono fun k hk=>As ag hk)).trans (ja3.mono fun k hk=>by have:k<H.size:=hk;omega);refine⟨rfl,k+1,rfl,⟨by omega,by omega,⟨B2,.func (.func g2) #[] c2,fun k hk=>s2 k (s1 k hk),ag3,?_,ga.frame (ag3.mono fun k hk=>st.up hk) fun k hk=>s2 k (s1 k hk),?_⟩⟩,by omega⟩
     ·rw [CS _ _ _ hk1,if_pos (by omega)];exact sg3.rebase
     ·rw [CS _ _ _ hk1,if_pos (by omega)];exact gj.frame sg3.old fun k hk=>hk
    ·obtain rfl:k=max m 1:=by omega
     by_cases hn:n<0
     ·have d2:decide (n<0)=true:=decide_eq_true hn;have hm1:max m 1=m:=by omega
      rw [hm1]at gf sg;(conv=>whnf);try (refine Am.run ?_)
      (conv=>whnf);rw [d2];refine Ar.heldZ (Old G) [4] (sq [0,1] (.f 2 (.f 3 (.f 4 .e)))) rfl (by kernel_rfl) (ldN (cs:=Ab ((BA a m m).getD .eps) (.func (.func gg) #[] cc)) AO (Au (sg.blk _ (lgR ps _ 2))) ((sg.in_ _ (lgR ps _ 2) (k:=q7) rfl).2) (ldN (cs:=Ab a (.func (.func g1) #[] c1)) AO (Au (sg.blk _ (D6 ps _))) ((sg.in_ _ (D6 ps _) (k:=b3) rfl).2) (Ag.mk (LR sg gv) ?_)));rintro _ G1 ⟨B2,f2,rfl,s2,a2,sg2,gs⟩;refine⟨a2,?_⟩;have agB2':Agr B1 G G1:=a2.mono fun k hk=>sg.up hk;refine Ag.mk (EA .cat sg2 (gf.frame agB2' s2) gs) ?_;rintro _ G2 ⟨B3,f3,rfl,s3,a3,sg3,gj⟩;have a23:=a2.trans (a3.mono fun k hk=>As a2 hk);refine⟨a23,?_⟩;obtain⟨g2,c2,rfl⟩:=gj.fn;refine Bf (cs:=Ab (opR .cat ((BA a m m).getD .eps) (.star a)) (.func (.func g2) #[] c2)) sg3 _ rfl (lgR ps _ 1) (by simp [Ab,Aj]) rfl fun G3 sg4 ja3 js3=>?_;unfold Kw at sg4;rw [lsR,Cd rfl]at sg4;have hb4:Blk G3 q6 142 (Ab (opR .cat ((BA a m m).getD .eps) (.star a)) (.func (.func g2) #[] c2)):=sg4.blk _ (lgR ps _ 1);refine ldN (cs:=Ab (opR .cat ((BA a m m).getD .eps) (.star a)) (.func (.func g2) #[] c2)) AO (Au hb4) trivial ?_;have e:BH a m n=opR .cat ((BA a m m).getD .eps) (.star a):=by unfold BH;rw [if_pos hn,if_neg (by omega)];rfl
      rw [e];exact⟨B3,_,rfl,fun k hk=>s3 k (s2 k (s1 k hk)),(ag.trans (a23.mono fun k hk=>As ag hk)).trans (ja3.mono fun k hk=>by have:k<H.size:=hk;omega),sg4.lft.rebase,gj.frame sg4.old fun k hk=>hk⟩
     ·have d2:decide (n<0)=false:=decide_eq_false hn;obtain⟨nn,rfl⟩:=AaG (show 0≤n by omega);(conv=>whnf);try (refine Am.run ?_)
      (conv=>whnf);refine A3.mk [8] (fun k:Nat=>[.int .i64 (k:Int)]) (fun k G=>max m 1≤k∧k≤nn∧Sm B H ps b3 q6 q7 a ((BA a m k).getD .eps) (.func (.func g1) #[] c1) G) (fun k _=>nn - k) ?_ ?_
      ·(conv=>whnf);exact⟨max m 1,rfl,Aa5 _,by omega,⟨B1,.func (.func gg) #[] cc,s1,ag,sg,gv,gf⟩⟩
      ·clear s1 ag sg gv gf B1;rintro k G junk2 ⟨hk1,hkm,⟨B1,f1,s1,ag,sg,gv,gf⟩⟩;obtain⟨gg,cc,rfl⟩:=gf.fn;refine AB.mk (fun hz=>?_) (fun hz=>?_)<;>simp only [decide_eq_true_eq,decide_eq_false_iff_not]at hz
       ·(conv=>whnf);try (refine Am.run ?_)
        refine Ar.heldZ (Old G) [4] (sq [0,1] (.f 2 (.f 3 (.f 4 .e)))) rfl (by kernel_rfl) (ldN (cs:=Ab ((BA a m k).getD .eps) (.func (.func gg) #[] cc)) AO (Au (sg.blk _ (lgR ps _ 2))) ((sg.in_ _ (lgR ps _ 2) (k:=q7) rfl).2) (ldN (cs:=Ab a (.func (.func g1) #[] c1)) AO (Au (sg.blk _ (D6 ps _))) ((sg.in_ _ (D6 ps _) (k:=b3) rfl).2) (Ag.mk (KI sg gv) ?_)));rintro _ G1 ⟨B2,f2,rfl,s2,a2,sg2,gs⟩;refine⟨a2,?_⟩;have agB2':Agr B1 G G1:=a2.mono fun k hk=>sg.up hk;refine Ag.mk (EA .cat sg2 (gf.frame agB2' s2) gs) ?_;rintro _ G2 ⟨B3,f3,rfl,s3,a3,sg3,gj⟩;have a23:=a2.trans (a3.mono fun k hk=>As a2 hk);refine⟨a23,?_⟩;obtain⟨g2,c2,rfl⟩:=gj.fn;refine Bf (cs:=Ab (opR .cat ((BA a m k).getD .eps) (AW a)) (.func (.func g2) #[] c2)) sg3 _ rfl (lgR ps _ 2) (by simp [Ab]) rfl fun G3 sg4 ja3 js3=>?_;unfold Kw at sg4;rw [lsR]at sg4;have e:Ae (Ab ((BA a m k).getD .eps) (.func (.func gg) #[] cc)) 0 (Ab (opR .cat ((BA a m k).getD .eps) (AW a)) (.func (.func g2) #[] c2))=Ab (opR .cat ((BA a m k).getD .eps) (AW a)) (.func (.func g2) #[] c2):=Cd rfl;rw [e]at sg4;(conv=>whnf);rw [w64 (x:=(k:Int)+1) (by omega) (by omega)];have ag3:Agr (Old H) H G3:=(ag.trans (a23.mono fun k hk=>As ag hk)).trans (ja3.mono fun k hk=>by have:k<H.size:=hk;omega);refine⟨rfl,k+1,rfl,⟨by omega,by omega,⟨B3,.func (.func g2) #[] c2,fun k hk=>s3 k (s2 k (s1 k hk)),ag3,?_,ga.frame (ag3.mono fun k hk=>st.up hk) fun k hk=>s3 k (s2 k (s1 k hk)),?_⟩⟩,by omega⟩
        ·rw [CS _ _ _ (by omega),if_neg (by omega)];exact sg4.rebase
        ·rw [CS _ _ _ (by omega),if_neg (by omega)];exact gj.frame sg4.old fun k hk=>hk
       ·obtain rfl:k=nn:=by omega
        refine ldN (cs:=Ab ((BA a m k).getD .eps) (.func (.func gg) #[] cc)) AO (Au (sg.blk _ (lgR ps _ 2))) trivial (Bf (cs:=Ab ((BA a m k).getD .eps) (.func (.func gg) #[] cc)) sg _ rfl (lgR ps _ 1) (by simp [Ab,Aj]) rfl fun G3 sg4 ja3 js3=>?_);unfold Kw at sg4;rw [lsR,Cd rfl]at sg4;have hb4:Blk G3 q6 142 (Ab ((BA a m k).getD .eps) (.func (.func gg) #[] cc)):=sg4.blk _ (lgR ps _ 1);refine ldN (cs:=Ab ((BA a m k).getD .eps) (.func (.func gg) #[] cc)) AO (Au hb4) trivial ?_;have e:BH a m (k:Int)=(BA a m k).getD .eps:=by unfold BH;rw [if_neg (by omega),if_neg (by omega),AaD]
        rw [e];exact⟨B1,_,rfl,s1,ag.trans (ja3.mono fun k hk=>by have:k<H.size:=hk;omega),sg4.lft.rebase,gf.frame sg4.old fun k hk=>hk⟩
def Jd(c:Nat):Int:=match Da c with
 | some v=>(v:Int)
 | none=> -1
theorem Q5{H:Aa}{c:Nat}(hc:c<256):B8 Tryz.prog 173 #[.int .u8 (c:Int)] H (.int .i64 (Jd c)):=by
 refine Al.of_vc Tryz.func173 rfl (Tryz.call173 _) ?_;(conv=>whnf);by_cases hq00:48≤c
 ·skip
  have d1:decide ((c:Int)≥48)=true:=decide_eq_true (by omega);(conv=>whnf);rw [d1];clear d1;by_cases hq01:c≤57
  ·skip
   have d1:decide ((c:Int)≤57)=true:=decide_eq_true (by omega);(conv=>whnf);rw [d1];clear d1;(conv=>whnf);rw [w8 (x:=(c:Int) - 48) (by omega) (by omega)];(conv=>whnf);rw [w64 (x:=(c:Int) - 48) (by omega) (by omega)];(conv=>whnf);refine⟨?_,Agr.refl _ _⟩;have:Da c=some (c - 48):=by unfold Da;rw [if_pos (by omega)]
   unfold Jd;rw [this];show Value.int .i64 ((c:Int) - 48)=Value.int .i64 ((c - 48:Nat):Int)
   congr 1;omega
  ·skip
   have d1:decide ((c:Int)≤57)=false:=decide_eq_false (by omega);(conv=>whnf);rw [d1];clear d1;by_cases hq00:97≤c
   ·skip
    have d1:decide ((c:Int)≥97)=true:=decide_eq_true (by omega);(conv=>whnf);rw [d1];clear d1;by_cases hq01:c≤102
    ·skip
     have d1:decide ((c:Int)≤102)=true:=decide_eq_true (by omega);(conv=>whnf);rw [d1];clear d1;(conv=>whnf);rw [w8 (x:=(c:Int) - 97) (by omega) (by omega)];(conv=>whnf);rw [w64 (x:=(c:Int) - 97) (by omega) (by omega)];(conv=>whnf);rw [w64 (x:=(c:Int) - 97+10) (by omega) (by omega)];(conv=>whnf);refine⟨?_,Agr.refl _ _⟩;have:Da c=some (c - 87):=by unfold Da;rw [if_neg (by omega),if_pos (by omega)]
     unfold Jd;rw [this];show Value.int .i64 ((c:Int) - 97+10)=Value.int .i64 ((c - 87:Nat):Int)
     congr 1;omega
    ·skip
     have d1:decide ((c:Int)≤102)=false:=decide_eq_false (by omega);(conv=>whnf);rw [d1];clear d1;(conv=>whnf);refine⟨?_,Agr.refl _ _⟩;have:Da c=none:=by unfold Da;rw [if_neg (by omega),if_neg (by omega)]
     unfold Jd;rw [this]
   ·skip
    have d1:decide ((c:Int)≥97)=false:=decide_eq_false (by omega);(conv=>whnf);rw [d1];clear d1;(conv=>whnf);refine⟨?_,Agr.refl _ _⟩;have:Da c=none:=by unfold Da;rw [if_neg (by omega),if_neg (by omega)]
    unfold Jd;rw [this]
 ·skip
  have d1:decide ((c:Int)≥48)=false:=decide_eq_false (by omega);(conv=>whnf);rw [d1];clear d1;have d1:decide ((c:Int)≥97)=false:=decide_eq_false (by omega);(conv=>whnf);rw [d1];clear d1;(conv=>whnf);refine⟨?_,Agr.refl _ _⟩;have:Da c=none:=by unfold Da;rw [if_neg (by omega),if_neg (by omega)]
  unfold Jd;rw [this]
def Kv(t:ByteArray)(i:Nat)(inner:Bool):Value:=match Bl t (if inner then Dl else DW) i with
 | .inl e=>.tuple #[.int .u8 0,.int .i64 0,.int .i64 (e:Int)]
 | .inr (c,j)=>.tuple #[.int .u8 (c:Int),.int .i64 (j:Int),.int .i64 (-1)]
theorem En{t:ByteArray}{i e:Nat}{inner:Bool}(h:Bl t (if inner then Dl else DW) i= .inl e):Value.tuple #[.int .u8 0,.int .i64 0,.int .i64 (e:Int)]=Kv t i inner:=by unfold Kv;rw [h]
theorem FQ{t:ByteArray}{i c j:Nat}{inner:Bool}(h:Bl t (if inner then Dl else DW) i= .inr (c,j)):Value.tuple #[.int .u8 (c:Int),.int .i64 (j:Int),.int .i64 (-1)]=Kv t i inner:=by unfold Kv;rw [h]
theorem Em{H:Aa}{t:ByteArray}{i:Nat}{inner:Bool}(ht:t.size≤1152921504606846976)(hi0:i≤t.size):B8 Tryz.prog 134 #[.string t,.int .i64 (i:Int),.bool inner] H (Kv t i inner):=by
 refine Al.of_vc Tryz.func134 rfl (Tryz.call134 _) ?_;by_cases hi:i<t.size
 case neg=>
  have h256:=Ci hi;have d1:decide ((i:Int)≥(t.size:Int))=true:=decide_eq_true (by omega);obtain rfl:i=t.size:=by omega
  (conv=>whnf);rw [d1];(conv=>whnf);exact⟨En (by unfold Bl;rw [h256,if_neg (by decide),if_pos (.inr (.inl (by decide)))]),Agr.refl _ _⟩
 obtain⟨b,hb1,hb2,hb3⟩:=CI hi;have d0:decide ((i:Int)≥(t.size:Int))=false:=decide_eq_false (by omega);(conv=>whnf);rw [d0];refine Dg E5 rfl hb1 ?_;rw [←hb2];by_cases h92:bt t i=92
 case neg=>
  obtain⟨c,hc⟩:∃c,c=bt t i:=⟨_,rfl⟩;rw [←hc]at hb3 h92 ⊢;have dn:((c:Int) != (92:Int))=true:=by rw [bne_iff_ne];omega
  have ho:Bl t (if inner then Dl else DW) i=if c<32∨126<c∨spB (if inner then Dl else DW) c=true then .inl i else .inr (c,i+1):=by unfold Bl;rw [←hc,if_neg h92]
  (conv=>whnf);rw [dn];(conv=>whnf);by_cases hq00:c<32
  ·skip
   have d1:decide ((c:Int)<32)=true:=decide_eq_true (by omega);(conv=>whnf);rw [d1];clear d1;cases inner with
   | true | false=>
     (conv=>whnf);try (refine Am.run ?_)
     (conv=>whnf);exact⟨En (by rw [ho,if_pos (by omega)]),Agr.refl _ _⟩
  ·skip
   have d1:decide ((c:Int)<32)=false:=decide_eq_false (by omega);(conv=>whnf);rw [d1];clear d1;by_cases hq10:126<c
   ·skip
    have d1:decide ((c:Int)>126)=true:=decide_eq_true (by omega);(conv=>whnf);rw [d1];clear d1;cases inner with
    | true | false=>
      (conv=>whnf);try (refine Am.run ?_)
      (conv=>whnf);exact⟨En (by rw [ho,if_pos (by omega)]),Agr.refl _ _⟩
   ·skip
    have d1:decide ((c:Int)>126)=false:=decide_eq_false (by omega);(conv=>whnf);rw [d1];clear d1;cases inner with
    | true=>
      (conv=>whnf);try (refine Am.run ?_)
      refine Ao (Wl hb3) fun G ga=>?_;cases hsp:spB Dl c with
      | true=>
        (conv=>whnf);exact⟨En (by rw [ho,if_pos (.inr (.inr hsp))]),ga⟩
      | false=>
        have hb:¬(c<32∨126<c∨spB (if true=true then Dl else DW) c=true):=by
         have:spB (if true=true then Dl else DW) c=false:=hsp;rw [this];simp;omega
        (conv=>whnf);rw [w64 (x:=(i:Int)+1) (by omega) (by omega)];(conv=>whnf);exact⟨FQ (j:=i+1) (by rw [ho,if_neg hb]),ga⟩
    | false=>
      (conv=>whnf);try (refine Am.run ?_)
      refine Ao (Th hb3) fun G ga=>?_;cases hsp:spB DW c with
      | true=>
        (conv=>whnf);exact⟨En (by rw [ho,if_pos (.inr (.inr hsp))]),ga⟩
      | false=>
        have hb:¬(c<32∨126<c∨spB (if false=true then Dl else DW) c=true):=by
         have:spB (if false=true then Dl else DW) c=false:=hsp;rw [this];simp;omega
        (conv=>whnf);rw [w64 (x:=(i:Int)+1) (by omega) (by omega)];(conv=>whnf);exact⟨FQ (j:=i+1) (by rw [ho,if_neg hb]),ga⟩
 have ho:Bl t (if inner then Dl else DW) i=Ga t (i+1):=by unfold Bl;rw [if_pos h92]
 rw [h92];(conv=>whnf);rw [w64 (x:=(i:Int)+1) (by omega) (by omega)];by_cases hi1:i+1<t.size
 case neg=>
  have h256:=Ci hi1;have d1:decide ((i:Int)+1≥(t.size:Int))=true:=decide_eq_true (by omega);have hsz:i+1=t.size:=by omega
  (conv=>whnf);rw [d1];(conv=>whnf);refine⟨?_,Agr.refl _ _⟩;have:=En (inner:=inner) (e:=i+1) (by rw [ho];unfold Ga;rw [if_pos h256]);rw [hsz]at this;exact this
 obtain⟨b1,hc1,hc2,hc3⟩:=CI hi1;have d1:decide ((i:Int)+1≥(t.size:Int))=false:=decide_eq_false (by omega);(conv=>whnf);rw [d1];clear d1 d0;(conv=>whnf);rw [w64 (x:=(i:Int)+1) (by omega) (by omega)];refine Dg (i:=i+1) E5 rfl hc1 ?_;rw [←hc2];obtain⟨c,hc⟩:∃c,c=bt t (i+1):=⟨_,rfl⟩;rw [←hc]at hc3 ⊢;by_cases h110:c=110
 ·have d1:((c:Int)==(110:Int))=true:=by rw [h110];rfl
  (conv=>whnf);rw [d1];(conv=>whnf);rw [w64 (x:=(i:Int)+2) (by omega) (by omega)];(conv=>whnf);exact⟨FQ (c:=10) (j:=i+2) (by rw [ho];unfold Ga;rw [←hc,h110];rfl),Agr.refl _ _⟩
 have e110:((c:Int)==(110:Int))=false:=beq_eq_false_iff_ne.2 (by omega);(conv=>whnf);rw [e110];by_cases h114:c=114
 ·have d1:((c:Int)==(114:Int))=true:=by rw [h114];rfl
  (conv=>whnf);rw [d1];(conv=>whnf);rw [w64 (x:=(i:Int)+2) (by omega) (by omega)];(conv=>whnf);exact⟨FQ (c:=13) (j:=i+2) (by rw [ho];unfold Ga;rw [←hc,h114];rfl),Agr.refl _ _⟩
 have e114:((c:Int)==(114:Int))=false:=beq_eq_false_iff_ne.2 (by omega);(conv=>whnf);rw [e114];by_cases h116:c=116
 ·have d1:((c:Int)==(116:Int))=true:=by rw [h116];rfl
  (conv=>whnf);rw [d1];(conv=>whnf);rw [w64 (x:=(i:Int)+2) (by omega) (by omega)];(conv=>whnf);exact⟨FQ (c:=9) (j:=i+2) (by rw [ho];unfold Ga;rw [←hc,h116];rfl),Agr.refl _ _⟩
 have e116:((c:Int)==(116:Int))=false:=beq_eq_false_iff_ne.2 (by omega);(conv=>whnf);rw [e116];have hes:Ga t (i+1)=(if c=120 then match Da (bt t (i+1+1))with
   | none=>.inl (i+1+1)
   | some a=>match Da (bt t (i+1+2))with
     | none=>.inl (i+1+2)
     | some b=>.inr (16*a+b,i+1+3)
  else if c<32∨126<c∨(48≤c∧c≤57)∨(97≤c∧c≤122)∨(65≤c∧c≤90)then .inl (i+1)else .inr (c,i+1+1)):=by
  unfold Ga;rw [←hc,if_neg (show c≠256 by omega),if_neg h110,if_neg h114,if_neg h116];rfl
 by_cases h120:c=120
 ·have d1:((c:Int)==(120:Int))=true:=by rw [h120];rfl
  rw [if_pos h120]at hes;(conv=>whnf);rw [d1];(conv=>whnf);refine A3.mk [11] (fun k:Nat=>[.int .i64 (k:Int)]) (fun k G=>2≤k∧k≤4∧(∀m,2≤m→m<k→(Da (bt t (i+m))).isSome=true)∧Agr (Old H) H G) (fun k _=>4 - k) ?_ ?_
  ·(conv=>whnf);exact⟨2,rfl,by omega,by omega,fun m h1 h2=>by omega,Agr.refl _ _⟩
  ·rintro k G junk ⟨hk2,hk4,hall,hag⟩;refine AB.mk (fun hz=>?_) (fun hz=>?_)<;>simp only [decide_eq_true_eq,decide_eq_false_iff_not]at hz
   ·(conv=>whnf);try (refine Am.run ?_)
    (conv=>whnf);rw [w64 (x:=(i:Int)+(k:Int)) (by omega) (by omega)];have hbadk:Da (bt t (i+k))=none→Bl t (if inner then Dl else DW) i= .inl (i+k):=fun hn=>by
     rw [ho,hes];have:k=2∨k=3:=by omega
     rcases this with rfl | rfl
     ·have hn:Da (bt t (i+1+1))=none:=hn;rw [hn]
     ·have h2:=hall 2 (by omega) (by omega);obtain⟨a,ha⟩:=AaA.1 h2;have ha:Da (bt t (i+1+1))=some a:=ha;have hn:Da (bt t (i+1+2))=none:=hn;rw [ha];show(match Da (bt t (i+1+2))with | none=>_ | some b=>_)=_;rw [hn]
    by_cases hik:i+k<t.size
    case neg=>
     have h256:=Ci hik;have d2:decide ((i:Int)+(k:Int)≥(t.size:Int))=true:=decide_eq_true (by omega);(conv=>whnf);rw [d2];(conv=>whnf);rw [w64 (x:=(i:Int)+(k:Int)) (by omega) (by omega)];(conv=>whnf);refine⟨?_,hag⟩;exact En (e:=i+k) (hbadk (by rw [h256];rfl))
    obtain⟨bk,hk1,hk2',hk3⟩:=CI hik;have d2:decide ((i:Int)+(k:Int)≥(t.size:Int))=false:=decide_eq_false (by omega);(conv=>whnf);rw [d2];(conv=>whnf);rw [w64 (x:=(i:Int)+(k:Int)) (by omega) (by omega)];refine Dg (i:=i+k) E5 rfl hk1 ?_;rw [←hk2'];refine Ao (Q5 hk3) fun G2 ga2=>?_;have hag2:=hag.trans (ga2.mono fun k hk=>As hag hk);cases hx:Da (bt t (i+k))with
    | none=>
      have d3:decide (Jd (bt t (i+k))<0)=true:=by unfold Jd;rw [hx];rfl
      (conv=>whnf);rw [d3];(conv=>whnf);rw [w64 (x:=(i:Int)+(k:Int)) (by omega) (by omega)];(conv=>whnf);exact⟨En (e:=i+k) (hbadk hx),hag2⟩
    | some v=>
      have d3:decide (Jd (bt t (i+k))<0)=false:=by unfold Jd;rw [hx];show decide ((v:Int)<0)=false;exact decide_eq_false (by omega)
      (conv=>whnf);rw [d3];(conv=>whnf);rw [w64 (x:=(k:Int)+1) (by omega) (by omega)];refine⟨rfl,k+1,rfl,⟨by omega,by omega,fun m h1 h2=>?_,hag2⟩,by omega⟩;rcases Nat.lt_succ_iff_lt_or_eq.1 h2 with h | rfl
      ·exact hall m h1 h
      ·rw [hx];rfl
   ·obtain rfl:k=4:=by omega
    obtain⟨a,ha⟩:=AaA.1 (hall 2 (by omega) (by omega));obtain⟨b,hb⟩:=AaA.1 (hall 3 (by omega) (by omega));have hal:=Gv ha;have hbl:=Gv hb;have h2l:i+2<t.size:=Dc fun e=>by rw [e]at ha;cases ha
    have h3l:i+3<t.size:=Dc fun e=>by rw [e]at hb;cases hb
    obtain⟨x2,p1,p2,p3⟩:=CI h2l;obtain⟨x3,q1,q2,q3⟩:=CI h3l;have ea:Jd (bt t (i+2))=(a:Int):=by unfold Jd;rw [ha]
    have eb:Jd (bt t (i+3))=(b:Int):=by unfold Jd;rw [hb]
    refine Ar.held (Old G) 18 (sq [0,1,2,3,6,7,8,9,13,14] (.f 4 (sq [5] (.f 10 (sq [11,12,15,16,17] .e))))) rfl (by kernel_rfl) ?_;(conv=>whnf);rw [w64 (x:=(i:Int)+2) (by omega) (by omega)];refine Dg (i:=i+2) E5 rfl p1 ?_;rw [←p2];(conv=>whnf);rw [w64 (x:=(i:Int)+3) (by omega) (by omega)];refine Dg (i:=i+3) E5 rfl q1 ?_;rw [←q2];(conv=>whnf);rw [w64 (x:=(i:Int)+4) (by omega) (by omega)];refine Ao (Q5 p3) fun G2 ga2=>(⟨ga2,?_⟩);rw [ea];(conv=>whnf);rw [w64 (x:=16*(a:Int)) (by omega) (by omega)];refine Ao (Q5 q3) fun G3 ga3=>?_;have ga4:=ga2.trans (ga3.mono fun k hk=>As ga2 hk);refine⟨ga4,?_⟩;rw [eb];(conv=>whnf);rw [w64 (x:=16*(a:Int)+(b:Int)) (by omega) (by omega)];(conv=>whnf);rw [w8 (x:=16*(a:Int)+(b:Int)) (by omega) (by omega)];(conv=>whnf);refine⟨?_,hag.trans (ga4.mono fun k hk=>As hag hk)⟩;have:=FQ (t:=t) (i:=i) (inner:=inner) (c:=16*a+b) (j:=i+4) (by
     rw [ho,hes];have ha:Da (bt t (i+1+1))=some a:=ha;have hb:Da (bt t (i+1+2))=some b:=hb;rw [ha];show(match Da (bt t (i+1+2))with | none=>_ | some b=>_)=_;rw [hb])
    rw [←this];rfl
 have d1:((c:Int)==(120:Int))=false:=beq_eq_false_iff_ne.2 (by omega);rw [if_neg h120]at hes;(conv=>whnf);rw [d1];clear d1;(conv=>whnf);by_cases hq00:97≤c
 ·skip
  have d1:decide ((c:Int)≥97)=true:=decide_eq_true (by omega);(conv=>whnf);rw [d1];clear d1;by_cases hq01:c≤122
  ·skip
   have d1:decide ((c:Int)≤122)=true:=decide_eq_true (by omega);(conv=>whnf);rw [d1];clear d1;have d1:decide ((c:Int)<32)=false:=decide_eq_false (by omega);(conv=>whnf);rw [d1];clear d1;have d1:decide ((c:Int)>126)=false:=decide_eq_false (by omega);(conv=>whnf);rw [d1];clear d1;(conv=>whnf);rw [w64 (x:=(i:Int)+1) (by omega) (by omega)];(conv=>whnf);exact⟨En (e:=i+1) (by rw [ho,hes,if_pos (by omega)]),Agr.refl _ _⟩
  ·skip
   have d1:decide ((c:Int)≤122)=false:=decide_eq_false (by omega);(conv=>whnf);rw [d1];clear d1;have d1:decide ((c:Int)≥65)=true:=decide_eq_true (by omega);(conv=>whnf);rw [d1];clear d1;have d1:decide ((c:Int)≤90)=false:=decide_eq_false (by omega);(conv=>whnf);rw [d1];clear d1;have d1:decide ((c:Int)≥48)=true:=decide_eq_true (by omega);(conv=>whnf);rw [d1];clear d1;have d1:decide ((c:Int)≤57)=false:=decide_eq_false (by omega);(conv=>whnf);rw [d1];clear d1;have d1:decide ((c:Int)<32)=false:=decide_eq_false (by omega);(conv=>whnf);rw [d1];clear d1;by_cases hq10:126<c
   ·skip
    have d1:decide ((c:Int)>126)=true:=decide_eq_true (by omega);(conv=>whnf);rw [d1];clear d1;(conv=>whnf);rw [w64 (x:=(i:Int)+1) (by omega) (by omega)];(conv=>whnf);exact⟨En (e:=i+1) (by rw [ho,hes,if_pos (by omega)]),Agr.refl _ _⟩
   ·skip
    have d1:decide ((c:Int)>126)=false:=decide_eq_false (by omega);(conv=>whnf);rw [d1];clear d1;(conv=>whnf);rw [w64 (x:=(i:Int)+2) (by omega) (by omega)];(conv=>whnf);exact⟨FQ (j:=i+2) (by rw [ho,hes,if_neg (by omega)]),Agr.refl _ _⟩
 ·skip
  have d1:decide ((c:Int)≥97)=false:=decide_eq_false (by omega);(conv=>whnf);rw [d1];clear d1;by_cases hq10:65≤c
  ·skip
   have d1:decide ((c:Int)≥65)=true:=decide_eq_true (by omega);(conv=>whnf);rw [d1];clear d1;by_cases hq11:c≤90
   ·skip
    have d1:decide ((c:Int)≤90)=true:=decide_eq_true (by omega);(conv=>whnf);rw [d1];clear d1;have d1:decide ((c:Int)<32)=false:=decide_eq_false (by omega);(conv=>whnf);rw [d1];clear d1;have d1:decide ((c:Int)>126)=false:=decide_eq_false (by omega);(conv=>whnf);rw [d1];clear d1;(conv=>whnf);rw [w64 (x:=(i:Int)+1) (by omega) (by omega)];(conv=>whnf);exact⟨En (e:=i+1) (by rw [ho,hes,if_pos (by omega)]),Agr.refl _ _⟩
   ·skip
    have d1:decide ((c:Int)≤90)=false:=decide_eq_false (by omega);(conv=>whnf);rw [d1];clear d1;have d1:decide ((c:Int)≥48)=true:=decide_eq_true (by omega);(conv=>whnf);rw [d1];clear d1;have d1:decide ((c:Int)≤57)=false:=decide_eq_false (by omega);(conv=>whnf);rw [d1];clear d1;have d1:decide ((c:Int)<32)=false:=decide_eq_false (by omega);(conv=>whnf);rw [d1];clear d1;have d1:decide ((c:Int)>126)=false:=decide_eq_false (by omega);(conv=>whnf);rw [d1];clear d1;(conv=>whnf);rw [w64 (x:=(i:Int)+2) (by omega) (by omega)];(conv=>whnf);exact⟨FQ (j:=i+2) (by rw [ho,hes,if_neg (by omega)]),Agr.refl _ _⟩
  ·skip
   have d1:decide ((c:Int)≥65)=false:=decide_eq_false (by omega);(conv=>whnf);rw [d1];clear d1;by_cases hq20:48≤c
   ·skip
    have d1:decide ((c:Int)≥48)=true:=decide_eq_true (by omega);(conv=>whnf);rw [d1];clear d1;by_cases hq21:c≤57
    ·skip
     have d1:decide ((c:Int)≤57)=true:=decide_eq_true (by omega);(conv=>whnf);rw [d1];clear d1;have d1:decide ((c:Int)<32)=false:=decide_eq_false (by omega);(conv=>whnf);rw [d1];clear d1;have d1:decide ((c:Int)>126)=false:=decide_eq_false (by omega);(conv=>whnf);rw [d1];clear d1;(conv=>whnf);rw [w64 (x:=(i:Int)+1) (by omega) (by omega)];(conv=>whnf);exact⟨En (e:=i+1) (by rw [ho,hes,if_pos (by omega)]),Agr.refl _ _⟩
    ·skip
     have d1:decide ((c:Int)≤57)=false:=decide_eq_false (by omega);(conv=>whnf);rw [d1];clear d1;have d1:decide ((c:Int)<32)=false:=decide_eq_false (by omega);(conv=>whnf);rw [d1];clear d1;have d1:decide ((c:Int)>126)=false:=decide_eq_false (by omega);(conv=>whnf);rw [d1];clear d1;(conv=>whnf);rw [w64 (x:=(i:Int)+2) (by omega) (by omega)];(conv=>whnf);exact⟨FQ (j:=i+2) (by rw [ho,hes,if_neg (by omega)]),Agr.refl _ _⟩
   ·skip
    have d1:decide ((c:Int)≥48)=false:=decide_eq_false (by omega);(conv=>whnf);rw [d1];clear d1;by_cases hq00:c<32
    ·skip
     have d1:decide ((c:Int)<32)=true:=decide_eq_true (by omega);(conv=>whnf);rw [d1];clear d1;(conv=>whnf);rw [w64 (x:=(i:Int)+1) (by omega) (by omega)];(conv=>whnf);exact⟨En (e:=i+1) (by rw [ho,hes,if_pos (by omega)]),Agr.refl _ _⟩
    ·skip
     have d1:decide ((c:Int)<32)=false:=decide_eq_false (by omega);(conv=>whnf);rw [d1];clear d1;have d1:decide ((c:Int)>126)=false:=decide_eq_false (by omega);(conv=>whnf);rw [d1];clear d1;(conv=>whnf);rw [w64 (x:=(i:Int)+2) (by omega) (by omega)];(conv=>whnf);exact⟨FQ (j:=i+2) (by rw [ho,hes,if_neg (by omega)]),Agr.refl _ _⟩
end Go.Proofs.YtfbghcpdinlmcaaGreatDoor
