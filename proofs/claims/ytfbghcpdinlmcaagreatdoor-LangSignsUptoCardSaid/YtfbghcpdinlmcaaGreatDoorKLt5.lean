/- Parts of the proof: PCan10, POdd7, PNews, PCel3, PCan11, PLg1, PReM, VIf, PBld, PNfa5, PNfa6, PTxt, PLg2, PThm, PBs1, PLk1, PLk2, PLg3, PLg4, PLg5, PDetB, PNet05, PDCa, PLk3 -/
import Derived.Test.YtfbghcpdinlmcaaGreatDoorKLt4
import Derived.Test.YtfbghcpdinlmcaaGreatDoorKLt3
import Derived.Test.YtfbghcpdinlmcaaGreatDoorKLt2
import Derived.Test.YtfbghcpdinlmcaaGreatDoorKLt1
set_option maxHeartbeats 64000000
open Bool renaming and_eq_true → AbK
open Int renaming toNat_natCast → AcK, le_refl → Ad8
open List renaming length_append → AaS, getElem?_eq_some_iff → AaT, mem_singleton → AaU, length_nil → AaV, mem_of_getElem? → Ab8, length_cons → AbD, length_map → AbH, mem_append → AbM, length_singleton → AbV, perm_append_singleton → AbX, range → Ac3, mem_cons → Ac4, pairwise_iff_getElem → Ac5, getElem?_map → Ac8, not_mem_nil → AcF, mem_cons_of_mem → AcL, mem_range → AcM, foldl_cons → AcO, mem_map → AcP, getElem?_eq_getElem → AcQ, foldl_append → AcR, sublist_cons_self → AcS, findIdx?_eq_some_iff_getElem → AcT, all_eq_true → AcU, take_length → AcV, getElem?_of_mem → AcX, eq_nil_of_length_eq_zero → AcY, length_pos_iff → AcZ, length_range → Ad1, take_add_one → Ad2, findIdx?_eq_none_iff → Ad3, getElem?_append_left → Ad4, length_take → Ad6, take_of_length_le → Ad9, mem_append_right → AdA, mem_append_left → AdB, getElem_range → AdC, mem_cons_self → AdD, mem_filterMap → AdE, pairwise_cons → AdG, findIdx?_cons → AdH, pairwise_map → AdI, getElem_mem → AdK, prefix_refl → AdM, nodup_cons → AdO, range_succ → AdP
open Nat renaming zero_add → AbW, le_refl → AbY, zero_le → AcN, mul_add → Ad0, le_of_lt → AdF, lt_trichotomy → AdJ, div_eq_of_lt → AdL, mul_add_div → AdN, add_assoc → AdQ
open Option renaming map_some → AcW, bind_some → Ad5, map_eq_none_iff → Ad7
set_option linter.unusedVariables false
set_option linter.unusedSimpArgs false
set_option maxRecDepth 100000
namespace Go.Proofs.YtfbghcpdinlmcaaGreatDoor
open Go.VC
attribute [local irreducible] Bo B0 Bg
section
variable{K K':Type} [DecidableEq K] [DecidableEq K']{most:Nat}{step:K→Nat→K}{step':K'→Nat→K'}{start:K}{f:K→K'}{I:K→Prop}
def mpF(f:K→K')(p:List K×List Nat):List K'×List Nat:=(p.1.map f,p.2)
def Xq(I:K→Prop)(s:Option (List K×List Nat)):Prop:=∀F r,s=some (F,r)→∀y∈F,I y
theorem Xv{F:List K}{k:K}(h:∀y∈F,f y=f k→y=k):(atF most F k).map (fun p=>(p.1.map f,p.2))=atF most (F.map f) (f k):=by
 unfold atF;have e:(F.map f).findIdx? (·=f k)=F.findIdx? (·=k):=by
  rw [List.findIdx?_map];exact GA fun y hy=>by
   show decide (f y=f k)=decide (y=k);rw [decide_eq_decide];exact⟨h y hy,fun e=>by rw [e]⟩
 rw [e];cases F.findIdx? (·=k)with
 | some i=>rfl
 | none=>
   simp only [AbH];split
   ·simp
   ·rfl
theorem W5{x:K}{b:Nat}{s:Option (List K×List Nat)}(hI:Xq I s)(hx:I (step x b))(hinj:∀y z,I y→I z→f y=f z→y=z)(hst:f (step x b)=step' (f x) b):(C3 most step x s b).map (mpF f)=C3 most step' (f x) (s.map (mpF f)) b∧Xq I (C3 most step x s b):=by
 cases s with
 | none=>exact⟨rfl,fun F r h=>by cases h⟩
 | some p=>
   obtain⟨F,r⟩:=p;have hF:=hI F r rfl;have h:=Xv (most:=most) (f:=f) (F:=F) (k:=step x b) fun y hy=>hinj y _ (hF y hy) hx;have e:(C3 most step' (f x) ((some (F,r)).map (mpF f)) b)=(atF most (F.map f) (step' (f x) b)).map fun q=>(q.1,r++[q.2]):=rfl;rw [e,←hst,←h];cases ha:atF most F (step x b)with
   | none=>
     have e2:C3 most step x (some (F,r)) b=none:=by
      show(atF most F (step x b)).map _=none;rw [ha];rfl
     rw [e2];exact⟨rfl,fun F r h=>by cases h⟩
   | some q=>
     obtain⟨G,i⟩:=q;have e2:C3 most step x (some (F,r)) b=some (G,r++[i]):=by
      show(atF most F (step x b)).map _=_;rw [ha];rfl
     rw [e2];refine⟨rfl,fun F' r' e y hy=>?_⟩;injection e with e
     injection e with e1 e3
     subst e1;rcases JF ha y hy with h | rfl
     ·exact hF y h
     ·exact hx
theorem NK{x:K}(hinj:∀y z,I y→I z→f y=f z→y=z):∀(l:List Nat) (s:Option (List K×List Nat)),Xq I s→(∀b∈l,I (step x b)∧f (step x b)=step' (f x) b)→(l.foldl (C3 most step x) s).map (mpF f)=l.foldl (C3 most step' (f x)) (s.map (mpF f))∧Xq I (l.foldl (C3 most step x) s)
 | [],s,hs,_=>⟨rfl,hs⟩
 | b::l,s,hs,h=>by
   obtain⟨h1,h2⟩:=W5 (most:=most) hs (h b (by simp)).1 hinj (h b (by simp)).2;rw [AcO,AcO,←h1];exact NK hinj l _ h2 fun c hc=>h c (by simp [hc])
theorem On(hinj:∀y z,I y→I z→f y=f z→y=z)(h0:I start)(hst:∀x b,I x→b<256→I (step x b)∧f (step x b)=step' (f x) b):∀n,(Bv most step (Ac3 256) start n).map (fun p=>(p.1.map f,p.2))=Bv most step' (Ac3 256) (f start) n∧∀F rows,Bv most step (Ac3 256) start n=some (F,rows)→∀y∈F,I y
 | 0=>⟨rfl,fun F rows e y hy=>by
   injection e with e
   injection e with e1 e2
   subst e1;rw [AaU.1 hy];exact h0⟩
 | n+1=>by
   obtain⟨h1,h2⟩:=On hinj h0 hst n;rw [Bv,Bv,←h1];cases hr:Bv most step (Ac3 256) start n with
   | none=>exact⟨rfl,fun F rows e=>by cases e⟩
   | some p=>
     obtain⟨F,rows⟩:=p;have hF:=h2 F rows hr;simp only [Ad5,AcW,Ac8];cases hg:F[n]? with
     | none=>exact⟨rfl,fun F' rows' e y hy=>by
       injection e with e
       injection e with e1 e2
       subst e1;exact hF y hy⟩
     | some x=>
       have hx:=hF x (Ab8 hg);obtain⟨h3,h4⟩:=NK (most:=most) (step:=step) (step':=step') (x:=x) hinj (Ac3 256) (some (F,[])) (fun F' r e y hy=>by
        injection e with e
        injection e with e1 e2
        subst e1;exact hF y hy) fun b hb=>hst x b hx (AcM.1 hb)
       simp only [AcW];rw [show(some (F.map f,([]:List Nat)))=(some (F,([]:List Nat))).map (mpF f)from rfl,←h3];cases hq:(Ac3 256).foldl (C3 most step x) (some (F,[]))with
       | none=>exact⟨rfl,fun F rows e=>by cases e⟩
       | some q=>
         obtain⟨G,r⟩:=q;refine⟨rfl,fun F' rows' e y hy=>?_⟩;injection e with e
         injection e with e1 e2
         subst e1;exact h4 G r hq y hy
theorem Qp(hinj:∀y z,I y→I z→f y=f z→y=z)(h0:I start)(hst:∀x b,I x→b<256→I (step x b)∧f (step x b)=step' (f x) b):(Dj most step start).map (List.map f)=Dj most step' (f start):=by
 unfold Dj Ep;rw [←(On hinj h0 hst most).1];cases Bv most step (Ac3 256) start most<;>rfl
end
attribute [local irreducible] Dj
noncomputable instance decL:DecidableEq (List Nat→Bool):=fun a b=>Classical.propDecidable (a=b)
open Classical in
noncomputable def Zh(M:PA)(q:Nat)(w:List Nat):Bool:=if Ch w then M.fi (M.run q w)else false
def dvL(L:List Nat→Bool)(b:Nat)(w:List Nat):Bool:=L (b::w)
def Zu(M:PA)(O:List Nat):Prop:=Dj 65537 dvL (Zh M 0)=some (O.map (Zh M))
end Go.Proofs.YtfbghcpdinlmcaaGreatDoor
namespace Go.Proofs.YtfbghcpdinlmcaaGreatDoor
open Go.VC
def Zm:AM:=BP [BitVec.allOnes 256] [[1],[0]] [false,true]
attribute [local irreducible] Zm Bo B0 Bg
end Go.Proofs.YtfbghcpdinlmcaaGreatDoor
namespace Go.VC
end Go.VC
namespace Go.Proofs.YtfbghcpdinlmcaaGreatDoor
open Go.VC
attribute [local irreducible] Bo Bg
end Go.Proofs.YtfbghcpdinlmcaaGreatDoor
namespace Go.Proofs.YtfbghcpdinlmcaaGreatDoor
open Go.VC
attribute [local irreducible] Bo Bg B0
end Go.Proofs.YtfbghcpdinlmcaaGreatDoor
namespace Go.Proofs.YtfbghcpdinlmcaaGreatDoor
open Go.VC
attribute [local irreducible] Bo B0 Bg Zm
def Bz(o:Option AM):Prop:=∃cells next final,o=Eb cells next final
theorem Bz.ok{o:Option AM}(h:Bz o):∃ls,L2 o ls:=by
 obtain⟨c,n,f,rfl⟩:=h;exact V4 c n f
theorem Bz.steps{o:Option AM}(h:Bz o):Me o:=by
 obtain⟨c,n,f,rfl⟩:=h;exact(X1 c n f).stepOk
structure IsCan(o:Option AM)(a:Option AM):Prop where
 made:Bz a
 ex:∃O,Zu (paO o) O∧Xj (paO o) O∧Zx (paO o) O (Bs a) (BV a)∧stN a=O.length
end Go.Proofs.YtfbghcpdinlmcaaGreatDoor
namespace Go.Proofs.YtfbghcpdinlmcaaGreatDoor
open Go.VC
attribute [local irreducible] Bo B0 Bg
section
variable{K:Type}{most:Nat}{step:K→Nat→K}{start:K}{P:K→Prop}{fin:K→Bool}{sets:List (BitVec 256)}
structure LW(step:K→Nat→K)(start:K)(P:K→Prop)(sets:List (BitVec 256)):Prop where
 beg:P start
 st:∀x b,P x→P (step x b)
 sep:∀g b,g<256→b<256→DI sets g b=true→∀x,P x→step x g=step x b
theorem LW.cov(h:LW step start P sets):UX P step (Fs sets):=fun b hb hp=>by
 obtain⟨g,g1,g2,g3⟩:=JO (cells:=sets) (b:=b) b (Jz sets b);have hne:g≠b:=fun e=>by rw [e,hp]at g3;cases g3
 exact⟨g,by omega,g3,fun x hx=>h.sep g b (by omega) hb (BU.2 fun c hc=>(BU.1 g2 c hc).symm) x hx⟩
theorem LW.detA [DecidableEq K](h:LW step start P sets)(hm:1≤most):(Ep most step (E4 sets) start).map Prod.fst=Dj most step start:=by
 rw [Kg];exact SV h.cov hm h.beg h.st
structure UY(step:K→Nat→K)(fin:K→Bool)(F:List K)(st:Int→Nat→Int)(fi:Int→Bool):Prop where
 st:∀(q b:Nat) (x:K),F[q]? =some x→b<256→∃t:Nat,st (q:Int) b=(t:Int)∧F[t]? =some (step x b)
 fi:∀(q:Nat) (x:K),F[q]? =some x→fi (q:Int)=fin x
theorem XR [DecidableEq K](h:LW step start P sets){bs:List Nat}{F:List K}{rows:List (List Nat)}(hm:1≤most)(hd:Ep most step bs start=some (F,rows)):Mb most step bs start F.length F rows∧∀x∈F,P x:=by
 obtain⟨-,-,-,g4⟩:=D8 (P:=P) hm h.beg (fun x b hx=>h.st x b hx) bs most F rows hd;exact⟨Ik hm F.length F rows (JL hm hd) fun j hj=>hj,g4⟩
theorem TC{bs:List Nat}{F:List K}{rows:List (List Nat)}(hk:Mb most step bs start F.length F rows){q:Nat}{row:List Nat}(hr:rows[q]? =some row):row.length=bs.length∧∀t∈row,t<F.length:=by
 have hcl:=hk.cols row (Ab8 hr);refine⟨hcl,fun t ht=>?_⟩;obtain⟨k,hkt⟩:=AcX ht;have hkl:=(AaT.1 hkt).1;obtain⟨b,hb⟩:=Ae (l:=bs) (k:=k) (by omega);have hql:=(AaT.1 hr).1;rw [hk.rl]at hql;obtain⟨x,hx⟩:=Ae (l:=F) (k:=q) hql;exact(AaT.1 (hk.ok q k row b t x hr hb hkt hx)).1
theorem Ab3 [DecidableEq K](h:LW step start P sets){F:List K}{rows:List (List Nat)}(hm:1≤most)(hm2:most≤65536)(hd:Ep most step (E4 sets) start=some (F,rows)):
  B8 (BB sets) (rows.map B9) F.length=true∧UY step fin F (Bs (some (BP (BB sets) (rows.map B9) (F.map fin)))) (BV (some (BP (BB sets) (rows.map B9) (F.map fin))))∧stN (some (BP (BB sets) (rows.map B9) (F.map fin)))=F.length:=by
 obtain⟨hk,hP⟩:=XR h hm hd;have h0:=(AaT.1 hk.zero).1;have hlen:=hk.len;have hrl:(rows.map B9).length=F.length:=by rw [AbH,hk.rl]
 have hbl:(E4 sets).length=(BB sets).length:=AbH _;have hs:B8 (BB sets) (rows.map B9) F.length=true:=by
  rw [Ng];refine⟨⟨by omega,by omega,hrl⟩,fun b hb=>N4 _ hb,fun r hr=>?_⟩;obtain⟨row,hrow,rfl⟩:=AcP.1 hr;obtain⟨q,hq⟩:=AcX hrow;obtain⟨h1,h2⟩:=TC hk hq;unfold GU;rw [AbK,beq_iff_eq,AcU];refine⟨by unfold B9;rw [AbH,h1,hbl],fun t ht=>?_⟩;obtain⟨u,hu,rfl⟩:=AcP.1 ht;have:=h2 u hu;simp only [AbK,decide_eq_true_eq];omega
 have hfl:(F.map fin).length=F.length:=AbH _;refine⟨hs,⟨fun q b x hx hb=>?_,fun q x hx=>?_⟩,by simp only [stN,BP,AbH];exact hk.rl⟩
 ·obtain⟨row,hrow⟩:=Ae (l:=rows) (k:=q) (by rw [hk.rl];exact(AaT.1 hx).1);obtain⟨h1,h2⟩:=TC hk hrow;obtain⟨c1,c2⟩:=BT hs hb;obtain⟨c,hc⟩:=Ae c1;have hcb:=c2 c hc;obtain⟨t,ht⟩:=Ae (l:=row) (k:=AT (BB sets) b) (by omega);have hbs:(E4 sets)[AT (BB sets) b]? =some (Be c 0).1:=by unfold E4;rw [Ac8,hc];rfl
  have hok:=hk.ok q _ row _ t x hrow hbs ht hx;have hcm:=Kv.1 (Ab8 hc);have hp:=IB sets;have hsg:DI sets (Be c 0).1 b=true:=BU.2 fun s hs=>hp.same c hcm _ _ (GQ (hp.ne c hcm)).1 hcb s hs;refine⟨t,?_,by rw [hok,h.sep _ b (D7 c 0) hb hsg x (hP x (Ab8 hx))]⟩;rw [EL (row:=B9 row) (by rw [hfl];exact hs) (by rw [Ac8,hrow];rfl) hb];unfold B9;rw [List.getD_eq_getElem?_getD,Ac8,ht];rfl
 ·simp [BV,BP,hx]
theorem DZ [DecidableEq K](hm:1≤most)(h0:P start)(hs:∀x b,P x→P (step x b))(bs:List Nat):∀n,Bv most step bs start n=none→∃L:List K,L.Nodup∧L.length=most+1∧∀x∈L,P x
 | 0,h=>by cases h
 | n+1,h=>by
   rw [Bv]at h;cases hr:Bv most step bs start n with
   | none=>exact DZ hm h0 hs bs n hr
   | some p=>
     obtain⟨f,rows⟩:=p;obtain⟨i1,i2,-,i4⟩:=D8 (P:=P) hm h0 hs bs n f rows hr;rw [hr]at h;simp only [Ad5]at h;cases hx:f[n]? with
     | none=>rw [hx]at h;cases h
     | some x=>
       rw [hx]at h;simp only [Ad7]at h;have hPx:=i4 x (Ab8 hx);have key:∀(l:List Nat) (g:List K) (r:List Nat),g.length≤most→g.Nodup→(∀y∈g,P y)→l.foldl (C3 most step x) (some (g,r))=none→∃L:List K,L.Nodup∧L.length=most+1∧∀y∈L,P y:=fun l=>by
        induction l with
        | nil=>intro g r _ _ _ h;cases h
        | cons b l ih=>
          intro g r hg hnd hP h;rw [AcO]at h;cases ha:atF most g (step x b)with
          | none=>
            unfold atF at ha;cases hf:g.findIdx? (·=step x b)with
            | some j=>rw [hf]at ha;cases ha
            | none=>
              rw [hf]at ha;simp only at ha;split at ha
              ·cases ha
              ·have hno:step x b∉g:=fun hmem=>by
                rw [Ad3]at hf;have:=hf _ hmem;simp at this
               refine⟨g++[step x b],List.nodup_append.2 ⟨hnd,by simp,fun u hu v hv=>?_⟩,by simp;omega,fun y hy=>?_⟩
               ·rw [AaU]at hv;subst hv;exact fun e=>hno (e ▸ hu)
               ·rcases AbM.1 hy with hy | hy
                ·exact hP y hy
                ·rw [AaU]at hy;subst hy;exact hs x b hPx
          | some q=>
            obtain⟨g2,i⟩:=q;have e:C3 most step x (some (g,r)) b=some (g2,r++[i]):=by
             show(atF most g (step x b)).map _=_;rw [ha];rfl
            rw [e]at h;obtain⟨-,k2,k3,-⟩:=JG ha hg hnd;exact ih g2 _ k2 k3 (fun y hy=>by
             rcases JF ha y hy with h | rfl
             ·exact hP y h
             ·exact hs x b hPx) h
       exact key bs f [] i1 i2 i4 h
end
def Cj(a b:Option AM)(x:Int×Int)(c:Nat):Int×Int:=if c<256 then(Bs a x.1 c,Bs b x.2 c)else x
def Q0(a b:Option AM)(x:Int×Int):Prop:=(0≤x.1∧x.1<stN a)∧0≤x.2∧x.2<stN b
theorem N9{o:Option AM}{ls:List Nat}(h:L2 o ls){g b:Nat}(hg:g<256)(hb:b<256)(hs:∀c∈Au o,c.getLsbD g=c.getLsbD b){q:Int}(h0:0≤q)(h1:q<stN o):Bs o q g=Bs o q b:=by
 obtain⟨k,c,hk,hcb,-⟩:=h.part b hb;have hcg:c.getLsbD g=true:=by rw [hs c (Ab8 hk)];exact hcb
 obtain⟨l,hl,-⟩:=h.least k c hk;rw [(h.keeps k c l g hk hl hg hcg).2 q h0 h1,(h.keeps k c l b hk hl hb hcb).2 q h0 h1]
theorem Zc{a b:Option AM}(ha:Bz a)(hb:Bz b):LW (Cj a b) ((0,0):Int×Int) (Q0 a b) (Au a++Au b):=by
 have sa:=ha.steps;have sb:=hb.steps;have a1:=sa.n1;have b1:=sb.n1;obtain⟨la,ca⟩:=ha.ok;obtain⟨lb,cb⟩:=hb.ok;refine⟨⟨⟨Ad8 _,by omega⟩,Ad8 _,by omega⟩,fun x c hx=>?_,fun g c hg hc hs x hx=>?_⟩
 ·unfold Cj;split
  ·rename_i h;have h1:=sa.step x.1 c hx.1 h;have h2:=sb.step x.2 c hx.2 h;exact⟨h1,h2⟩
  ·exact hx
 ·unfold Cj;rw [if_pos hg,if_pos hc];have h1:=N9 ca hg hc (fun d hd=>(BU.1 hs d (AdB _ hd))) hx.1.1 hx.1.2;have h2:=N9 cb hg hc (fun d hd=>(BU.1 hs d (AdA _ hd))) hx.2.1 hx.2.2;rw [h1,h2]
def prW(a b:Option AM)(most:Nat):Option (List (Int×Int)):=Dj most (Cj a b) (0,0)
theorem Wu{a b:Option AM}(ha:Bz a)(hb:Bz b){most:Nat}(hm:1≤most)(h:prW a b most=none):most<stN a*stN b:=by
 unfold prW Dj at h;rw [Ad7]at h;have hg:=Zc ha hb;obtain⟨L,h1,h2,h3⟩:=DZ hm hg.beg (fun x c hx=>hg.st x c hx) _ _ h;have hn:(L.map fun x:Int×Int=>x.1.toNat*stN b+x.2.toNat).Nodup:=by
  unfold List.Nodup at h1 ⊢;rw [AdI];refine(Ac5.2 fun i j hi hj hij=>?_);have hne:=Ac5.1 h1 i j hi hj hij;have hx:=h3 _ (AdK hi);have hy:=h3 _ (AdK hj);intro e;apply hne;obtain⟨⟨x1,x2⟩,x3,x4⟩:=hx;obtain⟨⟨y1,y2⟩,y3,y4⟩:=hy;have hb0:L[i].2.toNat<stN b:=by omega
  have hb1:L[j].2.toNat<stN b:=by omega
  have e1:L[i].1.toNat=L[j].1.toNat:=by
   have:(L[i].1.toNat*stN b+L[i].2.toNat) / stN b=(L[j].1.toNat*stN b+L[j].2.toNat) / stN b:=by rw [e]
   rw [Nat.mul_comm,AdN (by omega),AdL hb0,Nat.mul_comm,AdN (by omega),AdL hb1]at this;omega
  have e2:L[i].2.toNat=L[j].2.toNat:=by rw [e1]at e;omega
  exact Prod.ext (by omega) (by omega)
 have:=Wj hn (n:=stN a*stN b) fun q hq=>by
  obtain⟨x,hx,rfl⟩:=AcP.1 hq;obtain⟨⟨x1,x2⟩,x3,x4⟩:=h3 x hx;have k1:x.1.toNat+1≤stN a:=by omega
  have k2:=Nat.mul_le_mul_right (stN b) k1;rw [Nat.succ_mul]at k2;omega
 rw [AbH]at this;omega
end Go.Proofs.YtfbghcpdinlmcaaGreatDoor
namespace Go.Proofs.YtfbghcpdinlmcaaGreatDoor
open Go.VC
inductive ReM
 | eps
 | cls (s:BitVec 256)
 | cat (a b:ReM)
 | alt (a b:ReM)
 | star (a:ReM)
 | and_ (a b:ReM)
 | minus (a b:ReM)
def Ag:ReM→Value
 | .eps=>.iface 98 (.agg #[])
 | .cls s=>.iface 104 (Bt s)
 | .cat a b=>.iface 105 (.agg #[Ag a,Ag b])
 | .alt a b=>.iface 305 (.agg #[Ag a,Ag b])
 | .star a=>.iface 310 (.agg #[Ag a])
 | .and_ a b=>.iface 64 (.agg #[Ag a,Ag b])
 | .minus a b=>.iface 65 (.agg #[Ag a,Ag b])
theorem FP(r:ReM):∃T v,Ag r= .iface T v:=by cases r<;>exact⟨_,_,rfl⟩
theorem DE(r:ReM):(Ag r).oneCell'=true:=by cases r<;>rfl
def ReM.nodes:ReM→Nat
 | .eps=>1
 | .cls _=>1
 | .cat a b=>1+a.nodes+b.nodes
 | .alt a b=>1+a.nodes+b.nodes
 | .star a=>1+a.nodes
 | .and_ a b=>1+a.nodes+b.nodes
 | .minus a b=>1+a.nodes+b.nodes
def ReM.plain:ReM→Bool
 | .eps=>true
 | .cls _=>true
 | .cat a b=>a.plain&&b.plain
 | .alt a b=>a.plain&&b.plain
 | .star a=>a.plain
 | .and_ _ _=>false
 | .minus _ _=>false
end Go.Proofs.YtfbghcpdinlmcaaGreatDoor
namespace Go.VC
section
variable{P:Program}{t:TypeId}{x y:Operand}{S:Nat→Prop}{H:Aa}{K:Value→Prop}{T A:TypeId}{v z:Value}{d:TypeDesc}
theorem Dy(hd:P.underlying A=some d)(hn:∀ms,d≠ .interface ms)(k:K (.tuple #[v,.bool true])):AJ P (Instr.typeAssert (.iface A v) t A true) S H K:=by
 refine AJ.mk _ (fun w _=>?_) k;unfold Instr.typeAssert;simp only [Sem.run_bind,run_underlying hd,Result.andThen_ok];cases d<;>first | (exact absurd rfl (hn _)) | simp
theorem BD(hd:P.underlying A=some d)(hn:∀ms,d≠ .interface ms)(hz:(P.info? A).bind (·.zero)=some z)(hne:T≠A)(k:K (.tuple #[z,.bool false])):AJ P (Instr.typeAssert (.iface T v) t A true) S H K:=by
 refine AJ.mk _ (fun w _=>?_) k;have hzr:(zeroValue A).run P w= .ok z w:=by
  cases hi:P.info? A with
  | none=>rw [hi]at hz;cases hz
  | some i=>
    have hz':i.zero=some z:=by simpa [hi]using hz
    simp [zeroValue,typeInfo,hi,hz']
 unfold Instr.typeAssert;simp only [Sem.run_bind,run_underlying hd,Result.andThen_ok];cases d<;>first | (exact absurd rfl (hn _)) | simp [hne,hzr]
theorem Hy(hd:P.underlying A=some d)(hn:∀ms,d≠ .interface ms)(hz:(P.info? A).bind (·.zero)=some z)(k:K (.tuple #[z,.bool false])):AJ P (Instr.typeAssert .nilIface t A true) S H K:=by
 refine AJ.mk _ (fun w _=>?_) k;have hzr:(zeroValue A).run P w= .ok z w:=by
  cases hi:P.info? A with
  | none=>rw [hi]at hz;cases hz
  | some i=>
    have hz':i.zero=some z:=by simpa [hi]using hz
    simp [zeroValue,typeInfo,hi,hz']
 unfold Instr.typeAssert;simp only [Sem.run_bind,run_underlying hd,Result.andThen_ok];cases d<;>first | (exact absurd rfl (hn _)) | simp [hzr]
theorem MZ{ms:Array (String×TypeId)}(h:P.underlying t=some (.interface ms))(w:World):(Op.equal t (.iface T v) .nilIface).run P w= .ok false w:=by
 have:∀d:Nat,(Op.equalIn (d+1) t (.iface T v) .nilIface).run P w= .ok false w:=fun d=>by
  simp [Op.equalIn,run_underlying h]
 exact this 9999
theorem Li{ms:Array (String×TypeId)}(h:P.underlying t=some (.interface ms))(w:World):(Op.equal t .nilIface .nilIface).run P w= .ok true w:=by
 have:∀d:Nat,(Op.equalIn (d+1) t .nilIface .nilIface).run P w= .ok true w:=fun d=>by
  simp [Op.equalIn,run_underlying h]
 exact this 9999
theorem ifeq{ms:Array (String×TypeId)}(h:P.underlying t=some (.interface ms))(k:K (.bool false)):AJ P (do eqGuard .eql t x y (.iface T v) .nilIface;binOp .eql t (.iface T v) .nilIface) S H K:=by
 refine AJ.mk _ (fun w _=>?_) k;simp [eqGuard,binOp,MZ h]
theorem NO{ms:Array (String×TypeId)}(h:P.underlying t=some (.interface ms))(k:K (.bool true)):AJ P (do eqGuard .neq t x y (.iface T v) .nilIface;binOp .neq t (.iface T v) .nilIface) S H K:=by
 refine AJ.mk _ (fun w _=>?_) k;simp [eqGuard,binOp,MZ h]
theorem AbI{ms:Array (String×TypeId)}{c:Value}(h:P.underlying t=some (.interface ms))(k:K (.bool true)):AJ P (do eqGuard .eql t x (.const c) .nilIface .nilIface;binOp .eql t .nilIface .nilIface) S H K:=by
 refine AJ.mk _ (fun w _=>?_) k;simp [eqGuard,binOp,Li h]
theorem Pk{ms:Array (String×TypeId)}{c:Value}(h:P.underlying t=some (.interface ms))(k:K (.bool false)):AJ P (do eqGuard .neq t x (.const c) .nilIface .nilIface;binOp .neq t .nilIface .nilIface) S H K:=by
 refine AJ.mk _ (fun w _=>?_) k;simp [eqGuard,binOp,Li h]
end
end Go.VC
namespace Go.Proofs.YtfbghcpdinlmcaaGreatDoor
open Go.VC
theorem Se(x:Value)(w:World):(callMethod (.iface 98 x) "Size" #[]).run Tryz.prog w= .ok (.enter 271 #[x]) w:=by kernel_rfl
theorem Sd(x:Value)(w:World):(callMethod (.iface 104 x) "Size" #[]).run Tryz.prog w= .ok (.enter 273 #[x]) w:=by kernel_rfl
theorem Sb(x:Value)(w:World):(callMethod (.iface 105 x) "Size" #[]).run Tryz.prog w= .ok (.enter 275 #[x]) w:=by kernel_rfl
theorem RZ(x:Value)(w:World):(callMethod (.iface 305 x) "Size" #[]).run Tryz.prog w= .ok (.enter 278 #[x]) w:=by kernel_rfl
theorem QB(x:Value)(w:World):(callMethod (.iface 310 x) "Size" #[]).run Tryz.prog w= .ok (.enter 280 #[x]) w:=by kernel_rfl
theorem Sa(x:Value)(w:World):(callMethod (.iface 64 x) "Size" #[]).run Tryz.prog w= .ok (.enter 266 #[x]) w:=by kernel_rfl
theorem Pt(x:Value)(w:World):(callMethod (.iface 65 x) "Size" #[]).run Tryz.prog w= .ok (.enter 269 #[x]) w:=by kernel_rfl
def stM:ReM→Nat
 | .eps=>2
 | .cls _=>2
 | .cat a b=>stM a+stM b
 | .alt a b=>stM a+stM b+2
 | .star a=>stM a+2
 | .and_ _ _=>0
 | .minus _ _=>0
def A9(p q:Nat):EdM:=⟨p,q,true,0#256⟩
def Cf(p q:Nat)(s:BitVec 256):EdM:=⟨p,q,false,s⟩
def AA:ReM→Nat→Nat×Nat×List EdM
 | .eps,n=>(n,n+1,[A9 n (n+1)])
 | .cls s,n=>(n,n+1,[Cf n (n+1) s])
 | .cat a b,n=>((AA a n).1,(AA b (n+stM a)).2.1,(AA a n).2.2++(AA b (n+stM a)).2.2++[A9 (AA a n).2.1 (AA b (n+stM a)).1])
 | .alt a b,n=>(n,n+1+stM a+stM b,(AA a (n+1)).2.2++(AA b (n+1+stM a)).2.2++
   [A9 n (AA a (n+1)).1,A9 n (AA b (n+1+stM a)).1,A9 (AA a (n+1)).2.1 (n+1+stM a+stM b),A9 (AA b (n+1+stM a)).2.1 (n+1+stM a+stM b)])
 | .star a,n=>(n,n+1+stM a,(AA a (n+1)).2.2++[A9 n (AA a (n+1)).1,A9 n (n+1+stM a),A9 (AA a (n+1)).2.1 (AA a (n+1)).1,A9 (AA a (n+1)).2.1 (n+1+stM a)])
 | .and_ _ _,n=>(n,n,[])
 | .minus _ _,n=>(n,n,[])
theorem D1:∀(r:ReM),r.plain=true→∀n,(AA r n).2.2.length+1≤2*stM r
 | .eps,_,n=>by simp [AA,stM]
 | .cls _,_,n=>by simp [AA,stM]
 | .cat a b,h,n=>by
   simp only [ReM.plain,AbK]at h;have h1:=D1 a h.1 n;have h2:=D1 b h.2 (n+stM a);simp only [AA,stM,AaS,AbD,AaV];omega
 | .alt a b,h,n=>by
   simp only [ReM.plain,AbK]at h;have h1:=D1 a h.1 (n+1);have h2:=D1 b h.2 (n+1+stM a);simp only [AA,stM,AaS,AbD,AaV];omega
 | .star a,h,n=>by
   have h1:=D1 a h (n+1);simp only [AA,stM,AaS,AbD,AaV];omega
 | .and_ _ _,h,_=>by cases h
 | .minus _ _,h,_=>by cases h
theorem Cs:∀(r:ReM),r.plain=true→∀n,n≤(AA r n).1∧(AA r n).1<n+stM r∧n≤(AA r n).2.1∧(AA r n).2.1<n+stM r
 | .eps,_,n=>by simp only [AA,stM];omega
 | .cls _,_,n=>by simp only [AA,stM];omega
 | .cat a b,h,n=>by
   simp only [ReM.plain,AbK]at h;have h1:=Cs a h.1 n;have h2:=Cs b h.2 (n+stM a);simp only [AA,stM];omega
 | .alt a b,h,n=>by simp only [AA,stM];omega
 | .star a,h,n=>by simp only [AA,stM];omega
 | .and_ _ _,h,_=>by cases h
 | .minus _ _,h,_=>by cases h
def bdL(n:Nat)(v sub:Value):List Value:=[.int .i64 (n:Int),.int .i64 0,.int .i64 0,v,sub,.int .i64 0]
abbrev tBd:TypeId:=246
section
variable{B:Nat→Prop}{H0 H:Aa}{rest:List Pc}{bb n:Nat}{v sub:Value}
theorem Fb{K:Value→Aa→Prop}(st:StB B H0 H (pB tBd bb (bdL n v sub)::rest))(hn:n≤2000000)(k:∀H',StB B H0 H' (pB tBd bb (bdL (n+1) v sub)::rest)→K (.int .i64 (n:Int)) H'):
  Ad Tryz.prog 175 #[.pointer (some ⟨bb,0,none⟩)] H K:=by
 refine Ad.mk (R:=fun r H'=>r= .int .i64 (n:Int)∧StB B H0 H' (pB tBd bb (bdL (n+1) v sub)::rest)) ?_ fun r H' ⟨h1,h2⟩=>by rw [h1];exact k H' h2
 refine Al.of_vc Tryz.func175 rfl (Tryz.call175 _) (fa Bh (fa Du ?_));refine ld1 (v:=.int .i64 (n:Int)) ct3 (by rw [(st.blk 0 rfl).cell];rfl) trivial ?_;(conv=>whnf);rw [w64 (x:=(n:Int)+1) (by omega) (by omega)];refine fa Bh (fa Du (AZ st 0 ct3 rfl (show 0<6 by decide) rfl fun H1 st1=>(fa Bh (fa Du ?_))));refine ld1 (v:=.int .i64 ((n:Int)+1)) ct3 (by rw [(st1.blk 0 rfl).cell];rfl) trivial ?_;(conv=>whnf);rw [w64 (x:=(n:Int)+1 - 1) (by omega) (by omega),show(n:Int)+1 - 1=(n:Int) by omega];(conv=>whnf);exact⟨rfl,st1⟩
theorem Ta{p q:Nat}(hp:p≤2000000)(hq:q≤2000000)(s:Bool)(t:BitVec 256):(EdM.mk p q s t).Ok:=⟨BH (by omega),BH (by omega)⟩
theorem KL(p q:Nat){S:Nat→Prop}{H:Aa}{K:Value→Prop}(k:K (.agg (edL (A9 p q)).toArray)):
  AJ Tryz.prog (Instr.build 174 [(0,.int .i64 (p:Int)),(1,.int .i64 (q:Int)),(2,.bool true)].toArray) S H K:=by
 have e:edL (A9 p q)=[.int .i64 (p:Int),.int .i64 (q:Int),.bool true,.int .u64 0,.int .u64 0,.int .u64 0,.int .u64 0]:=by
  have h:∀i,wd 0#256 i=0:=fun i=>by unfold wd;simp
  simp [edL,A9,h]
 rw [e]at k;exact Aw Tryz.underlying174 rfl _ Jf _ (by kernel_rfl) k
theorem WB(x y:Int)(w0 w1 w2 w3:Value){S:Nat→Prop}{H:Aa}{K:Value→Prop}(h0:w0.oneCell'=true)(h1:w1.oneCell'=true)(h2:w2.oneCell'=true)(h3:w3.oneCell'=true)(k:K (.agg [.int .i64 x,.int .i64 y,.bool false,w0,w1,w2,w3].toArray)):
  AJ Tryz.prog (Instr.build 174 [(0,.int .i64 x),(1,.int .i64 y),(3,.agg [w0,w1,w2,w3].toArray)].toArray) S H K:=
 Aw Tryz.underlying174 rfl _ Jf [.int .i64 x,.int .i64 y,.bool false,w0,w1,w2,w3] (by kernel_rfl) k
theorem KK(p q:Nat)(s:BitVec 256){S:Nat→Prop}{H:Aa}{K:Value→Prop}(k:K (.agg (edL (Cf p q s)).toArray)):
  AJ Tryz.prog (Instr.build 174 [(0,.int .i64 (p:Int)),(1,.int .i64 (q:Int)),(3,.agg (Ac s).toArray)].toArray) S H K:=by
 unfold Cf edL at k;unfold Ac;exact WB _ _ _ _ _ _ rfl rfl rfl rfl k
theorem Gw{K:Value→Aa→Prop}{a:Option Addr}{c p q:Nat}{es:List EdM}(st:StB B H0 H (pB tBd bb (bdL n (.slice a es.length c) sub)::pS tEd 174 a es.length c es::rest))(hp:p≤2000000)(hq:q≤2000000)(hl:es.length+1≤4194304)
  (k:∀a' c' H',StB B H0 H' (pB tBd bb (bdL n (.slice a' (es++[A9 p q]).length c') sub)::pS tEd 174 a' (es++[A9 p q]).length c' (es++[A9 p q])::rest)→K (.tuple #[]) H'):
  Ad Tryz.prog 176 #[.pointer (some ⟨bb,0,none⟩),.int .i64 (p:Int),.int .i64 (q:Int)] H K:=by
 refine Ad.mk (R:=fun r H'=>r= .tuple #[]∧∃a' c',StB B H0 H' (pB tBd bb (bdL n (.slice a' (es++[A9 p q]).length c') sub)::pS tEd 174 a' (es++[A9 p q]).length c' (es++[A9 p q])::rest)) ?_ fun r H' ⟨h1,a',c',h2⟩=>by rw [h1];exact k a' c' H' h2
 refine Al.of_vc Tryz.func176 rfl (Tryz.call176 _) (fa Bh (fa D4 ?_));refine ld1 (v:=.slice a es.length c) Gy (by rw [(st.blk 0 rfl).cell];rfl) trivial ?_;refine KL p q (AG GE (edL (A9 p q)) rfl rfl (by decide) (by decide) ?_);intro y H1 hy hs1 hb1 ha1;have st1:=st.skip hy ha1;refine Ml (ys:=[A9 p q]) st1 1 GE rfl (hb1.cells (o:=0) (cs:=edL (A9 p q)) fun j v hv=>by rw [AbW];exact hv) (Ty.reps_one ⟨rfl,Ta hp hq _ _⟩) rfl (fun u hu=>AcU.1 (Ge _) u hu) (by simp only [AbD,AaV];omega) (by decide) fun a9 c9 H9 st9 _=>?_;refine fa Bh (fa D4 (AZ st9 0 Gy rfl (show 3<6 by decide) rfl fun H10 st10=>?_));(conv=>whnf);have el:es.length+[A9 p q].length=(es++[A9 p q]).length:=by simp
 rw [el]at st10;exact⟨rfl,a9,c9,st10⟩
theorem X2{K:Value→Aa→Prop}{a:Option Addr}{c:Nat}{es:List EdM}{s:BitVec 256}(st:StB B H0 H (pB tBd bb (bdL n (.slice a es.length c) sub)::pS tEd 174 a es.length c es::rest))(hn:n≤1000000)(hl:es.length+1≤4194304)
  (k:∀a' c' H',StB B H0 H' (pB tBd bb (bdL (n+2) (.slice a' (es++[Cf n (n+1) s]).length c') sub)::pS tEd 174 a' (es++[Cf n (n+1) s]).length c' (es++[Cf n (n+1) s])::rest)→K (.tuple #[.int .i64 (n:Int),.int .i64 ((n+1:Nat):Int)]) H'):
  Ad Tryz.prog 177 #[.pointer (some ⟨bb,0,none⟩),Bt s] H K:=by
 refine Ad.mk (R:=fun r H'=>r= .tuple #[.int .i64 (n:Int),.int .i64 ((n+1:Nat):Int)]∧∃a' c',StB B H0 H' (pB tBd bb (bdL (n+2) (.slice a' (es++[Cf n (n+1) s]).length c') sub)::pS tEd 174 a' (es++[Cf n (n+1) s]).length c' (es++[Cf n (n+1) s])::rest)) ?_ fun r H' ⟨h1,a',c',h2⟩=>by rw [h1];exact k a' c' H' h2
 refine Al.of_vc Tryz.func177 rfl (Tryz.call177 _) (Cq (Ac s) rfl ?_);intro x H1 hx hs1 hb1 ha1;have st1:=(st.box hx hs1 hb1 ha1).perm (AbX _ _);have st2:StB B H0 H1 (pB tBd bb (bdL n (.slice a es.length c) sub)::pB 101 x (Ac s)::pS tEd 174 a es.length c es::rest):=st1.perm (List.Perm.swap _ _ _);refine Fb st2 (by omega) fun H3 st3=>(Fb st3 (by omega) fun H4 st4=>?_);have hdis:=st4.apart2 (i:=0) (j:=2) rfl rfl (by decide);have hdis2:=st4.apart2 (i:=1) (j:=2) rfl rfl (by decide);refine Ar.heldZ (fun k=>k<H4.size∧¬slB (.slice a es.length c) k) [15] (sq [0,1,2,3,4,5,6,7,8,9] (.f 10 (.f 11 (sq [12,13,14] (.f 15 .e))))) rfl (by kernel_rfl) ?_;have hb4:bb<H4.size∧¬slB (.slice a es.length c) bb:=⟨(st4.in_ 0 rfl rfl).2,fun h=>hdis bb rfl (.inl h)⟩;have hx4:x<H4.size∧¬slB (.slice a es.length c) x:=⟨(st4.in_ 1 rfl rfl).2,fun h=>hdis2 x rfl (.inl h)⟩;refine fa Bh (fa D4 ?_);refine ld1 (v:=.slice a es.length c) Gy (by rw [(st4.blk 0 rfl).cell];rfl) hb4 ?_;refine ldN (cs:=Ac s) AP ((st4.blk 1 rfl).cells fun j v hv=>by rw [AbW];exact hv) hx4 ?_;refine KK n (n+1) s (AG GE (edL (Cf n (n+1) s)) rfl rfl (by decide) (by decide) ?_);intro y H5 hy hs5 hb5 ha5;have st5:=st4.skip hy ha5;refine⟨ha5.mono fun k hk=>by have:=hk.1;omega,?_⟩;refine Ml (ys:=[Cf n (n+1) s]) st5 2 GE rfl (hb5.cells (o:=0) (cs:=edL (Cf n (n+1) s)) fun j v hv=>by rw [AbW];exact hv) (Ty.reps_one ⟨rfl,Ta (by omega) (by omega) _ _⟩) rfl (fun u hu=>AcU.1 (Ge _) u hu) (by simp only [AbD,AaV];omega) (by decide) fun a9 c9 H9 st9 ha9=>?_;refine⟨(ha5.mono fun k hk=>by have:=hk.1;omega).trans (ha9.mono fun k hk=>⟨by have:=hk.1;omega,hk.2⟩),?_⟩;refine fa Bh (fa D4 (AZ st9 0 Gy rfl (show 3<6 by decide) rfl fun H10 st10=>?_));(conv=>whnf);have el:es.length+[Cf n (n+1) s].length=(es++[Cf n (n+1) s]).length:=by simp
 rw [el]at st10;exact⟨rfl,a9,c9,(st10.perm (List.Perm.swap _ _ _)).sub (AcS _ _)⟩
end
theorem DY:(Tryz.prog.info? 98).bind (·.zero)=some (.agg #[]):=rfl
theorem DF:(Tryz.prog.info? 104).bind (·.zero)=some (.agg #[.int .u64 0,.int .u64 0,.int .u64 0,.int .u64 0]):=rfl
theorem EW:(Tryz.prog.info? 105).bind (·.zero)=some (.agg #[.nilIface,.nilIface]):=rfl
theorem Hl:(Tryz.prog.info? 305).bind (·.zero)=some (.agg #[.nilIface,.nilIface]):=rfl
theorem JZ:(Tryz.prog.info? 310).bind (·.zero)=some (.agg #[.nilIface]):=rfl
theorem ZX{B:Nat→Prop}{H0:Aa}{bb:Nat}{sub:Value}:∀(r:ReM),r.plain=true→∀{H:Aa} {rest:List Pc} {n:Nat} {a:Option Addr} {c:Nat} {es:List EdM} (st:StB B H0 H (pB tBd bb (bdL n (.slice a es.length c) sub)::pS tEd 174 a es.length c es::rest)),n+stM r≤1000000→es.length+2*stM r≤4000000→
  Al Tryz.prog 138 #[.pointer (some ⟨bb,0,none⟩),Ag r] H fun v H'=>v= .tuple #[.int .i64 ((AA r n).1:Nat),.int .i64 ((AA r n).2.1:Nat)]∧∃a' c',StB B H0 H' (pB tBd bb (bdL (n+stM r) (.slice a' (es++(AA r n).2.2).length c') sub)::pS tEd 174 a' (es++(AA r n).2.2).length c' (es++(AA r n).2.2)::rest):=fun r=>by
 induction r with
 | eps=>
   intro hpl H rest n a c es st hn hl;simp only [stM]at hn hl;refine Al.of_vc Tryz.func138 rfl (Tryz.call138 _) (fa BM ?_);refine ld1 (v:=.int .i64 0) Gx (by rw [(st.blk 0 rfl).cell];rfl) trivial ?_;refine Dy Tryz.underlying98 (by intro ms h;cases h) ?_;refine An (.agg #[]) [] rfl rfl ?_;intro x H1 hx hs1 hb1 ha1;have st1:StB B H0 H1 (pB 98 x []::pB tBd bb (bdL n (.slice a es.length c) sub)::pS tEd 174 a es.length c es::rest):=(st.box hx hs1 hb1 ha1).perm (AbX _ _);refine AI (cs:=[]) st1 0 rfl rfl (AbY _) rfl fun H2 st2=>?_;have st3:StB B H0 H2 (pB tBd bb (bdL n (.slice a es.length c) sub)::pS tEd 174 a es.length c es::rest):=st2.sub (AcS _ _);refine Fb st3 (by omega) fun H4 st4=>(Fb st4 (by omega) fun H5 st5=>(Gw st5 (by omega) (by omega) (by omega) fun a' c' H6 st6=>?_));(conv=>whnf);exact⟨rfl,a',c',st6⟩
 | cls s=>
   intro hpl H rest n a c es st hn hl;simp only [stM]at hn hl;refine Al.of_vc Tryz.func138 rfl (Tryz.call138 _) (fa BM ?_);refine ld1 (v:=.int .i64 0) Gx (by rw [(st.blk 0 rfl).cell];rfl) trivial ?_;refine BD Tryz.underlying98 (by intro ms h;cases h) DY (by decide) ?_;refine Dy Tryz.underlying104 (by intro ms h;cases h) ?_;refine An _ [.int .u64 0,.int .u64 0,.int .u64 0,.int .u64 0] DF rfl ?_;intro x H1 hx hs1 hb1 ha1;have st1:StB B H0 H1 (pB 104 x [.int .u64 0,.int .u64 0,.int .u64 0,.int .u64 0]::pB tBd bb (bdL n (.slice a es.length c) sub)::pS tEd 174 a es.length c es::rest):=(st.box hx hs1 hb1 ha1).perm (AbX _ _);refine AI (cs:=Ac s) st1 0 rfl rfl (AbY _) rfl fun H2 st2=>?_;rw [Ax (show(Ac s).length=4 from rfl)]at st2;refine fa Td (ldN (cs:=Ac s) AP ((st2.blk 0 rfl).cells fun j v hv=>by simpa using hv) trivial ?_);have st3:StB B H0 H2 (pB tBd bb (bdL n (.slice a es.length c) sub)::pS tEd 174 a es.length c es::rest):=st2.sub (AcS _ _);refine X2 st3 (by omega) (by omega) fun a' c' H4 st4=>?_;(conv=>whnf);exact⟨rfl,a',c',st4⟩
 | cat r1 r2 ih1 ih2=>
   intro hpl H rest n a c es st hn hl;simp only [ReM.plain,AbK]at hpl;simp only [stM]at hn hl;have l1:=D1 r1 hpl.1 n;have l2:=D1 r2 hpl.2 (n+stM r1);have i1:=Cs r1 hpl.1 n;have i2:=Cs r2 hpl.2 (n+stM r1);refine Al.of_vc Tryz.func138 rfl (Tryz.call138 _) (fa BM ?_);refine ld1 (v:=.int .i64 0) Gx (by rw [(st.blk 0 rfl).cell];rfl) trivial ?_;refine BD Tryz.underlying98 (by intro ms h;cases h) DY (by decide) ?_;refine BD Tryz.underlying104 (by intro ms h;cases h) DF (by decide) ?_;refine Dy Tryz.underlying105 (by intro ms h;cases h) ?_;refine An _ [.nilIface,.nilIface] EW rfl ?_;intro x H1 hx hs1 hb1 ha1;have st1:StB B H0 H1 (pB 105 x [.nilIface,.nilIface]::pB tBd bb (bdL n (.slice a es.length c) sub)::pS tEd 174 a es.length c es::rest):=(st.box hx hs1 hb1 ha1).perm (AbX _ _);refine AI (cs:=[Ag r1,Ag r2]) st1 0 rfl rfl (AbY _) (by simp [DE]) fun H2 st2=>?_;rw [Ax (show [Ag r1,Ag r2].length=2 from rfl)]at st2;refine fa OZ ?_;refine ld1 (v:=Ag r1) D3 (by rw [(st2.blk 0 rfl).cell];rfl) trivial ?_;have st3:StB B H0 H2 (pB tBd bb (bdL n (.slice a es.length c) sub)::pS tEd 174 a es.length c es::pB 105 x [Ag r1,Ag r2]::rest):=st2.pickN 3 [1,2,0] (by decide);refine Ad.mk (ih1 hpl.1 st3 (by omega) (by omega)) ?_;rintro _ H4 ⟨rfl,a4,c4,st4⟩;refine fa L7 ?_;refine ld1 (v:=Ag r2) D3 (by rw [(st4.blk 2 rfl).cell];rfl) trivial ?_;refine Ad.mk (ih2 hpl.2 st4 (by omega) (by rw [AaS];omega)) ?_;rintro _ H5 ⟨rfl,a5,c5,st5⟩;refine Gw st5 (by omega) (by omega) (by rw [AaS,AaS];omega) fun a6 c6 H6 st6=>?_;(conv=>whnf);have e1:es++(AA r1 n).2.2++(AA r2 (n+stM r1)).2.2++[A9 (AA r1 n).2.1 (AA r2 (n+stM r1)).1]=es++(AA (.cat r1 r2) n).2.2:=by simp [AA]
   rw [e1,AdQ]at st6;exact⟨rfl,a6,c6,st6.pickN 3 [0,1] (by decide)⟩
 | alt r1 r2 ih1 ih2=>
   intro hpl H rest n a c es st hn hl;simp only [ReM.plain,AbK]at hpl;simp only [stM]at hn hl;have l1:=D1 r1 hpl.1 (n+1);have l2:=D1 r2 hpl.2 (n+1+stM r1);have i1:=Cs r1 hpl.1 (n+1);have i2:=Cs r2 hpl.2 (n+1+stM r1);refine Al.of_vc Tryz.func138 rfl (Tryz.call138 _) (fa BM ?_);refine ld1 (v:=.int .i64 0) Gx (by rw [(st.blk 0 rfl).cell];rfl) trivial ?_;refine BD Tryz.underlying98 (by intro ms h;cases h) DY (by decide) ?_;refine BD Tryz.underlying104 (by intro ms h;cases h) DF (by decide) ?_;refine BD Tryz.underlying105 (by intro ms h;cases h) EW (by decide) ?_;refine Dy Tryz.underlying305 (by intro ms h;cases h) ?_;refine An _ [.nilIface,.nilIface] Hl rfl ?_;intro x H1 hx hs1 hb1 ha1;have st1:StB B H0 H1 (pB 305 x [.nilIface,.nilIface]::pB tBd bb (bdL n (.slice a es.length c) sub)::pS tEd 174 a es.length c es::rest):=(st.box hx hs1 hb1 ha1).perm (AbX _ _);refine AI (cs:=[Ag r1,Ag r2]) st1 0 rfl rfl (AbY _) (by simp [DE]) fun H2 st2=>?_;rw [Ax (show [Ag r1,Ag r2].length=2 from rfl)]at st2;have st3:StB B H0 H2 (pB tBd bb (bdL n (.slice a es.length c) sub)::pS tEd 174 a es.length c es::pB 305 x [Ag r1,Ag r2]::rest):=st2.pickN 3 [1,2,0] (by decide);refine Fb st3 (by omega) fun H4 st4=>(fa Pd ?_);refine ld1 (v:=Ag r1) D3 (by rw [(st4.blk 2 rfl).cell];rfl) trivial ?_;refine Ad.mk (ih1 hpl.1 st4 (by omega) (by omega)) ?_;rintro _ H5 ⟨rfl,a5,c5,st5⟩;refine fa LG ?_;refine ld1 (v:=Ag r2) D3 (by rw [(st5.blk 2 rfl).cell];rfl) trivial ?_;refine Ad.mk (ih2 hpl.2 st5 (by omega) (by rw [AaS];omega)) ?_;rintro _ H6 ⟨rfl,a6,c6,st6⟩;refine Fb st6 (by omega) fun H7 st7=>?_;refine Gw st7 (by omega) (by omega) (by simp only [AaS];omega) fun a8 c8 H8 st8=>?_;refine Gw st8 (by omega) (by omega) (by simp only [AaS,AbD,AaV];omega) fun a9 c9 H9 st9=>?_;refine Gw st9 (by omega) (by omega) (by simp only [AaS,AbD,AaV];omega) fun a10 c10 H10 st10=>?_;refine Gw st10 (by omega) (by omega) (by simp only [AaS,AbD,AaV];omega) fun a11 c11 H11 st11=>?_;(conv=>whnf);have e1:es++(AA r1 (n+1)).2.2++(AA r2 (n+1+stM r1)).2.2++[A9 n (AA r1 (n+1)).1]++[A9 n (AA r2 (n+1+stM r1)).1]++[A9 (AA r1 (n+1)).2.1 (n+1+stM r1+stM r2)]++[A9 (AA r2 (n+1+stM r1)).2.1 (n+1+stM r1+stM r2)]=es++(AA (.alt r1 r2) n).2.2:=by simp [AA]
   rw [e1,show n+1+stM r1+stM r2+1=n+stM (.alt r1 r2) by simp only [stM];omega]at st11;exact⟨rfl,a11,c11,st11.pickN 3 [0,1] (by decide)⟩
 | star r1 ih1=>
   intro hpl H rest n a c es st hn hl;have hpl1:r1.plain=true:=hpl;simp only [stM]at hn hl;have l1:=D1 r1 hpl1 (n+1);have i1:=Cs r1 hpl1 (n+1);refine Al.of_vc Tryz.func138 rfl (Tryz.call138 _) (fa BM ?_);refine ld1 (v:=.int .i64 0) Gx (by rw [(st.blk 0 rfl).cell];rfl) trivial ?_;refine BD Tryz.underlying98 (by intro ms h;cases h) DY (by decide) ?_;refine BD Tryz.underlying104 (by intro ms h;cases h) DF (by decide) ?_;refine BD Tryz.underlying105 (by intro ms h;cases h) EW (by decide) ?_;refine BD Tryz.underlying305 (by intro ms h;cases h) Hl (by decide) ?_;refine Dy Tryz.underlying310 (by intro ms h;cases h) ?_;refine An _ [.nilIface] JZ rfl ?_;intro x H1 hx hs1 hb1 ha1;have st1:StB B H0 H1 (pB 310 x [.nilIface]::pB tBd bb (bdL n (.slice a es.length c) sub)::pS tEd 174 a es.length c es::rest):=(st.box hx hs1 hb1 ha1).perm (AbX _ _);refine AI (cs:=[Ag r1]) st1 0 rfl rfl (AbY _) (by simp [DE]) fun H2 st2=>?_;rw [Ax (show [Ag r1].length=1 from rfl)]at st2;have st3:StB B H0 H2 (pB tBd bb (bdL n (.slice a es.length c) sub)::pS tEd 174 a es.length c es::pB 310 x [Ag r1]::rest):=st2.pickN 3 [1,2,0] (by decide);refine Fb st3 (by omega) fun H4 st4=>(fa Pe ?_);refine ld1 (v:=Ag r1) D3 (by rw [(st4.blk 2 rfl).cell];rfl) trivial ?_;refine Ad.mk (ih1 hpl1 st4 (by omega) (by omega)) ?_;rintro _ H5 ⟨rfl,a5,c5,st5⟩;refine Fb st5 (by omega) fun H7 st7=>?_;refine Gw st7 (by omega) (by omega) (by simp only [AaS];omega) fun a8 c8 H8 st8=>?_;refine Gw st8 (by omega) (by omega) (by simp only [AaS,AbD,AaV];omega) fun a9 c9 H9 st9=>?_;refine Gw st9 (by omega) (by omega) (by simp only [AaS,AbD,AaV];omega) fun a10 c10 H10 st10=>?_;refine Gw st10 (by omega) (by omega) (by simp only [AaS,AbD,AaV];omega) fun a11 c11 H11 st11=>?_;(conv=>whnf);have e1:es++(AA r1 (n+1)).2.2++[A9 n (AA r1 (n+1)).1]++[A9 n (n+1+stM r1)]++[A9 (AA r1 (n+1)).2.1 (AA r1 (n+1)).1]++[A9 (AA r1 (n+1)).2.1 (n+1+stM r1)]=es++(AA (.star r1) n).2.2:=by simp [AA]
   rw [e1,show n+1+stM r1+1=n+stM (.star r1) by simp only [stM];omega]at st11;exact⟨rfl,a11,c11,st11.pickN 3 [0,1] (by decide)⟩
 | and_=>intro h;cases h
 | minus=>intro h;cases h
end Go.Proofs.YtfbghcpdinlmcaaGreatDoor
namespace Go.VC
section
variable{α:Type}{T:Ty α}{e:TypeId}{a:Option Addr}{n cap:Nat}{xs ys:List α}{B S:Nat→Prop}{H0 H:Aa}{ps:List Pc}
end
end Go.VC
namespace Go.Proofs.YtfbghcpdinlmcaaGreatDoor
open Go.VC
structure GthR(a:NfM)(L out:List Int):Prop where
 nd:out.Nodup
 sub:∀q∈L,q∈out
 cl:∀q∈out,clS a (·∈L) q
def NZ:ReM→TypeId
 | .eps=>98
 | .cls _=>104
 | .cat _ _=>105
 | .alt _ _=>305
 | .star _=>310
 | .and_ _ _=>64
 | .minus _ _=>65
def CU:ReM→Value
 | .eps=>.agg #[]
 | .cls s=>Bt s
 | .cat a b=>.agg #[Ag a,Ag b]
 | .alt a b=>.agg #[Ag a,Ag b]
 | .star a=>.agg #[Ag a]
 | .and_ a b=>.agg #[Ag a,Ag b]
 | .minus a b=>.agg #[Ag a,Ag b]
theorem C2(r:ReM):Ag r= .iface (NZ r) (CU r):=by cases r<;>rfl
def DW:ReM→FuncId
 | .eps=>271
 | .cls _=>273
 | .cat _ _=>275
 | .alt _ _=>278
 | .star _=>280
 | .and_ _ _=>266
 | .minus _ _=>269
theorem Dg(r:ReM)(w:World):(callMethod (.iface (NZ r) (CU r)) "Size" #[]).run Tryz.prog w= .ok (.enter (DW r) #[CU r]) w:=by
 cases r with
 | eps=>exact Se _ w
 | cls=>exact Sd _ w
 | cat=>exact Sb _ w
 | alt=>exact RZ _ w
 | star=>exact QB _ w
 | and_=>exact Sa _ w
 | minus=>exact Pt _ w
theorem Hv(r:ReM)(H:Aa):BX Tryz.prog 267 #[Ag r] H (.iface (NZ r) (CU r)):=by
 rw [C2];refine Al.of_vc Tryz.func267 rfl (Tryz.call267 _) (ifeq Tryz.underlying28 ?_);(conv=>whnf);exact⟨rfl,Agr.refl _ _⟩
theorem KN:∀(r:ReM),r.nodes≤1000000000→∀(H:Aa),BX Tryz.prog (DW r) #[CU r] H (.int .i64 (r.nodes:Int)):=fun r=>by
 induction r with
 | eps=>
   intro hn H;refine Al.of_vc Tryz.func271 rfl (Tryz.call271 _) (Cq [] rfl ?_);intro x H1 hx hs1 hb1 ha1;have st1:=(St.nil H).box hx hs1 hb1 ha1;(conv=>whnf);exact⟨rfl,st1.old⟩
 | cls s=>
   intro hn H;refine Al.of_vc Tryz.func273 rfl (Tryz.call273 _) (Cq (Ac s) rfl ?_);intro x H1 hx hs1 hb1 ha1;have st1:=(St.nil H).box hx hs1 hb1 ha1;(conv=>whnf);exact⟨rfl,st1.old⟩
 | cat a b iha ihb=>
   intro hn H;simp only [ReM.nodes]at hn;refine Al.of_vc Tryz.func275 rfl (Tryz.call275 _) (Cq [Ag a,Ag b] rfl ?_);intro x H1 hx hs1 hb1 ha1;have st1:=(St.nil H).box hx hs1 hb1 ha1;have hxl:=hb1.lt;refine Ar.heldZ (Old H1) [] (sq [0,1,5,6] (.f 2 (.f 3 (sq [4] (.f 7 (.f 8 (sq [9] (.f 10 .e)))))))) rfl (by kernel_rfl) (fa OZ ?_);refine ld1 (v:=Ag a) D3 (by rw [hb1.cell];rfl) hxl ?_;refine fa L7 ?_;refine ld1 (v:=Ag b) D3 (by rw [hb1.cell];rfl) hxl ?_;refine Am (Hv a H1) fun H2 ha2=>(⟨ha2,?_⟩);refine F1.mk (DW a) #[CU a] (Dg a) (iha (by omega) H2) ?_;rintro _ H3 ⟨rfl,ha3⟩;have h13:=ha2.trans (ha3.mono fun k hk=>Aj ha2 hk);refine⟨h13,?_⟩;(conv=>whnf);rw [w64 (x:=1+(a.nodes:Int)) (by omega) (by omega)];refine Am (Hv b H3) fun H4 ha4=>?_;have h14:=h13.trans (ha4.mono fun k hk=>Aj h13 hk);refine⟨h14,?_⟩;refine F1.mk (DW b) #[CU b] (Dg b) (ihb (by omega) H4) ?_;rintro _ H5 ⟨rfl,ha5⟩;have h15:=h14.trans (ha5.mono fun k hk=>Aj h14 hk);refine⟨h15,?_⟩;(conv=>whnf);rw [w64 (x:=1+(a.nodes:Int)+(b.nodes:Int)) (by omega) (by omega)];refine⟨h15,?_⟩;(conv=>whnf);exact⟨by simp only [ReM.nodes];simp,st1.old.trans (h15.mono fun k hk=>st1.up hk)⟩
 | alt a b iha ihb=>
   intro hn H;simp only [ReM.nodes]at hn;refine Al.of_vc Tryz.func278 rfl (Tryz.call278 _) (Cq [Ag a,Ag b] rfl ?_);intro x H1 hx hs1 hb1 ha1;have st1:=(St.nil H).box hx hs1 hb1 ha1;have hxl:=hb1.lt;refine Ar.heldZ (Old H1) [] (sq [0,1,5,6] (.f 2 (.f 3 (sq [4] (.f 7 (.f 8 (sq [9] (.f 10 .e)))))))) rfl (by kernel_rfl) (fa Pd ?_);refine ld1 (v:=Ag a) D3 (by rw [hb1.cell];rfl) hxl ?_;refine fa LG ?_;refine ld1 (v:=Ag b) D3 (by rw [hb1.cell];rfl) hxl ?_;refine Am (Hv a H1) fun H2 ha2=>(⟨ha2,?_⟩);refine F1.mk (DW a) #[CU a] (Dg a) (iha (by omega) H2) ?_;rintro _ H3 ⟨rfl,ha3⟩;have h13:=ha2.trans (ha3.mono fun k hk=>Aj ha2 hk);refine⟨h13,?_⟩;(conv=>whnf);rw [w64 (x:=1+(a.nodes:Int)) (by omega) (by omega)];refine Am (Hv b H3) fun H4 ha4=>?_;have h14:=h13.trans (ha4.mono fun k hk=>Aj h13 hk);refine⟨h14,?_⟩;refine F1.mk (DW b) #[CU b] (Dg b) (ihb (by omega) H4) ?_;rintro _ H5 ⟨rfl,ha5⟩;have h15:=h14.trans (ha5.mono fun k hk=>Aj h14 hk);refine⟨h15,?_⟩;(conv=>whnf);rw [w64 (x:=1+(a.nodes:Int)+(b.nodes:Int)) (by omega) (by omega)];refine⟨h15,?_⟩;(conv=>whnf);exact⟨by simp only [ReM.nodes];simp,st1.old.trans (h15.mono fun k hk=>st1.up hk)⟩
 | star a iha=>
   intro hn H;simp only [ReM.nodes]at hn;refine Al.of_vc Tryz.func280 rfl (Tryz.call280 _) (Cq [Ag a] rfl ?_);intro x H1 hx hs1 hb1 ha1;have st1:=(St.nil H).box hx hs1 hb1 ha1;refine fa Pe ?_;refine ld1 (v:=Ag a) D3 (by rw [hb1.cell];rfl) trivial ?_;refine Am (Hv a H1) fun H2 ha2=>?_;have st2:=st1.call ha2;refine F1.mk (DW a) #[CU a] (Dg a) (iha (by omega) H2) ?_;rintro _ H3 ⟨rfl,ha3⟩;have st3:=st2.call ha3;(conv=>whnf);rw [w64 (x:=1+(a.nodes:Int)) (by omega) (by omega)];(conv=>whnf);exact⟨by simp only [ReM.nodes];simp,st3.old⟩
 | and_ a b iha ihb=>
   intro hn H;simp only [ReM.nodes]at hn;refine Al.of_vc Tryz.func266 rfl (Tryz.call266 _) (Cq [Ag a,Ag b] rfl ?_);intro x H1 hx hs1 hb1 ha1;have st1:=(St.nil H).box hx hs1 hb1 ha1;have hxl:=hb1.lt;refine Ar.heldZ (Old H1) [] (sq [0,1,5,6] (.f 2 (.f 3 (sq [4] (.f 7 (.f 8 (sq [9] (.f 10 .e)))))))) rfl (by kernel_rfl) (fa VL ?_);refine ld1 (v:=Ag a) D3 (by rw [hb1.cell];rfl) hxl ?_;refine fa VM ?_;refine ld1 (v:=Ag b) D3 (by rw [hb1.cell];rfl) hxl ?_;refine Am (Hv a H1) fun H2 ha2=>(⟨ha2,?_⟩);refine F1.mk (DW a) #[CU a] (Dg a) (iha (by omega) H2) ?_;rintro _ H3 ⟨rfl,ha3⟩;have h13:=ha2.trans (ha3.mono fun k hk=>Aj ha2 hk);refine⟨h13,?_⟩;(conv=>whnf);rw [w64 (x:=1+(a.nodes:Int)) (by omega) (by omega)];refine Am (Hv b H3) fun H4 ha4=>?_;have h14:=h13.trans (ha4.mono fun k hk=>Aj h13 hk);refine⟨h14,?_⟩;refine F1.mk (DW b) #[CU b] (Dg b) (ihb (by omega) H4) ?_;rintro _ H5 ⟨rfl,ha5⟩;have h15:=h14.trans (ha5.mono fun k hk=>Aj h14 hk);refine⟨h15,?_⟩;(conv=>whnf);rw [w64 (x:=1+(a.nodes:Int)+(b.nodes:Int)) (by omega) (by omega)];refine⟨h15,?_⟩;(conv=>whnf);exact⟨by simp only [ReM.nodes];simp,st1.old.trans (h15.mono fun k hk=>st1.up hk)⟩
 | minus a b iha ihb=>
   intro hn H;simp only [ReM.nodes]at hn;refine Al.of_vc Tryz.func269 rfl (Tryz.call269 _) (Cq [Ag a,Ag b] rfl ?_);intro x H1 hx hs1 hb1 ha1;have st1:=(St.nil H).box hx hs1 hb1 ha1;have hxl:=hb1.lt;refine Ar.heldZ (Old H1) [] (sq [0,1,5,6] (.f 2 (.f 3 (sq [4] (.f 7 (.f 8 (sq [9] (.f 10 .e)))))))) rfl (by kernel_rfl) (fa VN ?_);refine ld1 (v:=Ag a) D3 (by rw [hb1.cell];rfl) hxl ?_;refine fa VO ?_;refine ld1 (v:=Ag b) D3 (by rw [hb1.cell];rfl) hxl ?_;refine Am (Hv a H1) fun H2 ha2=>(⟨ha2,?_⟩);refine F1.mk (DW a) #[CU a] (Dg a) (iha (by omega) H2) ?_;rintro _ H3 ⟨rfl,ha3⟩;have h13:=ha2.trans (ha3.mono fun k hk=>Aj ha2 hk);refine⟨h13,?_⟩;(conv=>whnf);rw [w64 (x:=1+(a.nodes:Int)) (by omega) (by omega)];refine Am (Hv b H3) fun H4 ha4=>?_;have h14:=h13.trans (ha4.mono fun k hk=>Aj h13 hk);refine⟨h14,?_⟩;refine F1.mk (DW b) #[CU b] (Dg b) (ihb (by omega) H4) ?_;rintro _ H5 ⟨rfl,ha5⟩;have h15:=h14.trans (ha5.mono fun k hk=>Aj h14 hk);refine⟨h15,?_⟩;(conv=>whnf);rw [w64 (x:=1+(a.nodes:Int)+(b.nodes:Int)) (by omega) (by omega)];refine⟨h15,?_⟩;(conv=>whnf);exact⟨by simp only [ReM.nodes];simp,st1.old.trans (h15.mono fun k hk=>st1.up hk)⟩
theorem EP:∀r:ReM,stM r≤2*r.nodes
 | .eps=>by simp [stM,ReM.nodes]
 | .cls _=>by simp [stM,ReM.nodes]
 | .cat a b=>by have:=EP a;have:=EP b;simp only [stM,ReM.nodes];omega
 | .alt a b=>by have:=EP a;have:=EP b;simp only [stM,ReM.nodes];omega
 | .star a=>by have:=EP a;simp only [stM,ReM.nodes];omega
 | .and_ a b=>by simp [stM]
 | .minus a b=>by simp [stM]
def Bf(r:ReM):NfM:=⟨(stM r:Int),((AA r 0).1:Int),((AA r 0).2.1:Int),(AA r 0).2.2⟩
def AaP:Value:=.agg #[.int .i64 0,.int .i64 0,.int .i64 0,.slice none 0 0]
def BldR(H H':Aa)(r:ReM)(v:Value):Prop:=Agr (Old H) H H'∧if 2000<r.nodes then v= .tuple #[AaP,.int .i64 24]else
 ∃ea ec,v= .tuple #[.agg (nfL (Bf r) (.slice ea (Bf r).edges.length ec)).toArray,.int .i64 0]∧SlO tEd none_ H' H.size 174 (.slice ea (Bf r).edges.length ec) (Bf r).edges
theorem Z7:(Tryz.prog.info? 246).bind (·.zero)=some (.agg #[.int .i64 0,.int .i64 0,.int .i64 0,.slice none 0 0,.nilFunc,.int .i64 0]):=rfl
def GC(b:Nat):BitVec 256:=ofB 0#256 [b]
def AV:List Nat→ReM
 | []=>.eps
 | b::l=>l.foldl (fun r c=>.cat r (.cls (GC c))) (.cls (GC b))
theorem Nn{l:List Nat}(h:l≠[])(c:Nat):AV (l++[c])= .cat (AV l) (.cls (GC c)):=by
 cases l with
 | nil=>exact absurd rfl h
 | cons b l=>simp [AV,AcR]
theorem Lo(l:List Nat):(AV l).plain=true:=by
 cases l with
 | nil=>rfl
 | cons b l=>
   unfold AV;have key:∀(l:List Nat) (r:ReM),r.plain=true→(l.foldl (fun r c=>ReM.cat r (.cls (GC c))) r).plain=true:=by
    intro l
    induction l with
    | nil=>exact fun r h=>h
    | cons c l ih=>exact fun r h=>ih _ (by simp [ReM.plain,h])
   exact key l _ rfl
def TK(l:List Nat):Value:=match l with | []=>.nilIface | _=>Ag (AV l)
theorem XI{s:ByteArray}{i:Nat}{c:UInt8}(h:s.data[i]? =some c):byN (s.extract i (i+1))=[c.toNat]:=by
 have hi:=(Array.getElem?_eq_some_iff.1 h).1;unfold byN;rw [ByteArray.data_extract,Array.toList_extract,List.extract_eq_take_drop];have:(s.data.toList.drop i).take (i+1 - i)=[c]:=by
  rw [show i+1 - i=1 by omega];have h2:s.data.toList[i]? =some c:=by rw [Array.getElem?_toList];exact h
  obtain⟨h3,h4⟩:=AaT.1 h2;rw [List.drop_eq_getElem_cons h3,h4];rfl
 rw [this];rfl
theorem WS(s:ByteArray)(hs:s.size≤1048576)(H:Aa):BX Tryz.prog 15 #[.string s] H (Ag (AV (byN s))):=by
 refine Al.of_vc Tryz.func15 rfl (Tryz.call15 _) ?_;have hbl:=ON s;by_cases he:s.size=0
 ·have hnil:byN s=[]:=AcY (by omega);have hse:s=⟨#[]⟩:=Ro (by
   have:s.data.toList=[]:=AcY (by rw [Array.length_toList];exact he);rw [this])
  have d0:(s.toList==(⟨#[]⟩:ByteArray).toList)=true:=by rw [hse];simp
  (conv=>whnf);rw [d0];refine Aw Tryz.underlying98 rfl _ DY [] rfl ?_;(conv=>whnf);exact⟨by rw [hnil];rfl,Agr.refl _ _⟩
 ·have d0:(s.toList==(⟨#[]⟩:ByteArray).toList)=false:=by
   cases h:(s.toList==(⟨#[]⟩:ByteArray).toList)with
   | false=>rfl
   | true=>
     rw [YC]at h;rw [h]at he;exact absurd rfl he
  (conv=>whnf);rw [d0];(conv=>whnf);refine AK.mk [3,12] (fun i:Nat=>[TK ((byN s).take i),.int .i64 (i:Int)]) (fun i H2=>i≤s.size∧St H H2 []) (fun i _=>s.size - i) ?_ ?_
  ·(conv=>whnf);exact⟨0,rfl,AcN _,St.nil H⟩
  ·rintro i H2 junk ⟨hi,st2⟩;refine AN.mk (fun hz=>?_) (fun hz=>?_)<;>simp only [decide_eq_true_eq,decide_eq_false_iff_not]at hz
   ·obtain⟨c,hc⟩:=ZG (s:=s) (k:=i) (by omega);have w1:IntKind.wrap .i64 ((i:Int)+1)=((i+1:Nat):Int):=by rw [w64 (by omega) (by omega)];omega
    refine Av.run ?_;(conv=>whnf);rw [w1];refine AcD (l:=(i:Int)) (h:=((i+1:Nat):Int)) Tryz.underlying9 (by omega) (by omega) (by omega) ?_;rw [AcK,AcK];refine Am (of_p (s.extract i (i+1)) (by simp;omega) H2) fun H3 ha3=>?_;have st3:=st2.call ha3;rw [XI hc];refine Aw Tryz.underlying104 rfl _ DF (Ac (GC c.toNat)) (by unfold Ac;kernel_rfl) ?_;refine An _ [.int .u64 0,.int .u64 0,.int .u64 0,.int .u64 0] DF rfl ?_;intro x H4 hx hs4 hb4 ha4;have st4:=st3.box hx hs4 hb4 ha4;refine AI (cs:=Ac (GC c.toNat)) st4 0 rfl rfl (AbY _) rfl fun H5 st5=>?_;rw [Ax (show(Ac (GC c.toNat)).length=4 from rfl)]at st5;have htk:=Af (OM hc);have hb5:AX H5 x 0 (Ac (GC c.toNat)):=(st5.blk 0 rfl).cells fun j v hv=>by rw [AbW];exact hv
    by_cases hi0:i=0
    ·subst hi0;refine AbI Tryz.underlying28 (ldN (cs:=Ac (GC c.toNat)) YN hb5 trivial ?_);(conv=>whnf);rw [w1];refine⟨rfl,0+1,?_,⟨by omega,st5.pick [] (by decide)⟩,by omega⟩;rw [htk];rfl
    ·have hne:(byN s).take i≠[]:=fun e=>by
      have h:=congrArg List.length e;rw [Ad6,hbl,AaV]at h;omega
     have htv:TK ((byN s).take i)= .iface (NZ (AV ((byN s).take i))) (CU (AV ((byN s).take i))):=by
      rw [←C2];cases h:(byN s).take i with
      | nil=>exact absurd h hne
      | cons b l=>rfl
     have htv2:TK ((byN s).take (i+1))= .iface 105 (.agg #[.iface (NZ (AV ((byN s).take i))) (CU (AV ((byN s).take i))),.iface 104 (Bt (GC c.toNat))]):=by
      have:TK ((byN s).take (i+1))=Ag (AV ((byN s).take (i+1))):=by
       cases h:(byN s).take (i+1)with
       | nil=>
         have h9:=congrArg List.length h;rw [Ad6,hbl,AaV]at h9;omega
       | cons b l=>rfl
      rw [this,htk,Nn hne,←C2];rfl
     rw [htv];generalize NZ (AV ((byN s).take i))=NT at*;generalize CU (AV ((byN s).take i))=NP at*;refine ifeq Tryz.underlying28 (ldN (cs:=Ac (GC c.toNat)) YN hb5 trivial (Aw Tryz.underlying105 rfl _ EW [.iface NT NP,.iface 104 (Bt (GC c.toNat))] rfl ?_));(conv=>whnf);rw [w1];refine⟨rfl,i+1,?_,⟨by omega,st5.pick [] (by decide)⟩,by omega⟩;rw [htv2]
   ·obtain rfl:i=s.size:=by omega
    (conv=>whnf);rw [Ad9 (by rw [hbl];exact AbY _)];refine⟨?_,st2.old⟩;cases h:byN s with
    | nil=>rw [h]at hbl;simp at hbl;omega
    | cons b l=>rfl
theorem QK{c b:Nat}(hb:b<256):(GC c).getLsbD b=decide (b=c):=by
 unfold GC ofB;simp only [AcO,List.foldl_nil];rw [BitVec.getLsbD_or,BitVec.getLsbD_twoPow];rw [Bool.eq_iff_iff];simp;constructor
 ·rintro⟨-,h⟩;exact h.symm
 ·rintro rfl;exact⟨hb,rfl⟩
theorem Hw:∀(l:List Nat),l≠[]→stM (AV l)=2*l.length∧(AA (AV l) 0).1=0∧(AA (AV l) 0).2.1=2*l.length - 1∧
  ∀e,e∈(AA (AV l) 0).2.2↔(∃(i c:Nat),l[i]? =some c∧e=Cf (2*i) (2*i+1) (GC c))∨∃i:Nat,i+1<l.length∧e=A9 (2*i+1) (2*i+2):=fun l=>by
 induction l using Y2 with
 | h0=>exact fun h=>absurd rfl h
 | hs l c ih=>
   intro _;by_cases hl:l=[]
   ·subst hl;refine⟨rfl,rfl,rfl,fun e=>?_⟩;show e∈[Cf 0 1 (GC c)]↔_;rw [AaU];constructor
    ·rintro rfl;exact .inl ⟨0,c,rfl,rfl⟩
    ·rintro(⟨i,d,h1,rfl⟩ | ⟨i,h1,rfl⟩)
     ·have:=(AaT.1 h1).1;obtain rfl:i=0:=by simpa using this
      cases h1;rfl
     ·simp at h1
   ·obtain⟨h1,h2,h3,h4⟩:=ih hl;have hpos:0<l.length:=AcZ.2 hl;rw [Nn hl];refine⟨?_,?_,?_,fun e=>?_⟩
    ·show stM (AV l)+2=_;rw [h1,AaS,AbV];omega
    ·exact h2
    ·show 0+stM (AV l)+1=_;rw [h1,AaS,AbV];omega
    ·show e∈(AA (AV l) 0).2.2++[Cf (0+stM (AV l)) (0+stM (AV l)+1) (GC c)]++[A9 (AA (AV l) 0).2.1 (0+stM (AV l))]↔_;rw [AbM,AbM,AaU,AaU,h4,h1,h3,AbW];constructor
     ·rintro(((⟨i,d,k1,rfl⟩ | ⟨i,k1,rfl⟩) | rfl) | rfl)
      ·exact .inl ⟨i,d,by rw [Ad4 (AaT.1 k1).1];exact k1,rfl⟩
      ·exact .inr ⟨i,by rw [AaS];omega,rfl⟩
      ·exact .inl ⟨l.length,c,by simp,rfl⟩
      ·refine .inr ⟨l.length - 1,by rw [AaS,AbV];omega,?_⟩;rw [show 2*(l.length - 1)+1=2*l.length - 1 by omega,show 2*(l.length - 1)+2=2*l.length by omega]
     ·rintro(⟨i,d,k1,rfl⟩ | ⟨i,k1,rfl⟩)
      ·by_cases hi:i<l.length
       ·rw [Ad4 hi]at k1;exact .inl (.inl (.inl ⟨i,d,k1,rfl⟩))
       ·have:=(AaT.1 k1).1;rw [AaS,AbV]at this;obtain rfl:i=l.length:=by omega
        simp at k1;subst k1;exact .inl (.inr rfl)
      ·rw [AaS,AbV]at k1;by_cases hi:i+1<l.length
       ·exact .inl (.inl (.inr ⟨i,hi,rfl⟩))
       ·obtain rfl:i=l.length - 1:=by omega
        refine .inr ?_;rw [show 2*(l.length - 1)+1=2*l.length - 1 by omega,show 2*(l.length - 1)+2=2*l.length by omega]
def txS(n i:Nat):PS:=fun q=>if n=0 then q=0∨q=1 else(0<i∧q=2*(i:Int) - 1)∨(i<n∧q=2*(i:Int))
noncomputable def txL(n i:Nat):List Int:=E9 (txS n i)
theorem YH{n i:Nat}(hn:n≤30000)(hi:i≤n):∀q,txS n i q→0≤q∧q<65536:=fun q h=>by
 unfold txS at h;split at h
 ·omega
 ·omega
theorem Hx{n i:Nat}(hn:n≤30000)(hi:i≤n)(q:Int):q∈txL n i↔txS n i q:=E0 (YH hn hi) q
theorem AaH{n i j:Nat}(hn:n≤30000)(hi:i<j)(hj:j≤n):txL n i≠txL n j:=fun e=>by
 have h1:(2*(i:Int))∈txL n i:=(Hx hn (by omega) _).2 (by unfold txS;rw [if_neg (by omega)];exact .inr ⟨by omega,rfl⟩);rw [e,Hx hn hj]at h1;unfold txS at h1;rw [if_neg (by omega)]at h1;omega
theorem YG{n i:Nat}(hn:n≤30000)(hi:i≤n):txL n i≠[]:=fun e=>by
 have h1:∃q,q∈txL n i:=by
  by_cases h0:n=0
  ·exact⟨0,(Hx hn hi _).2 (by unfold txS;rw [if_pos h0];exact .inl rfl)⟩
  ·by_cases h:i<n
   ·exact⟨2*(i:Int),(Hx hn hi _).2 (by unfold txS;rw [if_neg h0];exact .inr ⟨h,rfl⟩)⟩
   ·exact⟨2*(i:Int) - 1,(Hx hn hi _).2 (by unfold txS;rw [if_neg h0];exact .inl ⟨by omega,rfl⟩)⟩
 obtain⟨q,hq⟩:=h1;rw [e]at hq;cases hq
section
variable{l:List Nat}
theorem No:Bf (AV [])=⟨2,0,1,[A9 0 1]⟩:=rfl
theorem YE(hl:l≠[]):(Bf (AV l)).st=2*(l.length:Int):=by
 show((stM (AV l):Nat):Int)=_;rw [(Hw l hl).1];omega
theorem Iv(hn:l.length≤30000){q:Int}:(Bf (AV l)).has q=true↔0≤q∧q<if l=[]then 2 else 2*(l.length:Int):=by
 rw [NfM.has_iff];by_cases hl:l=[]
 ·subst hl;rw [No];simp
 ·rw [YE hl,if_neg hl];constructor
  ·rintro⟨h1,h2,-⟩;exact⟨h1,h2⟩
  ·rintro⟨h1,h2⟩;exact⟨h1,h2,by omega⟩
theorem O2(hl:l≠[])(e:EdM):e∈(Bf (AV l)).edges↔(∃(i c:Nat),l[i]? =some c∧e=Cf (2*i) (2*i+1) (GC c))∨∃i:Nat,i+1<l.length∧e=A9 (2*i+1) (2*i+2):=(Hw l hl).2.2.2 e
theorem WO(hn:l.length≤30000)(q:Int):JI (Bf (AV l)) q↔txS l.length 0 q:=by
 by_cases hl:l=[]
 ·subst hl;unfold txS;rw [if_pos (show([]:List Nat).length=0 from rfl)];constructor
  ·refine Do (Y:=fun q=>q=0∨q=1) (fun q h=>.inl h.1) (fun e he hs ht h=>?_) q;rw [No,AaU]at he;subst he;exact .inr rfl
  ·have h0:JI (Bf (AV [])) 0:=Mq ⟨rfl,(Iv (by simp)).2 (by decide)⟩;rintro(rfl | rfl)
   ·exact h0
   ·exact HP _ _ (A9 0 1) (AaU.2 rfl) rfl ((Iv (by simp)).2 (by decide)) h0
 ·have hpos:0<l.length:=AcZ.2 hl;have h0:(Bf (AV l)).start=0:=by
   show(((AA (AV l) 0).1:Nat):Int)=0;rw [(Hw l hl).2.1];rfl
  unfold txS;rw [if_neg (by omega)];constructor
  ·intro h;refine .inr ⟨hpos,?_⟩;refine Do (Y:=fun q=>q=2*((0:Nat):Int)) (fun q h=>by rw [h.1,h0];rfl) (fun e he hs ht h=>?_) q h;rcases(O2 hl e).1 he with⟨i,c,-,rfl⟩ | ⟨i,-,rfl⟩
   ·cases hs
   ·have h:((2*i+1:Nat):Int)=2*((0:Nat):Int):=h;omega
  ·rintro(⟨h,-⟩ | ⟨-,rfl⟩)
   ·omega
   ·exact Mq ⟨by rw [h0];rfl,by rw [h0];exact(Iv hn).2 ⟨Ad8 _,by rw [if_neg hl];omega⟩⟩
theorem YD(hn:l.length≤30000)(hb8:∀c∈l,c<256){i b:Nat}(hi:i≤l.length)(hb:b<256)(q:Int):goS (Bf (AV l)) (txS l.length i) b q↔l[i]? =some b∧txS l.length (i+1) q:=by
 by_cases hl:l=[]
 ·subst hl;simp only [List.getElem?_nil,reduceCtorEq,false_and,iff_false];intro h;refine Do (Y:=fun _=>False) (fun q h=>?_) (fun e he hs ht h=>h) q h;obtain⟨e,he,hs,-⟩:=h;rw [No,AaU]at he;subst he;cases hs
 ·have hpos:0<l.length:=AcZ.2 hl;have hle:=O2 hl;constructor
  ·intro h;refine Do (Y:=fun q=>l[i]? =some b∧txS l.length (i+1) q) (fun q h=>?_) (fun e he hs ht h=>?_) q h
   ·obtain⟨e,he,hs,hbit,hX,hh,rfl⟩:=h;rcases(hle e).1 he with⟨j,c,hj,rfl⟩ | ⟨j,-,rfl⟩
    ·have hbit:(GC c).getLsbD b=true:=hbit;rw [QK hb,decide_eq_true_eq]at hbit;subst hbit;unfold txS at hX;rw [if_neg (by omega)]at hX;have hX:(0<i∧((2*j:Nat):Int)=2*(i:Int) - 1)∨(i<l.length∧((2*j:Nat):Int)=2*(i:Int)):=hX;obtain rfl:j=i:=by omega
     refine⟨hj,?_⟩;unfold txS;rw [if_neg (by omega)];refine .inl ⟨by omega,?_⟩;show((2*j+1:Nat):Int)=2*((j+1:Nat):Int) - 1;omega
    ·cases hs
   ·obtain⟨h1,h2⟩:=h;refine⟨h1,?_⟩;rcases(hle e).1 he with⟨j,c,hj,rfl⟩ | ⟨j,hj,rfl⟩
    ·cases hs
    ·unfold txS at h2 ⊢;rw [if_neg (by omega)]at h2 ⊢;have h2:(0<i+1∧((2*j+1:Nat):Int)=2*((i+1:Nat):Int) - 1)∨(i+1<l.length∧((2*j+1:Nat):Int)=2*((i+1:Nat):Int)):=h2;obtain rfl:j=i:=by omega
     refine .inr ⟨hj,?_⟩;show((2*j+2:Nat):Int)=2*((j+1:Nat):Int);omega
  ·rintro⟨h1,h2⟩;have hil:=(AaT.1 h1).1;have hto:(Bf (AV l)).has (((2*i+1:Nat):Int))=true:=(Iv hn).2 ⟨by omega,by rw [if_neg hl];omega⟩;have hbase:goS (Bf (AV l)) (txS l.length i) b (((2*i+1:Nat):Int)):=Mq ⟨Cf (2*i) (2*i+1) (GC b),(hle _).2 (.inl ⟨i,b,h1,rfl⟩),rfl,by
    show(GC b).getLsbD b=true;rw [QK hb];simp,by
    show txS l.length i (((2*i:Nat):Int));unfold txS;rw [if_neg (by omega)];exact .inr ⟨hil,by omega⟩,hto,rfl⟩
   unfold txS at h2;rw [if_neg (by omega)]at h2;rcases h2 with⟨-,h2⟩ | ⟨h3,h2⟩
   ·rw [h2,show 2*((i+1:Nat):Int) - 1=((2*i+1:Nat):Int) by omega];exact hbase
   ·rw [h2,show 2*((i+1:Nat):Int)=((2*i+2:Nat):Int) by omega];exact HP _ _ (A9 (2*i+1) (2*i+2)) ((hle _).2 (.inr ⟨i,h3,rfl⟩)) rfl ((Iv hn).2 ⟨by
     show(0:Int)≤((2*i+2:Nat):Int);omega,by
     show((2*i+2:Nat):Int)<_;rw [if_neg hl];omega⟩) hbase
theorem KQ(hn:l.length≤30000):F3 (Bf (AV l))=txL l.length 0:=by
 show E9 _=E9 _;rw [show JI (Bf (AV l))=txS l.length 0 from funext fun q=>propext (WO hn q)]
theorem IG(hn:l.length≤30000)(hb8:∀c∈l,c<256){i b:Nat}(hi:i≤l.length)(hb:b<256):AY (Bf (AV l)) (txL l.length i) b=if l[i]? =some b then txL l.length (i+1)else []:=by
 unfold AY;have e:(fun q=>q∈txL l.length i)=txS l.length i:=funext fun q=>propext (Hx hn hi q);rw [e];have e2:goS (Bf (AV l)) (txS l.length i) b=fun q=>l[i]? =some b∧txS l.length (i+1) q:=funext fun q=>propext (YD hn hb8 hi hb q);rw [e2];split
 ·rename_i h;unfold txL
  congr 1
  funext q;exact propext ⟨fun h=>h.2,fun h'=>⟨h,h'⟩⟩
 ·rename_i h;unfold E9;rw [List.filter_eq_nil_iff];intro q _;simp [h]
theorem Wg(a:NfM)(b:Nat):AY a [] b=[]:=by
 have h:∀q,goS a (fun q=>q∈([]:List Int)) b q→False:=Do (Y:=fun _=>False) (fun q ⟨e,_,_,_,hx,_⟩=>by cases hx) fun e _ _ _ h=>h;rw [List.eq_nil_iff_forall_not_mem];intro q hq;exact h q ((E0 (Ey (JT a _ b)) q).1 hq)
end
theorem IA{K:Type} [DecidableEq K]:∀{L M:List K},L.Nodup→(∀x∈L,x∈M)→L.length≤M.length
 | [],M,_,_=>AcN _
 | x::L,M,hn,h=>by
   have h1:=AdO.1 hn;have h2:=IA (M:=M.erase x) h1.2 fun y hy=>(List.mem_erase_of_ne fun e:y=x=>h1.1 (by rw [←e];exact hy)).2 (h y (by simp [hy]));have h3:=h x (by simp);have h4:=List.length_erase_of_mem h3;have h5:=List.length_pos_of_mem h3;rw [AbD];omega
noncomputable def Gs(n:Nat):List (List Int):=[]::(Ac3 (n+1)).map (txL n)
theorem O6(n:Nat):(Gs n).length=n+2:=by simp [Gs]
theorem WU{n:Nat}(hn:n≤30000):(Gs n).Nodup:=by
 unfold Gs;refine AdO.2 ⟨fun h=>?_,?_⟩
 ·obtain⟨i,hi,e⟩:=AcP.1 h;have:=AcM.1 hi;exact YG hn (by omega) e
 ·unfold List.Nodup;rw [AdI];refine Ac5.2 fun i j hi hj hij=>?_;rw [Ad1]at hi hj;rw [AdC,AdC];exact AaH hn hij (by omega)
theorem Rp{n i:Nat}(hi:i≤n):txL n i∈Gs n:=AcL _ (AcP.2 ⟨i,AcM.2 (by omega),rfl⟩)
section
variable{l:List Nat}
theorem S7(hn:l.length≤30000)(hb8:∀c∈l,c<256){x:List Int}(hx:x∈Gs l.length){b:Nat}(hb:b<256):AY (Bf (AV l)) x b∈Gs l.length:=by
 rcases Ac4.1 hx with rfl | hx
 ·rw [Wg];exact AdD
 ·obtain⟨i,hi,rfl⟩:=AcP.1 hx;have hi:=AcM.1 hi;rw [IG hn hb8 (by omega) hb];split
  ·rename_i h;have:=(AaT.1 h).1;exact Rp (by omega)
  ·exact AdD
end
inductive EZ(R:Nat→Nat→Prop)(i:Nat):Nat→Prop
 | refl:EZ R i i
 | step {k j:Nat}:EZ R i k→R k j→EZ R i j
def Mt(l:List Nat):ReM→Nat→Nat→Prop
 | .eps,i,j=>i=j
 | .cls s,i,j=>∃c,l[i]? =some c∧s.getLsbD c=true∧j=i+1
 | .cat a b,i,j=>∃k,Mt l a i k∧Mt l b k j
 | .alt a b,i,j=>Mt l a i j∨Mt l b i j
 | .star a,i,j=>EZ (Mt l a) i j
 | .and_ a b,i,j=>Mt l a i j∧Mt l b i j
 | .minus a b,i,j=>Mt l a i j∧¬Mt l b i j
inductive Pth(es:List EdM)(l:List Nat)(p:Int)(i:Nat):Int→Nat→Prop
 | refl:Pth es l p i p i
 | sil {q:Int} {j:Nat} {e:EdM}:Pth es l p i q j→e∈es→e.sil=true→e.fr=q→Pth es l p i e.to j
 | eat {q:Int} {j c:Nat} {e:EdM}:Pth es l p i q j→e∈es→e.sil=false→e.fr=q→l[j]? =some c→e.set.getLsbD c=true→Pth es l p i e.to (j+1)
theorem Pth.mono{es es':List EdM}{l:List Nat}{p q:Int}{i j:Nat}(h:Pth es l p i q j)(k:∀e∈es,e∈es'):Pth es' l p i q j:=by
 induction h with
 | refl=>exact .refl
 | sil _ h1 h2 h3 ih=>exact .sil ih (k _ h1) h2 h3
 | eat _ h1 h2 h3 h4 h5 ih=>exact .eat ih (k _ h1) h2 h3 h4 h5
theorem Pth.trans{es:List EdM}{l:List Nat}{p q r:Int}{i j k:Nat}(h:Pth es l p i q j)(g:Pth es l q j r k):Pth es l p i r k:=by
 induction g with
 | refl=>exact h
 | sil _ h1 h2 h3 ih=>exact .sil ih h1 h2 h3
 | eat _ h1 h2 h3 h4 h5 ih=>exact .eat ih h1 h2 h3 h4 h5
theorem Pth.one{es:List EdM}{l:List Nat}{p q:Nat}{i:Nat}(h:A9 p q∈es):Pth es l (p:Int) i (q:Int) i:=.sil .refl h rfl rfl
theorem CF:∀(r:ReM),r.plain=true→∀n,∀e∈(AA r n).2.2,(n:Int)≤e.fr∧e.fr<((n+stM r:Nat):Int)∧(n:Int)≤e.to∧e.to<((n+stM r:Nat):Int)
 | .eps,_,n,e,he=>by
   rcases AaU.1 he with rfl;simp only [A9,stM];omega
 | .cls s,_,n,e,he=>by
   rcases AaU.1 he with rfl;simp only [Cf,stM];omega
 | .cat a b,h,n,e,he=>by
   simp only [ReM.plain,AbK]at h;have i1:=Cs a h.1 n;have i2:=Cs b h.2 (n+stM a);simp only [AA,AbM,AaU]at he;simp only [stM];rcases he with(he | he) | rfl
   ·have:=CF a h.1 n e he;omega
   ·have:=CF b h.2 (n+stM a) e he;omega
   ·simp only [A9];omega
 | .alt a b,h,n,e,he=>by
   simp only [ReM.plain,AbK]at h;have i1:=Cs a h.1 (n+1);have i2:=Cs b h.2 (n+1+stM a);simp only [AA,AbM,Ac4,AcF,or_false]at he;simp only [stM];rcases he with(he | he) | rfl | rfl | rfl | rfl
   ·have:=CF a h.1 (n+1) e he;omega
   ·have:=CF b h.2 (n+1+stM a) e he;omega
   all_goals simp only [A9];omega
 | .star a,h,n,e,he=>by
   have h1:a.plain=true:=h;have i1:=Cs a h1 (n+1);simp only [AA,AbM,Ac4,AcF,or_false]at he;simp only [stM];rcases he with he | rfl | rfl | rfl | rfl
   ·have:=CF a h1 (n+1) e he;omega
   all_goals simp only [A9];omega
 | .and_ _ _,h,_,_,_=>by cases h
 | .minus _ _,h,_,_,_=>by cases h
def InS(n m:Nat)(q:Int):Prop:=(n:Int)≤q∧q<((n+m:Nat):Int)
theorem FX(l:List Nat):∀(r:ReM),r.plain=true→∀(n i j:Nat),Pth (AA r n).2.2 l ((AA r n).1:Int) i ((AA r n).2.1:Int) j↔Mt l r i j
 | .eps,_,n,i,j=>by
   constructor
   ·intro h;have key:∀q j,Pth (AA .eps n).2.2 l (n:Int) i q j→i=j:=by
     intro q j h
     induction h with
     | refl=>rfl
     | sil _ _ _ _ ih=>exact ih
     | eat _ h1 h2=>rcases AaU.1 h1 with rfl;cases h2
    exact key _ _ h
   ·intro h;have h:i=j:=h;subst h;exact Pth.one (AaU.2 rfl)
 | .cls s,_,n,i,j=>by
   constructor
   ·intro h;have key:∀q j,Pth (AA (.cls s) n).2.2 l (n:Int) i q j→(q=(n:Int)∧j=i)∨(q=((n+1:Nat):Int)∧Mt l (.cls s) i j):=by
     intro q j h
     induction h with
     | refl=>exact .inl ⟨rfl,rfl⟩
     | sil _ h1 h2=>rcases AaU.1 h1 with rfl;cases h2
     | eat _ h1 h2 h3 h4 h5 ih=>
       rcases AaU.1 h1 with rfl;rcases ih with⟨e1,rfl⟩ | ⟨e1,-⟩
       ·exact .inr ⟨rfl,_,h4,h5,rfl⟩
       ·rw [e1]at h3;have h3:(n:Int)=((n+1:Nat):Int):=h3;omega
    rcases key _ _ h with⟨e1,-⟩ | ⟨-,e2⟩
    ·have e1:((n+1:Nat):Int)=(n:Int):=e1;omega
    ·exact e2
   ·rintro⟨c,h1,h2,rfl⟩;exact .eat (e:=Cf n (n+1) s) .refl (AaU.2 rfl) rfl rfl h1 h2
 | .cat a b,h,n,i,j=>by
   simp only [ReM.plain,AbK]at h;have i1:=Cs a h.1 n;have i2:=Cs b h.2 (n+stM a);have ta:=FX l a h.1 n;have tb:=FX l b h.2 (n+stM a);have ea:=CF a h.1 n;have eb:=CF b h.2 (n+stM a);have emem:∀e,e∈(AA (.cat a b) n).2.2↔(e∈(AA a n).2.2∨e∈(AA b (n+stM a)).2.2∨e=A9 (AA a n).2.1 (AA b (n+stM a)).1):=fun e=>by
    simp only [AA,AbM,AaU,or_assoc]
   constructor
   ·intro hp;have key:∀q j,Pth (AA (.cat a b) n).2.2 l ((AA a n).1:Int) i q j→
      (InS n (stM a) q∧Pth (AA a n).2.2 l ((AA a n).1:Int) i q j)∨(InS (n+stM a) (stM b) q∧∃k,Mt l a i k∧Pth (AA b (n+stM a)).2.2 l ((AA b (n+stM a)).1:Int) k q j):=by
     intro q j hp
     induction hp with
     | refl=>exact .inl ⟨by unfold InS;omega,.refl⟩
     | @sil q j e _ h1 h2 h3 ih=>
       rcases(emem e).1 h1 with h1 | h1 | rfl
       ·have e1:=ea e h1;rcases ih with⟨hq,ih⟩ | ⟨hq,-⟩
        ·exact .inl ⟨⟨by omega,by omega⟩,.sil ih h1 h2 h3⟩
        ·unfold InS at hq;omega
       ·have e1:=eb e h1;rcases ih with⟨hq,-⟩ | ⟨hq,k,hk,ih⟩
        ·unfold InS at hq;omega
        ·exact .inr ⟨⟨by omega,by omega⟩,k,hk,.sil ih h1 h2 h3⟩
       ·have h3:((AA a n).2.1:Int)=q:=h3;rcases ih with⟨hq,ih⟩ | ⟨hq,-⟩
        ·rw [←h3]at ih;exact .inr ⟨⟨by show _≤(((AA b (n+stM a)).1:Nat):Int);omega,by show(((AA b (n+stM a)).1:Nat):Int)<_;omega⟩,j,(ta i j).1 ih,.refl⟩
        ·unfold InS at hq;omega
     | @eat q j c e _ h1 h2 h3 h4 h5 ih=>
       rcases(emem e).1 h1 with h1 | h1 | rfl
       ·have e1:=ea e h1;rcases ih with⟨hq,ih⟩ | ⟨hq,-⟩
        ·exact .inl ⟨⟨by omega,by omega⟩,.eat ih h1 h2 h3 h4 h5⟩
        ·unfold InS at hq;omega
       ·have e1:=eb e h1;rcases ih with⟨hq,-⟩ | ⟨hq,k,hk,ih⟩
        ·unfold InS at hq;omega
        ·exact .inr ⟨⟨by omega,by omega⟩,k,hk,.eat ih h1 h2 h3 h4 h5⟩
       ·cases h2
    rcases key _ _ hp with⟨hq,-⟩ | ⟨-,k,hk,hb⟩
    ·have hq:InS n (stM a) ((AA b (n+stM a)).2.1:Int):=hq;unfold InS at hq;omega
    ·exact⟨k,hk,(tb k j).1 hb⟩
   ·rintro⟨k,ha,hb⟩;have pa:=((ta i k).2 ha).mono (es':=(AA (.cat a b) n).2.2) fun e he=>(emem e).2 (.inl he);have pb:=((tb k j).2 hb).mono (es':=(AA (.cat a b) n).2.2) fun e he=>(emem e).2 (.inr (.inl he));exact(pa.trans (Pth.one ((emem _).2 (.inr (.inr rfl))))).trans pb
 | .alt a b,h,n,i,j=>by
   simp only [ReM.plain,AbK]at h;have i1:=Cs a h.1 (n+1);have i2:=Cs b h.2 (n+1+stM a);have ta:=FX l a h.1 (n+1);have tb:=FX l b h.2 (n+1+stM a);have ea:=CF a h.1 (n+1);have eb:=CF b h.2 (n+1+stM a);have emem:∀e,e∈(AA (.alt a b) n).2.2↔(e∈(AA a (n+1)).2.2∨e∈(AA b (n+1+stM a)).2.2∨e=A9 n (AA a (n+1)).1∨e=A9 n (AA b (n+1+stM a)).1∨e=A9 (AA a (n+1)).2.1 (n+1+stM a+stM b)∨e=A9 (AA b (n+1+stM a)).2.1 (n+1+stM a+stM b)):=fun e=>by
    simp only [AA,AbM,Ac4,AcF,or_false,or_assoc]
   constructor
   ·intro hp;have key:∀q j,Pth (AA (.alt a b) n).2.2 l (n:Int) i q j→
      (q=(n:Int)∧i=j)∨(InS (n+1) (stM a) q∧Pth (AA a (n+1)).2.2 l ((AA a (n+1)).1:Int) i q j)∨(InS (n+1+stM a) (stM b) q∧Pth (AA b (n+1+stM a)).2.2 l ((AA b (n+1+stM a)).1:Int) i q j)∨(q=((n+1+stM a+stM b:Nat):Int)∧Mt l (.alt a b) i j):=by
     intro q j hp
     induction hp with
     | refl=>exact .inl ⟨rfl,rfl⟩
     | @sil q j e _ h1 h2 h3 ih=>
       rcases(emem e).1 h1 with h1 | h1 | rfl | rfl | rfl | rfl
       ·have e1:=ea e h1;rcases ih with⟨hq,-⟩ | ⟨hq,ih⟩ | ⟨hq,-⟩ | ⟨hq,-⟩
        ·omega
        ·exact .inr (.inl ⟨⟨by omega,by omega⟩,.sil ih h1 h2 h3⟩)
        ·unfold InS at hq;omega
        ·omega
       ·have e1:=eb e h1;rcases ih with⟨hq,-⟩ | ⟨hq,-⟩ | ⟨hq,ih⟩ | ⟨hq,-⟩
        ·omega
        ·unfold InS at hq;omega
        ·exact .inr (.inr (.inl ⟨⟨by omega,by omega⟩,.sil ih h1 h2 h3⟩))
        ·omega
       ·have h3:(n:Int)=q:=h3;rcases ih with⟨hq,rfl⟩ | ⟨hq,-⟩ | ⟨hq,-⟩ | ⟨hq,-⟩
        ·exact .inr (.inl ⟨⟨by show _≤(((AA a (n+1)).1:Nat):Int);omega,by show(((AA a (n+1)).1:Nat):Int)<_;omega⟩,.refl⟩)
        ·unfold InS at hq;omega
        ·unfold InS at hq;omega
        ·omega
       ·have h3:(n:Int)=q:=h3;rcases ih with⟨hq,rfl⟩ | ⟨hq,-⟩ | ⟨hq,-⟩ | ⟨hq,-⟩
        ·exact .inr (.inr (.inl ⟨⟨by show _≤(((AA b (n+1+stM a)).1:Nat):Int);omega,by show(((AA b (n+1+stM a)).1:Nat):Int)<_;omega⟩,.refl⟩))
        ·unfold InS at hq;omega
        ·unfold InS at hq;omega
        ·omega
       ·have h3:((AA a (n+1)).2.1:Int)=q:=h3;rcases ih with⟨hq,-⟩ | ⟨hq,ih⟩ | ⟨hq,-⟩ | ⟨hq,-⟩
        ·omega
        ·rw [←h3]at ih;exact .inr (.inr (.inr ⟨rfl,.inl ((ta i j).1 ih)⟩))
        ·unfold InS at hq;omega
        ·omega
       ·have h3:((AA b (n+1+stM a)).2.1:Int)=q:=h3;rcases ih with⟨hq,-⟩ | ⟨hq,-⟩ | ⟨hq,ih⟩ | ⟨hq,-⟩
        ·omega
        ·unfold InS at hq;omega
        ·rw [←h3]at ih;exact .inr (.inr (.inr ⟨rfl,.inr ((tb i j).1 ih)⟩))
        ·omega
     | @eat q j c e _ h1 h2 h3 h4 h5 ih=>
       rcases(emem e).1 h1 with h1 | h1 | rfl | rfl | rfl | rfl
       ·have e1:=ea e h1;rcases ih with⟨hq,-⟩ | ⟨hq,ih⟩ | ⟨hq,-⟩ | ⟨hq,-⟩
        ·omega
        ·exact .inr (.inl ⟨⟨by omega,by omega⟩,.eat ih h1 h2 h3 h4 h5⟩)
        ·unfold InS at hq;omega
        ·omega
       ·have e1:=eb e h1;rcases ih with⟨hq,-⟩ | ⟨hq,-⟩ | ⟨hq,ih⟩ | ⟨hq,-⟩
        ·omega
        ·unfold InS at hq;omega
        ·exact .inr (.inr (.inl ⟨⟨by omega,by omega⟩,.eat ih h1 h2 h3 h4 h5⟩))
        ·omega
       all_goals cases h2
    rcases key _ _ hp with⟨hq,-⟩ | ⟨hq,-⟩ | ⟨hq,-⟩ | ⟨-,hm⟩
    ·have hq:((n+1+stM a+stM b:Nat):Int)=(n:Int):=hq;omega
    ·have hq:InS (n+1) (stM a) ((n+1+stM a+stM b:Nat):Int):=hq;unfold InS at hq;omega
    ·have hq:InS (n+1+stM a) (stM b) ((n+1+stM a+stM b:Nat):Int):=hq;unfold InS at hq;omega
    ·exact hm
   ·rintro(ha | hb)
    ·have pa:=((ta i j).2 ha).mono (es':=(AA (.alt a b) n).2.2) fun e he=>(emem e).2 (.inl he);exact((Pth.one (l:=l) (i:=i) ((emem _).2 (.inr (.inr (.inl rfl))))).trans pa).trans (Pth.one ((emem _).2 (.inr (.inr (.inr (.inr (.inl rfl)))))))
    ·have pb:=((tb i j).2 hb).mono (es':=(AA (.alt a b) n).2.2) fun e he=>(emem e).2 (.inr (.inl he));exact((Pth.one (l:=l) (i:=i) ((emem _).2 (.inr (.inr (.inr (.inl rfl)))))).trans pb).trans (Pth.one ((emem _).2 (.inr (.inr (.inr (.inr (.inr rfl)))))))
 | .star a,h,n,i,j=>by
   have h1:a.plain=true:=h;have i1:=Cs a h1 (n+1);have ta:=FX l a h1 (n+1);have ea:=CF a h1 (n+1);have emem:∀e,e∈(AA (.star a) n).2.2↔(e∈(AA a (n+1)).2.2∨e=A9 n (AA a (n+1)).1∨e=A9 n (n+1+stM a)∨e=A9 (AA a (n+1)).2.1 (AA a (n+1)).1∨e=A9 (AA a (n+1)).2.1 (n+1+stM a)):=fun e=>by
    simp only [AA,AbM,Ac4,AcF,or_false,or_assoc]
   constructor
   ·intro hp;have key:∀q j,Pth (AA (.star a) n).2.2 l (n:Int) i q j→
      (q=(n:Int)∧i=j)∨(InS (n+1) (stM a) q∧∃k,EZ (Mt l a) i k∧Pth (AA a (n+1)).2.2 l ((AA a (n+1)).1:Int) k q j)∨(q=((n+1+stM a:Nat):Int)∧EZ (Mt l a) i j):=by
     intro q j hp;have hs:InS (n+1) (stM a) ((AA a (n+1)).1:Int):=by unfold InS;omega
     induction hp with
     | refl=>exact .inl ⟨rfl,rfl⟩
     | @sil q j e _ h1 h2 h3 ih=>
       rcases(emem e).1 h1 with h1 | rfl | rfl | rfl | rfl
       ·have e1:=ea e h1;rcases ih with⟨hq,-⟩ | ⟨hq,k,hk,ih⟩ | ⟨hq,-⟩
        ·omega
        ·exact .inr (.inl ⟨⟨by omega,by omega⟩,k,hk,.sil ih h1 h2 h3⟩)
        ·omega
       ·have h3:(n:Int)=q:=h3;rcases ih with⟨hq,rfl⟩ | ⟨hq,-⟩ | ⟨hq,-⟩
        ·exact .inr (.inl ⟨hs,i,.refl,.refl⟩)
        ·unfold InS at hq;omega
        ·omega
       ·have h3:(n:Int)=q:=h3;rcases ih with⟨hq,rfl⟩ | ⟨hq,-⟩ | ⟨hq,-⟩
        ·exact .inr (.inr ⟨rfl,.refl⟩)
        ·unfold InS at hq;omega
        ·omega
       ·have h3:((AA a (n+1)).2.1:Int)=q:=h3;rcases ih with⟨hq,-⟩ | ⟨hq,k,hk,ih⟩ | ⟨hq,-⟩
        ·omega
        ·rw [←h3]at ih;exact .inr (.inl ⟨hs,j,.step hk ((ta k j).1 ih),.refl⟩)
        ·omega
       ·have h3:((AA a (n+1)).2.1:Int)=q:=h3;rcases ih with⟨hq,-⟩ | ⟨hq,k,hk,ih⟩ | ⟨hq,-⟩
        ·omega
        ·rw [←h3]at ih;exact .inr (.inr ⟨rfl,.step hk ((ta k j).1 ih)⟩)
        ·omega
     | @eat q j c e _ h1 h2 h3 h4 h5 ih=>
       rcases(emem e).1 h1 with h1 | rfl | rfl | rfl | rfl
       ·have e1:=ea e h1;rcases ih with⟨hq,-⟩ | ⟨hq,k,hk,ih⟩ | ⟨hq,-⟩
        ·omega
        ·exact .inr (.inl ⟨⟨by omega,by omega⟩,k,hk,.eat ih h1 h2 h3 h4 h5⟩)
        ·omega
       all_goals cases h2
    rcases key _ _ hp with⟨hq,-⟩ | ⟨hq,-⟩ | ⟨-,hm⟩
    ·have hq:((n+1+stM a:Nat):Int)=(n:Int):=hq;omega
    ·have hq:InS (n+1) (stM a) ((n+1+stM a:Nat):Int):=hq;unfold InS at hq;omega
    ·exact hm
   ·intro hm;have key:∀k,EZ (Mt l a) i k→k=i∨Pth (AA (.star a) n).2.2 l (n:Int) i ((AA a (n+1)).2.1:Int) k:=by
     intro k hk
     induction hk with
     | refl=>exact .inl rfl
     | @step k j hk hj ih=>
       have pa:=((ta k j).2 hj).mono (es':=(AA (.star a) n).2.2) fun e he=>(emem e).2 (.inl he);rcases ih with rfl | ih
       ·exact .inr ((Pth.one (l:=l) ((emem _).2 (.inr (.inl rfl)))).trans pa)
       ·exact .inr ((ih.trans (Pth.one ((emem _).2 (.inr (.inr (.inr (.inl rfl))))))).trans pa)
    rcases key j hm with rfl | hp
    ·exact Pth.one ((emem _).2 (.inr (.inr (.inl rfl))))
    ·exact hp.trans (Pth.one ((emem _).2 (.inr (.inr (.inr (.inr rfl))))))
 | .and_ _ _,h,_,_,_=>by cases h
 | .minus _ _,h,_,_,_=>by cases h
theorem LP{a:NfM}{l:List Nat}(hs:a.has a.start=true)(ht:∀e∈a.edges,a.has e.to=true){q:Int}{j:Nat}(h:Pth a.edges l a.start 0 q j):j≤l.length∧KF a (l.take j) q:=by
 induction h with
 | refl=>exact⟨AcN _,a.start,⟨rfl,hs⟩,.refl _⟩
 | @sil q j e _ h1 h2 h3 ih=>exact⟨ih.1,U9 a _ e h1 h2 (ht e h1) (by rw [h3];exact ih.2)⟩
 | @eat q j c e _ h1 h2 h3 h4 h5 ih=>
   have hj:=(AaT.1 h4).1;refine⟨hj,?_⟩;have e1:l.take (j+1)=l.take j++[c]:=by rw [Ad2,h4];rfl
   rw [e1,ID];exact Mq ⟨e,h1,h2,h5,by rw [h3];exact ih.2,ht e h1,rfl⟩
theorem IC{a:NfM}{l:List Nat}:∀{j:Nat},j≤l.length→∀q,KF a (l.take j) q→Pth a.edges l a.start 0 q j
 | 0,_,q,h=>by
   refine Do (Y:=fun q=>Pth a.edges l a.start 0 q 0) (fun q hq=>?_) (fun e h1 h2 h3 h4=>.sil h4 h1 h2 rfl) q h;rw [hq.1];exact .refl
 | j+1,hj,q,h=>by
   have hjl:j<l.length:=hj;have e1:l.take (j+1)=l.take j++[l[j]]:=by rw [Ad2,AcQ hjl];rfl
   rw [e1,ID]at h;refine Do (Y:=fun q=>Pth a.edges l a.start 0 q (j+1)) (fun q hq=>?_) (fun e h1 h2 h3 h4=>.sil h4 h1 h2 rfl) q h;obtain⟨e,h1,h2,h3,h4,h5,rfl⟩:=hq;exact .eat (IC (by omega) e.fr h4) h1 h2 rfl (AcQ hjl) h3
structure BR where
 p:Nat
 q:Nat
 u:Nat
 es:List EdM
def shE(n:Int)(e:EdM):EdM:=⟨e.fr+n,e.to+n,e.sil,if e.sil then 0#256 else e.set⟩
def Fu(a:NfM):Bool:=(a.has a.start&&a.has a.fin)&&a.edges.all fun e=>a.has e.fr&&a.has e.to
def Pm:ReM→Bool
 | .and_ _ _=>true
 | .minus _ _=>true
 | _=>false
section
variable{σ α β:Type}
def By(x:σ×Except Int α)(f:α→σ→σ×Except Int β):σ×Except Int β:=match x with
 | (s,.error e)=>(s,.error e)
 | (s,.ok a)=>f a s
def C5(x:σ×Except Int NfM)(n:Nat):σ×Except Int BR:=
 By x fun a s=>if Fu a=true then(s,.ok ⟨n+a.start.toNat,n+a.fin.toNat,a.st.toNat,a.edges.map (shE n)⟩)else(s,.error 2)
def Bw(sub:ReM→σ→σ×Except Int NfM):ReM→Nat→σ→σ×Except Int BR
 | .eps,n,s=>(s,.ok ⟨n,n+1,2,[A9 n (n+1)]⟩)
 | .cls t,n,s=>(s,.ok ⟨n,n+1,2,[Cf n (n+1) t]⟩)
 | .cat a b,n,s=>By (Bw sub a n s) fun A s1=>By (Bw sub b (n+A.u) s1) fun C s2=>(s2,.ok ⟨A.p,C.q,A.u+C.u,A.es++C.es++[A9 A.q C.p]⟩)
 | .alt a b,n,s=>By (Bw sub a (n+1) s) fun A s1=>By (Bw sub b (n+1+A.u) s1) fun C s2=>
   (s2,.ok ⟨n,n+1+A.u+C.u,A.u+C.u+2,A.es++C.es++[A9 n A.p,A9 n C.p,A9 A.q (n+1+A.u+C.u),A9 C.q (n+1+A.u+C.u)]⟩)
 | .star a,n,s=>By (Bw sub a (n+1) s) fun A s1=>(s1,.ok ⟨n,n+1+A.u,A.u+2,A.es++[A9 n A.p,A9 n (n+1+A.u),A9 A.q A.p,A9 A.q (n+1+A.u)]⟩)
 | .and_ a b,n,s=>C5 (sub (.and_ a b) s) n
 | .minus a b,n,s=>C5 (sub (.minus a b) s) n
theorem AU{x:σ×Except Int α}{f:α→σ→σ×Except Int β}{s:σ}{a:α}(h:x=(s,.ok a)):By x f=f a s:=by rw [h];rfl
theorem Cx{x:σ×Except Int α}{f:α→σ→σ×Except Int β}{s:σ}{e:Int}(h:x=(s,.error e)):By x f=(s,.error e):=by rw [h];rfl
theorem Az{x:σ×Except Int α}{f:α→σ→σ×Except Int β}{s:σ}{b:β}(h:By x f=(s,.ok b)):∃s1 a,x=(s1,.ok a)∧f a s1=(s,.ok b):=by
 obtain⟨s1,r⟩:=x;cases r with
 | error e=>cases h
 | ok a=>exact⟨s1,a,rfl,h⟩
end
theorem ES{a:NfM}:Fu a=true↔a.has a.start=true∧a.has a.fin=true∧∀e∈a.edges,a.has e.fr=true∧a.has e.to=true:=by
 unfold Fu;simp only [AbK,AcU,and_assoc]
structure PT{σ:Type}(sub:ReM→σ→σ×Except Int NfM)(E:Nat):Prop where
 len:∀r s s' a,sub r s=(s',.ok a)→a.edges.length≤E
 err:∀r s s' e,sub r s=(s',.error e)→e≠0
theorem BK{σ:Type}{sub:ReM→σ→σ×Except Int NfM}{E:Nat}(hE:PT sub E):∀(r:ReM) (n:Nat) (s s':σ) (A:BR),Bw sub r n s=(s',.ok A)→n≤A.p∧A.p<n+A.u∧n≤A.q∧A.q<n+A.u∧A.u≤65536*r.nodes∧A.es.length≤(E+4)*r.nodes
 | .eps,n,s,s',A,h=>by
   cases h;simp only [ReM.nodes,AbV];omega
 | .cls t,n,s,s',A,h=>by
   cases h;simp only [ReM.nodes,AbV];omega
 | .cat a b,n,s,s',A,h=>by
   obtain⟨s1,A1,h1,h2⟩:=Az h;obtain⟨s2,A2,h3,h4⟩:=Az h2;cases h4;have i1:=BK hE a _ _ _ _ h1;have i2:=BK hE b _ _ _ _ h3;simp only [ReM.nodes,AaS,AbV,Ad0];omega
 | .alt a b,n,s,s',A,h=>by
   obtain⟨s1,A1,h1,h2⟩:=Az h;obtain⟨s2,A2,h3,h4⟩:=Az h2;cases h4;have i1:=BK hE a _ _ _ _ h1;have i2:=BK hE b _ _ _ _ h3;simp only [ReM.nodes,AaS,AbD,AaV,Ad0];omega
 | .star a,n,s,s',A,h=>by
   obtain⟨s1,A1,h1,h2⟩:=Az h;cases h2;have i1:=BK hE a _ _ _ _ h1;simp only [ReM.nodes,AaS,AbD,AaV,Ad0];omega
 | .and_ a b,n,s,s',A,h=>by
   obtain⟨s1,N,h1,h2⟩:=Az (show C5 _ n=_ from h);have hl:=hE.len _ _ _ _ h1;split at h2
   ·rename_i hw;cases h2;obtain⟨k1,k2,-⟩:=ES.1 hw;have k1:=NfM.has_iff.1 k1;have k2:=NfM.has_iff.1 k2;simp only [ReM.nodes,AbH,Ad0];omega
   ·cases h2
 | .minus a b,n,s,s',A,h=>by
   obtain⟨s1,N,h1,h2⟩:=Az (show C5 _ n=_ from h);have hl:=hE.len _ _ _ _ h1;split at h2
   ·rename_i hw;cases h2;obtain⟨k1,k2,-⟩:=ES.1 hw;have k1:=NfM.has_iff.1 k1;have k2:=NfM.has_iff.1 k2;simp only [ReM.nodes,AbH,Ad0];omega
   ·cases h2
theorem So{σ:Type}{sub:ReM→σ→σ×Except Int NfM}{E:Nat}(hE:PT sub E):∀(r:ReM) (n:Nat) (s s':σ) (e:Int),Bw sub r n s=(s',.error e)→e≠0:=by
 have bnd:∀{α β:Type} {x:σ×Except Int α} {f:α→σ→σ×Except Int β} {s':σ} {e:Int},By x f=(s',.error e)→x=(s',.error e)∨∃s1 a,x=(s1,.ok a)∧f a s1=(s',.error e):=by
  intro α β x f s' e h;obtain⟨s1,r⟩:=x;cases r with
  | error e1=>
    have h:((s1,.error e1):σ×Except Int β)=(s',.error e):=h;cases h;exact .inl rfl
  | ok a=>exact .inr ⟨s1,a,rfl,h⟩
 intro r
 induction r with
 | eps=>intro n s s' e h;cases h
 | cls t=>intro n s s' e h;cases h
 | cat a b iha ihb | alt a b iha ihb=>
   intro n s s' e h;rcases bnd (show By _ _=_ from h)with h | ⟨s1,A,-,h⟩
   ·exact iha _ _ _ _ h
   ·rcases bnd h with h | ⟨s2,C,-,h⟩
    ·exact ihb _ _ _ _ h
    ·cases h
 | star a iha=>
   intro n s s' e h;rcases bnd (show By _ _=_ from h)with h | ⟨s1,A,-,h⟩
   ·exact iha _ _ _ _ h
   ·cases h
 | and_ a b iha ihb | minus a b iha ihb=>
   intro n s s' e h;rcases bnd (show By _ _=_ from h)with h | ⟨s1,A,-,h⟩
   ·exact hE.err _ _ _ _ h
   ·split at h
    ·cases h
    ·cases h;decide
end Go.Proofs.YtfbghcpdinlmcaaGreatDoor
namespace Go.Proofs.YtfbghcpdinlmcaaGreatDoor
open Go.VC
attribute [local irreducible] Bo B0 Bg
inductive PA.Live(d:PA):Nat→Prop
 | fin {q:Nat}:q<d.n→d.fi q=true→d.Live q
 | step {q b:Nat}:q<d.n→b<256→d.Live (d.st q b)→d.Live q
theorem PA.Live.lt{d:PA}{q:Nat}(h:d.Live q):q<d.n:=by cases h<;>assumption
open Classical in
noncomputable def PA.use(d:PA)(q:Nat):Bool:=decide (d.Live q)
theorem PA.use_iff{d:PA}{q:Nat}:d.use q=true↔d.Live q:=by unfold PA.use;simp
theorem PA.use_lt{d:PA}{q:Nat}(h:d.use q=true):q<d.n:=(PA.use_iff.1 h).lt
noncomputable def PA.place(d:PA)(q:Nat):Nat:=((Ac3 q).filter d.use).length
noncomputable def PA.count(d:PA):Nat:=d.place d.n
noncomputable def PA.set(d:PA)(q t:Nat):BitVec 256:=bvN fun b=>decide (d.st q b=t)
noncomputable def PA.hopsTo(d:PA)(q k:Nat):List EdM:=(Ac3 k).filterMap fun t=>if(d.use t&&(d.set q t != 0#256))=true then some (Cf (d.place q) (d.place t) (d.set q t))else none
noncomputable def PA.endE(d:PA)(q:Nat):List EdM:=if d.fi q=true then [A9 (d.place q) d.count]else []
noncomputable def PA.edgesTo(d:PA)(k:Nat):List EdM:=(Ac3 k).flatMap fun q=>if d.use q=true then d.hopsTo q d.n++d.endE q else []
noncomputable def Ao(d:PA):NfM:=if d.use 0=true then⟨d.count+1,0,d.count,d.edgesTo d.n⟩else⟨2,0,1,[]⟩
section
variable{d:PA}
theorem PA.place_succ(q:Nat):d.place (q+1)=d.place q+if d.use q=true then 1 else 0:=by
 unfold PA.place;rw [AdP,List.filter_append,AaS];cases h:d.use q<;>simp [h]
theorem PA.place_mono{q t:Nat}(h:q≤t):d.place q≤d.place t:=by
 obtain⟨k,rfl⟩:=Nat.exists_eq_add_of_le h;clear h
 induction k with
 | zero=>exact AbY _
 | succ k ih=>rw [←AdQ,PA.place_succ];omega
theorem PA.place_lt{q t:Nat}(hq:d.use q=true)(h:q<t):d.place q<d.place t:=by
 have h1:=PA.place_succ (d:=d) q;rw [if_pos hq]at h1;have h2:=PA.place_mono (d:=d) (show q+1≤t from h);omega
theorem PA.place_inj{p q:Nat}(hp:d.use p=true)(hq:d.use q=true)(h:d.place p=d.place q):p=q:=by
 rcases AdJ p q with h1 | h1 | h1
 ·have:=PA.place_lt hp h1;omega
 ·exact h1
 ·have:=PA.place_lt hq h1;omega
theorem PA.place_count{q:Nat}(hq:d.use q=true):d.place q<d.count:=PA.place_lt hq (PA.use_lt hq)
theorem PA.place_le(q:Nat):d.place q≤q:=by
 unfold PA.place;have:=List.length_filter_le d.use (Ac3 q);rwa [Ad1]at this
theorem PA.count_le:d.count≤d.n:=PA.place_le _
theorem PA.set_bit{q t c:Nat}:(d.set q t).getLsbD c=true↔c<256∧d.st q c=t:=by
 unfold PA.set;constructor
 ·intro h;have hc:=BitVec.lt_of_getLsbD h;rw [SM _ hc]at h;exact⟨hc,by simpa using h⟩
 ·rintro⟨hc,h⟩;rw [SM _ hc];simpa using h
theorem PA.set_ne{q t c:Nat}(hc:c<256)(h:d.st q c=t):d.set q t≠0#256:=fun e=>by
 have:=PA.set_bit.2 ⟨hc,h⟩;rw [e]at this;simp at this
theorem PA.mem_edges{e:EdM}:e∈d.edgesTo d.n↔∃q,d.use q=true∧((∃t,d.use t=true∧d.set q t≠0#256∧e=Cf (d.place q) (d.place t) (d.set q t))∨(d.fi q=true∧e=A9 (d.place q) d.count)):=by
 unfold PA.edgesTo;rw [List.mem_flatMap];constructor
 ·rintro⟨q,hq,he⟩;split at he
  ·rename_i hu;refine⟨q,hu,?_⟩;rcases AbM.1 he with he | he
   ·unfold PA.hopsTo at he;obtain⟨t,ht,h1⟩:=AdE.1 he;split at h1
    ·rename_i h2;rw [AbK,bne_iff_ne]at h2;exact .inl ⟨t,h2.1,h2.2,(Option.some.inj h1).symm⟩
    ·cases h1
   ·unfold PA.endE at he;split at he
    ·rename_i hf;exact .inr ⟨hf,AaU.1 he⟩
    ·cases he
  ·cases he
 ·rintro⟨q,hu,h⟩;refine⟨q,AcM.2 (PA.use_lt hu),?_⟩;rw [if_pos hu];rcases h with⟨t,h1,h2,rfl⟩ | ⟨h1,rfl⟩
  ·refine AdB _ ?_;unfold PA.hopsTo;refine AdE.2 ⟨t,AcM.2 (PA.use_lt h1),?_⟩;rw [if_pos (by rw [AbK,bne_iff_ne];exact⟨h1,h2⟩)]
  ·refine AdA _ ?_;unfold PA.endE;rw [if_pos h1];exact AaU.2 rfl
theorem PA.run_cons(q b:Nat)(w:List Nat):d.run q (b::w)=d.run (d.st q b) w:=rfl
theorem PA.run_snoc(q b:Nat)(w:List Nat):d.run q (w++[b])=d.st (d.run q w) b:=by unfold PA.run;rw [AcR];rfl
theorem PA.live_pre(h:d.Ok):∀(w:List Nat) (q:Nat),q<d.n→Ch w→d.Live (d.run q w)→d.Live q
 | [],q,_,_,hl=>hl
 | b::w,q,hq,hw,hl=>.step hq (hw b (by simp)) (PA.live_pre h w _ (h.cl q b hq (hw b (by simp))) (fun x hx=>hw x (AcL _ hx)) hl)
theorem PA.loose_path(h:d.Ok){l:List Nat}:∀(w:List Nat) (q i:Nat),q<d.n→Ch w→l.drop i=w→d.Live (d.run q w)→Pth (d.edgesTo d.n) l (d.place q:Int) i (d.place (d.run q w):Int) (i+w.length)
 | [],q,i,_,_,_,_=>.refl
 | b::w,q,i,hq,hw,hd,hl=>by
   have hb:=hw b (by simp);have hw':Ch w:=fun x hx=>hw x (AcL _ hx);have hi:l[i]? =some b:=by
    have:(l.drop i)[0]? =some b:=by rw [hd];rfl
    rwa [List.getElem?_drop,Nat.add_zero]at this
   have hd':l.drop (i+1)=w:=by
    rw [←List.drop_drop,hd];rfl
   have hq':=h.cl q b hq hb;have l1:d.Live (d.st q b):=PA.live_pre h w _ hq' hw' hl;have l0:d.Live q:=.step hq hb l1;have ih:=PA.loose_path h w (d.st q b) (i+1) hq' hw' hd' hl;have he:Cf (d.place q) (d.place (d.st q b)) (d.set q (d.st q b))∈d.edgesTo d.n:=PA.mem_edges.2 ⟨q,PA.use_iff.2 l0,.inl ⟨_,PA.use_iff.2 l1,PA.set_ne hb rfl,rfl⟩⟩;have p1:Pth (d.edgesTo d.n) l (d.place q:Int) i (d.place (d.st q b):Int) (i+1):=.eat .refl he rfl rfl hi (PA.set_bit.2 ⟨hb,rfl⟩);have p2:=p1.trans ih;rw [show i+1+w.length=i+(b::w).length by simp;omega]at p2;exact p2
theorem PA.loose_inv{l:List Nat}{q':Int}{j:Nat}(hu:d.use 0=true)(h:Pth (d.edgesTo d.n) l 0 0 q' j):
  j≤l.length∧((∃q,d.use q=true∧q'=(d.place q:Int)∧d.run 0 (l.take j)=q)∨(q'=(d.count:Int)∧d.fi (d.run 0 (l.take j))=true)):=by
 induction h with
 | refl=>exact⟨AcN _,.inl ⟨0,hu,rfl,rfl⟩⟩
 | @sil q1 j e _ h1 h2 h3 ih=>
   obtain⟨hj,ih⟩:=ih;obtain⟨q,hq,⟨t,h4,h5,rfl⟩ | ⟨h4,rfl⟩⟩:=PA.mem_edges.1 h1
   ·cases h2
   ·refine⟨hj,.inr ⟨rfl,?_⟩⟩;have h3:((d.place q:Nat):Int)=q1:=h3;rcases ih with⟨p,hp,e1,e2⟩ | ⟨e1,-⟩
    ·have:q=p:=PA.place_inj hq hp (by omega);rw [e2,←this];exact h4
    ·have:=PA.place_count hq;omega
 | @eat q1 j c e _ h1 h2 h3 h4 h5 ih=>
   obtain⟨hj,ih⟩:=ih;have hjl:=(AaT.1 h4).1;refine⟨hjl,?_⟩;obtain⟨q,hq,⟨t,h6,h7,rfl⟩ | ⟨h6,rfl⟩⟩:=PA.mem_edges.1 h1
   ·have h3:((d.place q:Nat):Int)=q1:=h3;rcases ih with⟨p,hp,e1,e2⟩ | ⟨e1,-⟩
    ·have hqp:q=p:=PA.place_inj hq hp (by omega);refine .inl ⟨t,h6,rfl,?_⟩;have e3:l.take (j+1)=l.take j++[c]:=by rw [Ad2,h4];rfl
     rw [e3,PA.run_snoc,e2,←hqp];exact(PA.set_bit.1 h5).2
    ·have:=PA.place_count hq;omega
   ·cases h2
theorem I8(hn:d.n≤65535):(Ao d).has (Ao d).start=true∧(Ao d).has (Ao d).fin=true∧∀e∈(Ao d).edges,(Ao d).has e.fr=true∧(Ao d).has e.to=true:=by
 have hc:=PA.count_le (d:=d);unfold Ao;split
 ·refine⟨NfM.has_iff.2 ⟨Ad8 _,by show(0:Int)<(d.count:Int)+1;omega,by show(d.count:Int)+1≤65536;omega⟩,NfM.has_iff.2 ⟨by show(0:Int)≤(d.count:Int);omega,by show(d.count:Int)<(d.count:Int)+1;omega,by show(d.count:Int)+1≤65536;omega⟩,fun e he=>?_⟩;have hb:∀k:Nat,k≤d.count→NfM.has ⟨d.count+1,0,d.count,d.edgesTo d.n⟩ (k:Int)=true:=fun k hk=>NfM.has_iff.2 ⟨by omega,by show(k:Int)<(d.count:Int)+1;omega,by show(d.count:Int)+1≤65536;omega⟩;obtain⟨q,hq,⟨t,h4,h5,rfl⟩ | ⟨h4,rfl⟩⟩:=PA.mem_edges.1 he
  ·exact⟨hb _ (AdF (PA.place_count hq)),hb _ (AdF (PA.place_count h4))⟩
  ·exact⟨hb _ (AdF (PA.place_count hq)),hb _ (AbY _)⟩
 ·exact⟨by decide,by decide,fun e he=>by cases he⟩
theorem Q8(hn:d.n≤65535):Fu (Ao d)=true:=ES.2 (I8 hn)
theorem Up(h:d.Ok)(hn:d.n≤65535){w:List Nat}(hw:Ch w):TS (Ao d) w=true↔d.fi (d.run 0 w)=true:=by
 obtain⟨h1,h2,h3⟩:=I8 hn;have hrl:=PA.run_lt h w 0 h.pos hw;rw [JD];constructor
 ·intro hr;have hp:=IC (l:=w) (AbY _) (Ao d).fin (by rw [AcV];exact hr);by_cases hu:d.use 0=true
  ·have e:Ao d=⟨d.count+1,0,d.count,d.edgesTo d.n⟩:=if_pos hu;rw [e]at hp;obtain⟨-,⟨q,hq,e1,-⟩ | ⟨-,e1⟩⟩:=PA.loose_inv hu hp
   ·have e1:(d.count:Int)=(d.place q:Int):=e1;have:=PA.place_count hq;omega
   ·rwa [AcV]at e1
  ·have e:Ao d=⟨2,0,1,[]⟩:=if_neg hu;rw [e]at hp;have key:∀q j,Pth [] w 0 0 q j→q=0:=by
    intro q j hp;cases hp with
    | refl=>rfl
    | sil _ h=>cases h
    | eat _ h=>cases h
   have:=key _ _ hp;exact absurd this (by decide)
 ·intro hf;have hl:d.Live (d.run 0 w):=.fin hrl hf;have l0:d.Live 0:=PA.live_pre h w 0 h.pos hw hl;have hu:d.use 0=true:=PA.use_iff.2 l0;have e:Ao d=⟨d.count+1,0,d.count,d.edgesTo d.n⟩:=if_pos hu;have p1:=PA.loose_path h (l:=w) w 0 0 h.pos hw rfl hl;have he:A9 (d.place (d.run 0 w)) d.count∈d.edgesTo d.n:=PA.mem_edges.2 ⟨_,PA.use_iff.2 hl,.inr ⟨hf,rfl⟩⟩;have p2:=p1.trans (Pth.one (l:=w) (i:=0+w.length) he);have p3:Pth (Ao d).edges w (Ao d).start 0 (Ao d).fin w.length:=by
   rw [e];rw [AbW]at p2;exact p2
  have:=(LP h1 (fun e he=>(h3 e he).2) p3).2;rwa [AcV]at this
end
end Go.Proofs.YtfbghcpdinlmcaaGreatDoor
namespace Go.Proofs.YtfbghcpdinlmcaaGreatDoor
open Go.VC
def RG(A C:BR):BR:=⟨A.p,C.q,A.u+C.u,A.es++C.es++[A9 A.q C.p]⟩
def R2(n:Nat)(A C:BR):BR:=⟨n,n+1+A.u+C.u,A.u+C.u+2,A.es++C.es++[A9 n A.p,A9 n C.p,A9 A.q (n+1+A.u+C.u),A9 C.q (n+1+A.u+C.u)]⟩
def Nj(n:Nat)(A:BR):BR:=⟨n,n+1+A.u,A.u+2,A.es++[A9 n A.p,A9 n (n+1+A.u),A9 A.q A.p,A9 A.q (n+1+A.u)]⟩
theorem Z8{l:List Nat}{a b:ReM}{A C:BR}{n:Nat}(i1:n≤A.p∧A.p<n+A.u∧n≤A.q∧A.q<n+A.u)(i2:(n+A.u)≤C.p∧C.p<(n+A.u)+C.u∧(n+A.u)≤C.q∧C.q<(n+A.u)+C.u)(ea:∀e∈A.es,((n:Nat):Int)≤e.fr∧e.fr<((n+A.u:Nat):Int)∧((n:Nat):Int)≤e.to∧e.to<((n+A.u:Nat):Int))(eb:∀e∈C.es,(((n+A.u):Nat):Int)≤e.fr∧e.fr<(((n+A.u)+C.u:Nat):Int)∧(((n+A.u):Nat):Int)≤e.to∧e.to<(((n+A.u)+C.u:Nat):Int))(ta:∀i j,Pth A.es l (A.p:Int) i (A.q:Int) j↔Mt l a i j)(tb:∀i j,Pth C.es l (C.p:Int) i (C.q:Int) j↔Mt l b i j)(i j:Nat):Pth (RG A C).es l (A.p:Int) i (C.q:Int) j↔Mt l (.cat a b) i j:=by
 have emem:∀e,e∈(RG A C).es↔(e∈A.es∨e∈C.es∨e=A9 A.q C.p):=fun e=>by
  simp only [RG,AbM,AaU,or_assoc]
 constructor
 ·intro hp;have key:∀q j,Pth (RG A C).es l (A.p:Int) i q j→
    (InS n (A.u) q∧Pth A.es l (A.p:Int) i q j)∨(InS (n+A.u) (C.u) q∧∃k,Mt l a i k∧Pth C.es l (C.p:Int) k q j):=by
   intro q j hp
   induction hp with
   | refl=>exact .inl ⟨by unfold InS;omega,.refl⟩
   | @sil q j e _ h1 h2 h3 ih=>
     rcases(emem e).1 h1 with h1 | h1 | rfl
     ·have e1:=ea e h1;rcases ih with⟨hq,ih⟩ | ⟨hq,-⟩
      ·exact .inl ⟨⟨by omega,by omega⟩,.sil ih h1 h2 h3⟩
      ·unfold InS at hq;omega
     ·have e1:=eb e h1;rcases ih with⟨hq,-⟩ | ⟨hq,k,hk,ih⟩
      ·unfold InS at hq;omega
      ·exact .inr ⟨⟨by omega,by omega⟩,k,hk,.sil ih h1 h2 h3⟩
     ·have h3:(A.q:Int)=q:=h3;rcases ih with⟨hq,ih⟩ | ⟨hq,-⟩
      ·rw [←h3]at ih;exact .inr ⟨⟨by show _≤((C.p:Nat):Int);omega,by show((C.p:Nat):Int)<_;omega⟩,j,(ta i j).1 ih,.refl⟩
      ·unfold InS at hq;omega
   | @eat q j c e _ h1 h2 h3 h4 h5 ih=>
     rcases(emem e).1 h1 with h1 | h1 | rfl
     ·have e1:=ea e h1;rcases ih with⟨hq,ih⟩ | ⟨hq,-⟩
      ·exact .inl ⟨⟨by omega,by omega⟩,.eat ih h1 h2 h3 h4 h5⟩
      ·unfold InS at hq;omega
     ·have e1:=eb e h1;rcases ih with⟨hq,-⟩ | ⟨hq,k,hk,ih⟩
      ·unfold InS at hq;omega
      ·exact .inr ⟨⟨by omega,by omega⟩,k,hk,.eat ih h1 h2 h3 h4 h5⟩
     ·cases h2
  rcases key _ _ hp with⟨hq,-⟩ | ⟨-,k,hk,hb⟩
  ·have hq:InS n (A.u) (C.q:Int):=hq;unfold InS at hq;omega
  ·exact⟨k,hk,(tb k j).1 hb⟩
 ·rintro⟨k,ha,hb⟩;have pa:=((ta i k).2 ha).mono (es':=(RG A C).es) fun e he=>(emem e).2 (.inl he);have pb:=((tb k j).2 hb).mono (es':=(RG A C).es) fun e he=>(emem e).2 (.inr (.inl he));exact(pa.trans (Pth.one ((emem _).2 (.inr (.inr rfl))))).trans pb
theorem Z4{l:List Nat}{a b:ReM}{A C:BR}{n:Nat}(i1:(n+1)≤A.p∧A.p<(n+1)+A.u∧(n+1)≤A.q∧A.q<(n+1)+A.u)(i2:(n+1+A.u)≤C.p∧C.p<(n+1+A.u)+C.u∧(n+1+A.u)≤C.q∧C.q<(n+1+A.u)+C.u)(ea:∀e∈A.es,(((n+1):Nat):Int)≤e.fr∧e.fr<(((n+1)+A.u:Nat):Int)∧(((n+1):Nat):Int)≤e.to∧e.to<(((n+1)+A.u:Nat):Int))(eb:∀e∈C.es,(((n+1+A.u):Nat):Int)≤e.fr∧e.fr<(((n+1+A.u)+C.u:Nat):Int)∧(((n+1+A.u):Nat):Int)≤e.to∧e.to<(((n+1+A.u)+C.u:Nat):Int))(ta:∀i j,Pth A.es l (A.p:Int) i (A.q:Int) j↔Mt l a i j)(tb:∀i j,Pth C.es l (C.p:Int) i (C.q:Int) j↔Mt l b i j)(i j:Nat):Pth (R2 n A C).es l (n:Int) i ((n+1+A.u+C.u:Nat):Int) j↔Mt l (.alt a b) i j:=by
 have emem:∀e,e∈(R2 n A C).es↔(e∈A.es∨e∈C.es∨e=A9 n A.p∨e=A9 n C.p∨e=A9 A.q (n+1+A.u+C.u)∨e=A9 C.q (n+1+A.u+C.u)):=fun e=>by
  simp only [R2,AbM,Ac4,AcF,or_false,or_assoc]
 constructor
 ·intro hp;have key:∀q j,Pth (R2 n A C).es l (n:Int) i q j→
    (q=(n:Int)∧i=j)∨(InS (n+1) (A.u) q∧Pth A.es l (A.p:Int) i q j)∨(InS (n+1+A.u) (C.u) q∧Pth C.es l (C.p:Int) i q j)∨(q=((n+1+A.u+C.u:Nat):Int)∧Mt l (.alt a b) i j):=by
   intro q j hp
   induction hp with
   | refl=>exact .inl ⟨rfl,rfl⟩
   | @sil q j e _ h1 h2 h3 ih=>
     rcases(emem e).1 h1 with h1 | h1 | rfl | rfl | rfl | rfl
     ·have e1:=ea e h1;rcases ih with⟨hq,-⟩ | ⟨hq,ih⟩ | ⟨hq,-⟩ | ⟨hq,-⟩
      ·omega
      ·exact .inr (.inl ⟨⟨by omega,by omega⟩,.sil ih h1 h2 h3⟩)
      ·unfold InS at hq;omega
      ·omega
     ·have e1:=eb e h1;rcases ih with⟨hq,-⟩ | ⟨hq,-⟩ | ⟨hq,ih⟩ | ⟨hq,-⟩
      ·omega
      ·unfold InS at hq;omega
      ·exact .inr (.inr (.inl ⟨⟨by omega,by omega⟩,.sil ih h1 h2 h3⟩))
      ·omega
     ·have h3:(n:Int)=q:=h3;rcases ih with⟨hq,rfl⟩ | ⟨hq,-⟩ | ⟨hq,-⟩ | ⟨hq,-⟩
      ·exact .inr (.inl ⟨⟨by show _≤((A.p:Nat):Int);omega,by show((A.p:Nat):Int)<_;omega⟩,.refl⟩)
      ·unfold InS at hq;omega
      ·unfold InS at hq;omega
      ·omega
     ·have h3:(n:Int)=q:=h3;rcases ih with⟨hq,rfl⟩ | ⟨hq,-⟩ | ⟨hq,-⟩ | ⟨hq,-⟩
      ·exact .inr (.inr (.inl ⟨⟨by show _≤((C.p:Nat):Int);omega,by show((C.p:Nat):Int)<_;omega⟩,.refl⟩))
      ·unfold InS at hq;omega
      ·unfold InS at hq;omega
      ·omega
     ·have h3:(A.q:Int)=q:=h3;rcases ih with⟨hq,-⟩ | ⟨hq,ih⟩ | ⟨hq,-⟩ | ⟨hq,-⟩
      ·omega
      ·rw [←h3]at ih;exact .inr (.inr (.inr ⟨rfl,.inl ((ta i j).1 ih)⟩))
      ·unfold InS at hq;omega
      ·omega
     ·have h3:(C.q:Int)=q:=h3;rcases ih with⟨hq,-⟩ | ⟨hq,-⟩ | ⟨hq,ih⟩ | ⟨hq,-⟩
      ·omega
      ·unfold InS at hq;omega
      ·rw [←h3]at ih;exact .inr (.inr (.inr ⟨rfl,.inr ((tb i j).1 ih)⟩))
      ·omega
   | @eat q j c e _ h1 h2 h3 h4 h5 ih=>
     rcases(emem e).1 h1 with h1 | h1 | rfl | rfl | rfl | rfl
     ·have e1:=ea e h1;rcases ih with⟨hq,-⟩ | ⟨hq,ih⟩ | ⟨hq,-⟩ | ⟨hq,-⟩
      ·omega
      ·exact .inr (.inl ⟨⟨by omega,by omega⟩,.eat ih h1 h2 h3 h4 h5⟩)
      ·unfold InS at hq;omega
      ·omega
     ·have e1:=eb e h1;rcases ih with⟨hq,-⟩ | ⟨hq,-⟩ | ⟨hq,ih⟩ | ⟨hq,-⟩
      ·omega
      ·unfold InS at hq;omega
      ·exact .inr (.inr (.inl ⟨⟨by omega,by omega⟩,.eat ih h1 h2 h3 h4 h5⟩))
      ·omega
     all_goals cases h2
  rcases key _ _ hp with⟨hq,-⟩ | ⟨hq,-⟩ | ⟨hq,-⟩ | ⟨-,hm⟩
  ·have hq:((n+1+A.u+C.u:Nat):Int)=(n:Int):=hq;omega
  ·have hq:InS (n+1) (A.u) ((n+1+A.u+C.u:Nat):Int):=hq;unfold InS at hq;omega
  ·have hq:InS (n+1+A.u) (C.u) ((n+1+A.u+C.u:Nat):Int):=hq;unfold InS at hq;omega
  ·exact hm
 ·rintro(ha | hb)
  ·have pa:=((ta i j).2 ha).mono (es':=(R2 n A C).es) fun e he=>(emem e).2 (.inl he);exact((Pth.one (l:=l) (i:=i) ((emem _).2 (.inr (.inr (.inl rfl))))).trans pa).trans (Pth.one ((emem _).2 (.inr (.inr (.inr (.inr (.inl rfl)))))))
  ·have pb:=((tb i j).2 hb).mono (es':=(R2 n A C).es) fun e he=>(emem e).2 (.inr (.inl he));exact((Pth.one (l:=l) (i:=i) ((emem _).2 (.inr (.inr (.inr (.inl rfl)))))).trans pb).trans (Pth.one ((emem _).2 (.inr (.inr (.inr (.inr (.inr rfl)))))))
theorem Y6{l:List Nat}{a:ReM}{A:BR}{n:Nat}(i1:(n+1)≤A.p∧A.p<(n+1)+A.u∧(n+1)≤A.q∧A.q<(n+1)+A.u)(ea:∀e∈A.es,(((n+1):Nat):Int)≤e.fr∧e.fr<(((n+1)+A.u:Nat):Int)∧(((n+1):Nat):Int)≤e.to∧e.to<(((n+1)+A.u:Nat):Int))(ta:∀i j,Pth A.es l (A.p:Int) i (A.q:Int) j↔Mt l a i j)(i j:Nat):Pth (Nj n A).es l (n:Int) i ((n+1+A.u:Nat):Int) j↔Mt l (.star a) i j:=by
 have emem:∀e,e∈(Nj n A).es↔(e∈A.es∨e=A9 n A.p∨e=A9 n (n+1+A.u)∨e=A9 A.q A.p∨e=A9 A.q (n+1+A.u)):=fun e=>by
  simp only [Nj,AbM,Ac4,AcF,or_false,or_assoc]
 constructor
 ·intro hp;have key:∀q j,Pth (Nj n A).es l (n:Int) i q j→
    (q=(n:Int)∧i=j)∨(InS (n+1) (A.u) q∧∃k,EZ (Mt l a) i k∧Pth A.es l (A.p:Int) k q j)∨(q=((n+1+A.u:Nat):Int)∧EZ (Mt l a) i j):=by
   intro q j hp;have hs:InS (n+1) (A.u) (A.p:Int):=by unfold InS;omega
   induction hp with
   | refl=>exact .inl ⟨rfl,rfl⟩
   | @sil q j e _ h1 h2 h3 ih=>
     rcases(emem e).1 h1 with h1 | rfl | rfl | rfl | rfl
     ·have e1:=ea e h1;rcases ih with⟨hq,-⟩ | ⟨hq,k,hk,ih⟩ | ⟨hq,-⟩
      ·omega
      ·exact .inr (.inl ⟨⟨by omega,by omega⟩,k,hk,.sil ih h1 h2 h3⟩)
      ·omega
     ·have h3:(n:Int)=q:=h3;rcases ih with⟨hq,rfl⟩ | ⟨hq,-⟩ | ⟨hq,-⟩
      ·exact .inr (.inl ⟨hs,i,.refl,.refl⟩)
      ·unfold InS at hq;omega
      ·omega
     ·have h3:(n:Int)=q:=h3;rcases ih with⟨hq,rfl⟩ | ⟨hq,-⟩ | ⟨hq,-⟩
      ·exact .inr (.inr ⟨rfl,.refl⟩)
      ·unfold InS at hq;omega
      ·omega
     ·have h3:(A.q:Int)=q:=h3;rcases ih with⟨hq,-⟩ | ⟨hq,k,hk,ih⟩ | ⟨hq,-⟩
      ·omega
      ·rw [←h3]at ih;exact .inr (.inl ⟨hs,j,.step hk ((ta k j).1 ih),.refl⟩)
      ·omega
     ·have h3:(A.q:Int)=q:=h3;rcases ih with⟨hq,-⟩ | ⟨hq,k,hk,ih⟩ | ⟨hq,-⟩
      ·omega
      ·rw [←h3]at ih;exact .inr (.inr ⟨rfl,.step hk ((ta k j).1 ih)⟩)
      ·omega
   | @eat q j c e _ h1 h2 h3 h4 h5 ih=>
     rcases(emem e).1 h1 with h1 | rfl | rfl | rfl | rfl
     ·have e1:=ea e h1;rcases ih with⟨hq,-⟩ | ⟨hq,k,hk,ih⟩ | ⟨hq,-⟩
      ·omega
      ·exact .inr (.inl ⟨⟨by omega,by omega⟩,k,hk,.eat ih h1 h2 h3 h4 h5⟩)
      ·omega
     all_goals cases h2
  rcases key _ _ hp with⟨hq,-⟩ | ⟨hq,-⟩ | ⟨-,hm⟩
  ·have hq:((n+1+A.u:Nat):Int)=(n:Int):=hq;omega
  ·have hq:InS (n+1) (A.u) ((n+1+A.u:Nat):Int):=hq;unfold InS at hq;omega
  ·exact hm
 ·intro hm;have key:∀k,EZ (Mt l a) i k→k=i∨Pth (Nj n A).es l (n:Int) i (A.q:Int) k:=by
   intro k hk
   induction hk with
   | refl=>exact .inl rfl
   | @step k j hk hj ih=>
     have pa:=((ta k j).2 hj).mono (es':=(Nj n A).es) fun e he=>(emem e).2 (.inl he);rcases ih with rfl | ih
     ·exact .inr ((Pth.one (l:=l) ((emem _).2 (.inr (.inl rfl)))).trans pa)
     ·exact .inr ((ih.trans (Pth.one ((emem _).2 (.inr (.inr (.inr (.inl rfl))))))).trans pa)
  rcases key j hm with rfl | hp
  ·exact Pth.one ((emem _).2 (.inr (.inr (.inl rfl))))
  ·exact hp.trans (Pth.one ((emem _).2 (.inr (.inr (.inr (.inr rfl))))))
end Go.Proofs.YtfbghcpdinlmcaaGreatDoor
namespace Go.Proofs.YtfbghcpdinlmcaaGreatDoor
open Go.VC
attribute [local irreducible] Bo B0 Bg
theorem Yd(m:Nat){n:Int×Int}(h:PP n):Tryz.prog.keyLits (m+2) 224 (pkL n)=some [.int .i64 n.1,.int .i64 n.2]:=by
 have c1:Tryz.prog.cellsOf 224=2:=by kernel_rfl
 have c2:Tryz.prog.cellsOf 3=1:=by kernel_rfl
 simp [Program.keyLits,Tryz.underlying224,Tryz.underlying3,c1,c2,pkL,Zn h.1,Zn h.2]
theorem ZN{n:Int×Int}(h:PP n):∃l,keyOf Tryz.prog 224 (pkV n)=some l:=by
 have hk:Tryz.prog.keyType 224=true:=by kernel_rfl
 have c1:Tryz.prog.cellsOf 224=2:=by kernel_rfl
 have hf:(pkV n).formed Tryz.prog 224=true:=by simp [pkV,pkL,Value.formed,Tryz.underlying224,c1]
 obtain⟨m,hm⟩:∃m,Tryz.prog.types.size+1=m+2:=⟨Tryz.prog.types.size - 1,by
  have:decide (1≤Tryz.prog.types.size)=true:=by kernel_rfl
  have:=of_decide_eq_true this;omega⟩
 refine⟨.string (keyBytes [.int .i64 n.1,.int .i64 n.2]),?_⟩;unfold keyOf;simp only [Tryz.underlying224,hk,hf,Bool.and_self,if_true];rw [hm,show(pkV n).cells.toList=pkL n from rfl,Yd m h];rfl
theorem Ze:IU Tryz.prog 224 PP pkV:=
 IU.ofLaw (deep_law (m:=2) (by decide) (by kernel_rfl) (by kernel_rfl) (by simp [Tryz.underlying224])) (fun a b h=>Yr h) (fun a h=>ZN h)
theorem Zj:IP Tryz.prog 298 224 3 (.int .i64 0):=⟨rfl,rfl⟩
def tLp:Ty (Int×Int) where
 size:=2
 rep _ _ cs x:=cs=pkL x
 len h:=by rw [h];rfl
 frame h _:=h
 mono h _:=h
theorem WM(x:Int×Int):∀u∈pkL x,u.oneCell'=true:=by
 intro u hu;unfold pkL at hu;simp only [Ac4,AcF,or_false]at hu;rcases hu with rfl | rfl<;>rfl
theorem P3:(Tryz.prog.info? 224).bind (·.zero)=some (pkV (0,0)):=by kernel_rfl
def Zy(x:Int×Int):Prop:=(0≤x.1∧x.1<65536)∧0≤x.2∧x.2<65536
theorem Zy.ok{x:Int×Int}(h:Zy x):PP x:=⟨Lw h.1,Lw h.2⟩
theorem _root_.Go.VC.StB.front{B:Nat→Prop}{H0 H:Aa}{ps:List Pc}{q:Pc}(st:StB B H0 H (ps++[q])):StB B H0 H (q::ps):=by
 have hd:=List.pairwise_append.1 st.dis;refine⟨st.old,st.lt0,st.size,fun p hp=>st.oks p ?_,fun p hp=>st.rng p ?_,AdG.2 ⟨fun p hp k hk hk2=>hd.2.2 p hp q (by simp) k hk2 hk,hd.1⟩⟩
 ·rcases Ac4.1 hp with rfl | hp
  ·simp
  ·simp [hp]
 ·rcases Ac4.1 hp with rfl | hp
  ·simp
  ·simp [hp]
theorem _root_.Go.VC.StB.tail{B:Nat→Prop}{H0 H:Aa}{ps:List Pc}{q:Pc}(st:StB B H0 H (q::ps)):StB B H0 H ps:=
 ⟨st.old,st.lt0,st.size,fun p hp=>st.oks p (by simp [hp]),fun p hp=>st.rng p (by simp [hp]),(AdG.1 st.dis).2⟩
abbrev tExP:TypeId:=301
def Ui(F:List (Int×Int))(s:Int×Int):Option Value:=(F.findIdx? (·=s)).map fun(i:Nat)=>.int .i64 (i:Int)
theorem VG{F:List (Int×Int)}{k:Int×Int}(hno:F.findIdx? (·=k)=none):put (Ui F) k (some (.int .i64 (F.length:Int)))=Ui (F++[k]):=by
 funext s;unfold put Ui;rw [List.findIdx?_append];by_cases hs:s=k
 ·subst hs;rw [if_pos rfl,hno];simp [AdH]
 ·rw [if_neg hs];cases h:F.findIdx? (·=s)with
  | some i=>simp
  | none=>
    have:k≠s:=fun e=>hs e.symm;simp [AdH,this]
section
variable{B:Nat→Prop}{H0 H:Aa}{rest:List Pc}{xb mb fc most:Nat}{fa:Option Addr}{F:List (Int×Int)}{k:Int×Int}
def Lu(xb mb:Nat)(fa:Option Addr)(fc most:Nat)(F:List (Int×Int))(rest:List Pc):List Pc:=
 pB tExP xb (exL mb (.slice fa F.length fc) most)::pMW PP pkV mb (Ui F)::pS tLp 224 fa F.length fc F::rest
theorem YU{K:Value→Aa→Prop}(st:StB B H0 H (Lu xb mb fa fc most F rest))(hk:PP k)(hm:most≤4096)(hFl:F.length≤most)
  (k1:∀F' i fa' fc' H',atF most F k=some (F',i)→StB B H0 H' (Lu xb mb fa' fc' most F' rest)→K (.tuple #[.int .i64 (i:Int),.bool true]) H')
  (k2:∀H',atF most F k=none→StB B H0 H' (Lu xb mb fa fc most F rest)→K (.tuple #[.int .i64 0,.bool false]) H'):
  Ad Tryz.prog 164 #[.pointer (some ⟨xb,0,none⟩),pkV k] H K:=by
 refine Ad.mk (R:=fun r H'=>(∃(F':List (Int×Int)) (i:Nat) (fa':Option Addr) (fc':Nat),r= .tuple #[.int .i64 (i:Int),.bool true]∧atF most F k=some (F',i)∧StB B H0 H' (Lu xb mb fa' fc' most F' rest))∨(r= .tuple #[.int .i64 0,.bool false]∧atF most F k=none∧StB B H0 H' (Lu xb mb fa fc most F rest))) ?_ fun r H' h=>by
  rcases h with⟨F',i,fa',fc',rfl,h1,h2⟩ | ⟨rfl,h1,h2⟩
  ·exact k1 F' i fa' fc' H' h1 h2
  ·exact k2 H' h1 h2
 unfold Lu at st;refine Al.of_vc Tryz.func164 rfl (Tryz.call164 _) (Cq (pkL k) rfl ?_);intro kb Hk hkb hsk hbk hak;have stk:=(st.box hkb hsk hbk hak).front;clear st hbk hak;have hb0:=stk.blk 1 rfl;have hkc:AX Hk kb 0 (pkL k):=(stk.blk 0 rfl).cells fun j v hv=>by rw [AbW];exact hv
 refine Ar.lex rfl (by kernel_rfl) (VC.fa Tm ?_);refine ld1 (v:=.map (some mb)) YY (by rw [hb0.cell];rfl) trivial ?_;refine ldN (cs:=pkL k) Mg hkc trivial (QG (a:=k) Zj Ze hk (stk.mapW 2 rfl) trivial ?_);rw [show Ui F k=(F.findIdx? (·=k)).map fun(i:Nat)=>.int .i64 (i:Int)from rfl];cases hf:F.findIdx? (·=k)with
 | some i=>
   (conv=>whnf);exact .inl ⟨F,i,fa,fc,rfl,by unfold atF;rw [hf],stk.tail⟩
 | none=>
   refine Ar.lex rfl (by kernel_rfl) (VC.fa Gl ?_);refine ld1 (v:=.slice fa F.length fc) KW (by rw [hb0.cell];rfl) trivial ?_;refine VC.fa XO ?_;refine ld1 (v:=.int .i64 (most:Int)) ct3 (by rw [hb0.cell];rfl) trivial ?_;by_cases hlt:F.length<most
   ·have d1:decide ((most:Int)≤(F.length:Int))=false:=decide_eq_false (by omega);(conv=>whnf);rw [d1];refine Ar.heldZ (Old Hk) [10] (sq [0,1,2,3,4,5,6,7,8,9] (.f 10 .e)) rfl (by kernel_rfl) (VC.fa Tm ?_);refine ld1 (v:=.map (some mb)) YY (by rw [hb0.cell];rfl) hb0.lt ?_;refine ldN (cs:=pkL k) Mg hkc (stk.blk 0 rfl).lt (VC.fa Gl ?_);refine ld1 (v:=.slice fa F.length fc) KW (by rw [hb0.cell];rfl) hb0.lt ?_;refine Sh (a:=k) stk 2 Zj Ze hk rfl (VG hf) fun H1 st1=>?_;have hb1:=st1.blk 1 rfl;have hk1:AX H1 kb 0 (pkL k):=(st1.blk 0 rfl).cells fun j v hv=>by rw [AbW];exact hv
    refine Ar.heldZ (fun j=>j=xb∨j=kb) [10] (sq [0,1,2,3,4,5] (.f 6 (.f 7 (sq [8,9] (.f 10 .e))))) rfl (by kernel_rfl) (VC.fa Gl ?_);refine ld1 (v:=.slice fa F.length fc) KW (by rw [hb1.cell];rfl) (.inl rfl) ?_;refine ldN (cs:=pkL k) Mg hk1 (.inr rfl) (AG TF (pkL k) rfl rfl (by decide) (by decide) ?_);intro q11 H11 hq11 hs11 hb11 ha11;have hlt1:=(st1.blk 1 rfl).lt;have hlt0:=(st1.blk 0 rfl).lt;refine⟨ha11.mono fun j hj=>?_,?_⟩
    ·rcases hj with rfl | rfl<;>omega
    have st11:=st1.skip hq11 ha11;have ap1:=st11.apart2 (i:=1) (j:=3) rfl rfl (by decide);have ap0:=st11.apart2 (i:=0) (j:=3) rfl rfl (by decide);refine Ml (ys:=[k]) st11 3 TF rfl (hb11.cells fun j v hv=>by rw [AbW];exact hv) (Ty.reps_one (show tLp.rep none_ H11 (pkL k) k from rfl)) rfl (WM k) (by simp only [AbV];omega) (by decide) fun a12 c12 H12 st12 hag12=>?_;rw [show F.length+[k].length=(F++[k]).length by simp]at st12 ⊢;refine⟨(ha11.mono fun j hj=>?_).trans (hag12.mono fun j hj=>?_),?_⟩
    ·rcases hj with rfl | rfl<;>omega
    ·rcases hj with rfl | rfl
     ·exact⟨by omega,fun h=>ap1 _ rfl (.inl h)⟩
     ·exact⟨by omega,fun h=>ap0 _ rfl (.inl h)⟩
    refine VC.fa Gl (AZ st12 1 KW rfl (show 1<3 by decide) rfl fun H13 st13=>?_);replace st13:StB B H0 H13 (pB 224 kb (pkL k)::Lu xb mb a12 c12 most (F++[k]) rest):=st13;refine VC.fa Gl ?_;refine ld1 (v:=.slice a12 (F++[k]).length c12) KW (by rw [(st13.blk 1 rfl).cell];rfl) trivial ?_;have w1:IntKind.wrap .i64 (((F++[k]).length:Int) - 1)=(F.length:Int):=by
     rw [show(F++[k]).length=F.length+1 by simp,w64 (by omega) (by omega)];omega
    (conv=>whnf);rw [w1];(conv=>whnf);exact .inl ⟨F++[k],F.length,a12,c12,rfl,by unfold atF;rw [hf];simp only;rw [if_pos hlt],st13.tail⟩
   ·have d1:decide ((most:Int)≤(F.length:Int))=true:=decide_eq_true (by omega);(conv=>whnf);rw [d1];(conv=>whnf);exact .inr ⟨rfl,by unfold atF;rw [hf];simp only;rw [if_neg hlt],stk.tail⟩
end
structure LV(S:Nat→Prop)(H:Aa)(pa pb:Nat)(va vb:Value)(a b:Option AM):Prop where
 spa:S pa
 spb:S pb
 ca:AX H pa 0 [va]
 cb:AX H pb 0 [vb]
 va:Ba S H va a
 vb:Ba S H vb b
theorem LV.frame{S:Nat→Prop}{H H':Aa}{pa pb:Nat}{va vb:Value}{a b:Option AM}(h:LV S H pa pb va vb a b)(k:Agr S H H'):LV S H' pa pb va vb a b:=
 ⟨h.spa,h.spb,h.ca.eq (k _ h.spa),h.cb.eq (k _ h.spb),h.va.frame k,h.vb.frame k⟩
section
variable{S:Nat→Prop}{H:Aa}{pa pb pf:Nat}{va vb:Value}{a b:Option AM}{x:Int×Int}{c:Nat}{ends:Bool→Bool→Bool}{f:FuncId}
theorem Y9(hS:∀k,S k→k<H.size)(h:LV S H pa pb va vb a b)(hc:c<256):
  BX Tryz.prog 120 #[pkV x,.int .u8 (c:Int),.pointer (some ⟨pa,0,none⟩),.pointer (some ⟨pb,0,none⟩)] H (pkV (Cj a b x c)):=by
 have e:Cj a b x c=(Bs a x.1 c,Bs b x.2 c):=if_pos hc;rw [e];refine Al.of_vc Tryz.func120 rfl (Tryz.call120 _) (Cq (pkL x) rfl ?_);intro p4 H1 hp4 hs1 hb1 ha1;have st1:=(St.nil H).box hp4 hs1 hb1 ha1;refine An (pkV (0,0)) (pkL (0,0)) P3 rfl ?_;intro p6 H2 hp6 hs2 hb2 ha2;have st2:=st1.box hp6 hs2 hb2 ha2;have h2:=h.frame (st2.old.mono hS);have b4:=st2.blk 0 rfl;have up2:∀k,S k→k<H2.size:=fun k hk=>st2.up (hS k hk);refine Ar.heldZ (Old H2) [11] (sq [0,1,2,3,5,6,7,8] (.f 4 (.f 9 (sq [10] (.f 11 .e))))) rfl (by kernel_rfl) (ld1 (v:=va) Uc (h2.ca 0 _ rfl) (up2 _ h.spa) (VC.fa Ti ?_));refine ld1 (v:=.int .i64 x.1) ct3 (by rw [b4.cell];rfl) b4.lt ?_;refine ld1 (v:=vb) Uc (h2.cb 0 _ rfl) (up2 _ h.spb) (VC.fa Tj ?_);refine ld1 (v:=.int .i64 x.2) ct3 (by rw [b4.cell];rfl) b4.lt ?_;refine Am (Nl up2 h2.va hc) fun H3 ha3=>?_;have st3:=st2.call ha3;refine⟨ha3,?_⟩;refine Am (Nl (fun k hk=>st3.up (hS k hk)) (h.vb.frame (st3.old.mono hS)) hc) fun H4 ha4=>?_;have st4:=st3.call ha4;refine⟨ha3.trans (ha4.mono fun k hk=>Aj ha3 hk),?_⟩;refine Aw Tryz.underlying224 rfl (pkV (0,0)) P3 (pkL (Bs a x.1 c,Bs b x.2 c)) rfl (AI (cs:=pkL (Bs a x.1 c,Bs b x.2 c)) st4 1 rfl rfl (AbY _) rfl fun H5 st5=>?_);rw [Ax (show(pkL (Bs a x.1 c,Bs b x.2 c)).length=(pkL (0,0)).length from rfl)]at st5;refine ldN (cs:=pkL (Bs a x.1 c,Bs b x.2 c)) Mg ((st5.blk 1 rfl).cells fun j v hv=>by rw [AbW];exact hv) trivial ?_;exact⟨rfl,st5.old⟩
theorem VK(hS:∀k,S k→k<H.size)(h:LV S H pa pb va vb a b)(hpf:S pf)(hcf:AX H pf 0 [.func (.func f) #[] #[]])(hf:∀(G:Aa) (x y:Bool),BX Tryz.prog f #[.bool x,.bool y] G (.bool (ends x y))):
  BX Tryz.prog 121 #[pkV x,.pointer (some ⟨pf,0,none⟩),.pointer (some ⟨pa,0,none⟩),.pointer (some ⟨pb,0,none⟩)] H (.bool (ends (BV a x.1) (BV b x.2))):=by
 refine Al.of_vc Tryz.func121 rfl (Tryz.call121 _) (Cq (pkL x) rfl ?_);intro p4 H1 hp4 hs1 hb1 ha1;have st1:=(St.nil H).box hp4 hs1 hb1 ha1;have h1:=h.frame (st1.old.mono hS);have b4:=st1.blk 0 rfl;have up1:∀k,S k→k<H1.size:=fun k hk=>st1.up (hS k hk);refine Ar.heldZ (Old H1) [] (sq [0,1,2,3,5,6,7] (.f 4 (.f 8 (.f 9 (.f 10 .e))))) rfl (by kernel_rfl) (ld1 (v:=.func (.func f) #[] #[]) Ab6 ((hcf.eq (st1.old _ (hS _ hpf))) 0 _ rfl) (up1 _ hpf) (ld1 (v:=va) Uc (h1.ca 0 _ rfl) (up1 _ h.spa) (VC.fa Ti ?_)));refine ld1 (v:=.int .i64 x.1) ct3 (by rw [b4.cell];rfl) b4.lt ?_;refine ld1 (v:=vb) Uc (h1.cb 0 _ rfl) (up1 _ h.spb) (VC.fa Tj ?_);refine ld1 (v:=.int .i64 x.2) ct3 (by rw [b4.cell];rfl) b4.lt ?_;refine Am (JP h1.va) fun H3 ha3=>?_;have st3:=st1.call ha3;refine⟨ha3,?_⟩;refine Am (JP (h.vb.frame (st3.old.mono hS))) fun H4 ha4=>?_;have st4:=st3.call ha4;have h14:=ha3.trans (ha4.mono fun k hk=>Aj ha3 hk);refine⟨h14,?_⟩;refine Am (hf H4 _ _) fun H5 ha5=>?_;have st5:=st4.call ha5;have h15:=h14.trans (ha5.mono fun k hk=>Aj h14 hk);refine⟨h15,?_⟩;(conv=>whnf);refine⟨h15,?_⟩;(conv=>whnf);exact⟨rfl,st5.old⟩
theorem Xy{K:Type} [DecidableEq K]{most:Nat}{F F':List K}{k:K}{i:Nat}(h:atF most F k=some (F',i))(hl:F.length≤most):F'.length≤most∧i<most:=by
 unfold atF at h;split at h
 ·rename_i j hj;injection h with h;injection h with h1 h2;subst h1;subst h2
  have:=(AcT.1 hj).1;omega
 ·split at h
  ·injection h with h;injection h with h1 h2;subst h1;subst h2
   simp only [AaS,AbD,AaV];omega
  ·cases h
def ExpP(a b:Option AM)(ends:Bool→Bool→Bool)(most:Nat)(cs:List (BitVec 256))(l0:Int×Int)(H H':Aa)(r:Value):Prop:=Agr (Old H) H H'∧
 match Ep most (Cj a b) (BC cs) l0 with
 | none=>r= .tuple #[.pointer none,.bool false]
 | some (F,rows)=>∃v,r= .tuple #[v,.bool true]∧Ba (fun k=>H.size≤k∧k<H'.size) H' v (if B8 cs (rows.map B9) F.length then some (BP cs (rows.map B9) (F.map fun x=>ends (BV a x.1) (BV b x.2)))else none)
theorem RN{ca:Option Addr}{cc most:Nat}{cs:List (BitVec 256)}{l0:Int×Int}(hS:∀k,S k→k<H.size)(hab:LV S H pa pb va vb a b)(hpf:S pf)(hcf:AX H pf 0 [.func (.func f) #[] #[]])(hf:∀(G:Aa) (x y:Bool),BX Tryz.prog f #[.bool x,.bool y] G (.bool (ends x y)))
  (hcs:SlD C7 S H ca cc cs) (hcl:cs.length≤256) (sa:Me a) (sb:Me b) (hl0:Q0 a b l0) (hm1:1≤most) (hm:most≤4096):
  Al Tryz.prog 122 #[pkV l0,.slice ca cs.length cc,.func (.func 120) #[] #[.pointer (some ⟨pa,0,none⟩),.pointer (some ⟨pb,0,none⟩)],.func (.func 121) #[] #[.pointer (some ⟨pf,0,none⟩),.pointer (some ⟨pa,0,none⟩),.pointer (some ⟨pb,0,none⟩)],.int .i64 (most:Int)] H fun r H'=>ExpP a b ends most cs l0 H H' r:=by
 have h16:∀x,Q0 a b x→Zy x:=fun x hx=>by
  have h1:=sa.n2;have h2:=sb.n2;obtain⟨⟨x1,x2⟩,x3,x4⟩:=hx;exact⟨⟨x1,by omega⟩,x3,by omega⟩
 have hst:∀x c,Q0 a b x→Q0 a b (Cj a b x c):=fun x c hx=>by
  unfold Cj;split
  ·rename_i h;exact⟨sa.step x.1 c hx.1 h,sb.step x.2 c hx.2 h⟩
  ·exact hx
 have hF0:∀x∈[l0],Q0 a b x:=fun x hx=>by rw [AaU]at hx;subst hx;exact hl0
 refine Al.of_vc Tryz.func122 rfl (Tryz.call122 _) (Cq (pkL l0) rfl ?_);intro kb0 H0' hkb0 hs0 hb0' ha0';have st0:=(St.nil H).box hkb0 hs0 hb0' ha0';refine Sg (Ok:=PP) (enc:=pkV) fun mb H1 hb1 hs1 hm1' ha1=>?_;have st1:=st0.mapNewW hb1 hs1 hm1' ha1;refine Aw Tryz.underlying301 rfl (.agg #[.map none,.slice none 0 0,.int .i64 0]) rfl (exL mb (.slice none 0 0) most) rfl (Cq (exL mb (.slice none 0 0) most) rfl ?_);intro xb H2 hxb hs2 hb2 ha2;have stA:=(st1.box hxb hs2 hb2 ha2).nils tLp 224;have hkc:AX H2 kb0 0 (pkL l0):=(stA.blk 0 rfl).cells fun j v hv=>by rw [AbW];exact hv
 have st2:St H H2 (Lu xb mb none 0 most [] []):=stA.pick [2,1,3] (by decide);have hat0:atF most ([]:List (Int×Int)) l0=some ([l0],0):=by
  unfold atF;rw [List.findIdx?_nil];simp only;rw [if_pos (by simp only [AaV];omega)];rfl
 refine ldN (cs:=pkL l0) Mg hkc trivial (YU st2 (h16 l0 hl0).ok hm (AcN _) (fun F' i fa' fc' H3 h1 st3=>?_) (fun H3 h1 _=>?_))
 ·rw [hat0]at h1;injection h1 with h1
  injection h1 with h1 h2
  subst h1;subst h2;have st4:St H H3 (Lu xb mb fa' fc' most [l0] [pN (tSl tIk) none_ 41 none 0 0 [],pS Cn 4 none 0 0 []]):=(st3.nils (tSl tIk) 41).nils Cn 4;(conv=>whnf);refine AK.mk [15,16,17] (fun x:Nat×List (Int×Int)×List (List Nat)×Option Addr×Nat×Option Addr×Nat=>match x with | (i,F,rows,na,nc,ba,bc)=>[.slice na i nc,.slice ba i bc,.int .i64 (i:Int)])
   (fun x H4=>match x with | (i,F,rows,na,nc,ba,bc)=>i≤F.length∧F.length≤most∧(∀x∈F,Q0 a b x)∧rows.length=i∧Bv most (Cj a b) (BC cs) l0 i=some (F,rows)∧∃Sx fa fc,St H H4 (Lu xb mb fa fc most F [pN (tSl tIk) Sx 41 na i nc (rows.map B9),pS Cn 4 ba i bc ((F.take i).map fun x=>ends (BV a x.1) (BV b x.2))])) (fun x _=>most - x.1) ?_ ?_
  ·(conv=>whnf);exact⟨(0,[l0],[],none,0,none,0),rfl,AcN _,by simp only [AbD,AaV];omega,hF0,rfl,rfl,none_,fa',fc',st4⟩
  ·rintro⟨i,F,rows,na,nc,ba,bc⟩ H4 junk4 ⟨hiF,hFm,hHF,hrl,hrun,Sx,fa,fc,st5⟩;have hb5:=st5.blk 0 rfl;refine VC.fa Gl ?_;refine ld1 (v:=.slice fa F.length fc) KW (by rw [hb5.cell];rfl) trivial ?_;refine AN.mk (fun hz=>?_) (fun hz=>?_)<;>simp only [decide_eq_true_eq,decide_eq_false_iff_not]at hz
   ·obtain⟨x,hx⟩:=Ae (l:=F) (k:=i) (by omega);have hxh:=hHF x (Ab8 hx);have hnext:Bv most (Cj a b) (BC cs) l0 (i+1)=((BC cs).foldl (C3 most (Cj a b) x) (some (F,[]))).map fun r=>(r.1,rows++[r.2]):=by
     show(Bv most (Cj a b) (BC cs) l0 i).bind _=_;rw [hrun];simp only [Ad5,hx]
    refine FY AW rfl (by omega) (by omega) (by omega) (by omega) ?_;intro rb H6 hrb hs6 hb6 ha6;rw [AcK]at hb6;rw [AcK,show(0:Int).toNat=0 from rfl];have st6:=st5.newCap (T:=tIk) (cap:=cs.length) hrb hs6 hb6 ha6 (by simp [Gb]) (by unfold maxLen;omega);(conv=>whnf);refine AK.mk [18,51] (fun y:Nat×List (Int×Int)×List Nat×Option Addr×Nat=>match y with | (j,F',row,ra,rc)=>[.slice ra row.length rc,.int .i64 (j:Int)])
     (fun y H7=>match y with | (j,F',row,ra,rc)=>j≤cs.length∧F'.length≤most∧(∀x∈F',Q0 a b x)∧F <+: F'∧row.length=j∧((BC cs).take j).foldl (C3 most (Cj a b) x) (some (F,[]))=some (F',row)∧∃fa fc,St H H7 (Lu xb mb fa fc most F' [pN (tSl tIk) Sx 41 na i nc (rows.map B9),pS Cn 4 ba i bc ((F.take i).map fun x=>ends (BV a x.1) (BV b x.2)),pS tIk 3 ra row.length rc (B9 row)])) (fun y _=>cs.length - y.1) ?_ ?_
    ·(conv=>whnf);exact⟨(0,F,[],some ⟨rb,0,none⟩,cs.length),rfl,AcN _,hFm,hHF,AdM _,rfl,rfl,fa,fc,st6⟩
    ·rintro⟨j,F',row,ra,rc⟩ H7 junk7 ⟨hj,hF'm,hHF',hpre,hrowl,hfold,fa7,fc7,st7⟩;refine AN.mk (fun hz2=>?_) (fun hz2=>?_)<;>simp only [decide_eq_true_eq,decide_eq_false_iff_not]at hz2
     ·obtain⟨c,hc⟩:=Ae (l:=cs) (k:=j) (by omega);have hbs:=Qe hc;have hblt:=D7 c 0;have hxF':=EX hpre hx;refine ixr (i:=j) CK (hcs.frame (st7.old.mono hS)) hc rfl ?_;rintro b8 o8 cs8 hS8 hc8 rfl;refine ldN (cs:=Ac c) AP hc8 trivial (An (Bt 0) (Ac 0) rfl rfl ?_);intro sx H8 hsx hs8 hb8 ha8;have st8:=st7.box hsx hs8 hb8 ha8;refine AI (cs:=Ac c) st8 6 rfl rfl (AbY _) rfl fun H9 st9=>?_;rw [Ax (show(Ac c).length=(Ac 0).length from rfl)]at st9;refine ldN (cs:=Ac c) AP ((st9.blk 6 rfl).cells fun j v hv=>by rw [AbW];exact hv) trivial ?_;refine Am (Px c 0 (by decide) H9) fun H10 ha10=>?_;have st10:=st9.call ha10;have hb10:=st10.blk 0 rfl;refine VC.fa Gl ?_;refine ld1 (v:=.slice fa7 F'.length fc7) KW (by rw [hb10.cell];rfl) trivial ?_;have hview:=st10.view 2 rfl;refine Lv (i:=i) TF hview rfl hxF' rfl ?_;rintro b11 o11 c11 hS11 hc11 rfl;refine ldN (cs:=pkL x) Mg hc11 trivial ?_;have up10:∀k,S k→k<H10.size:=fun k hk=>st10.up (hS k hk);refine Am (Y9 (S:=S) up10 (hab.frame (st10.old.mono hS)) hblt) fun H11 ha11=>?_;have st11:=st10.call ha11;replace st11:St H H11 (Lu xb mb fa7 fc7 most F' [pN (tSl tIk) Sx 41 na i nc (rows.map B9),pS Cn 4 ba i bc ((F.take i).map fun x=>ends (BV a x.1) (BV b x.2)),pS tIk 3 ra row.length rc (B9 row)]):=st11.pick [0,1,2,3,4,5] (by decide);have hstep:((BC cs).take (j+1)).foldl (C3 most (Cj a b) x) (some (F,[]))=(atF most F' (Cj a b x (Be c 0).1)).map fun r=>(r.1,row++[r.2]):=by
       rw [Af hbs,AcR,hfold];rfl
      refine YU st11 (h16 _ (hst x _ hxh)).ok hm hF'm (fun F2 t fa12 fc12 H12 h12 st12=>?_) (fun H12 h12 st12=>?_)
      ·obtain⟨hl2,htm⟩:=Xy h12 hF'm;rw [h12]at hstep;refine AG AW [.int .i64 (t:Int)] rfl rfl (by decide) (by decide) ?_;intro q13 H13 hq13 hs13 hb13 ha13;refine Mk (x:=(t:Int)) (st12.skip hq13 ha13) 5 AW rfl hb13 ⟨rfl,Lw ⟨by omega,by omega⟩⟩ rfl (by unfold B9;rw [AbH];omega) (by decide) fun a14 c14 H14 st14 _=>?_;have e1:(B9 row).length+1=(row++[t]).length:=by unfold B9;simp
       have e2:B9 row++[(t:Int)]=B9 (row++[t]):=by unfold B9;simp
       rw [e1,e2]at st14;rw [e1];(conv=>whnf);rw [w64 (x:=(j:Int)+1) (by omega) (by omega)];exact⟨rfl,(j+1,F2,row++[t],a14,c14),by simp,⟨by omega,hl2,fun y hy=>(JF h12 y hy).elim (hHF' y) fun e=>by rw [e];exact hst x _ hxh,hpre.trans (by
        unfold atF at h12;split at h12
        ·injection h12 with h;injection h with h1 h2;subst h1;exact AdM _
        ·split at h12
         ·injection h12 with h;injection h with h1 h2;subst h1;exact List.prefix_append _ _
         ·cases h12),by simp [hrowl],hstep,fa12,fc12,st14⟩,by simp only;omega⟩
      ·rw [h12]at hstep;have hnone:(BC cs).foldl (C3 most (Cj a b) x) (some (F,[]))=none:=by
        have h3:=(List.take_append_drop (j+1) (BC cs)).symm;rw [h3,AcR,hstep];exact FI x _
       have hdet:Ep most (Cj a b) (BC cs) l0=none:=NF (n:=i) (by rw [hnext,hnone];rfl) (by omega);(conv=>whnf);refine⟨st12.old,?_⟩;rw [hdet]
     ·obtain rfl:j=cs.length:=by omega
      have hfull:(BC cs).foldl (C3 most (Cj a b) x) (some (F,[]))=some (F',row):=by
       rw [←hfold,Ad9 (by unfold BC;rw [AbH];exact AbY _)]
      rw [hfull]at hnext;simp only [AcW]at hnext;have hxF':=EX hpre hx;have hri:(B9 row).length=row.length:=by unfold B9;rw [AbH]
      have hrl2:(rows.map B9).length=i:=by rw [AbH];exact hrl
      have hend:((F'.take (i+1)).map fun x=>ends (BV a x.1) (BV b x.2))=((F.take i).map fun x=>ends (BV a x.1) (BV b x.2))++[ends (BV a x.1) (BV b x.2)]:=by
       obtain⟨t,rfl⟩:=hpre;rw [List.take_append_of_le_length (by omega),Af hx,List.map_append];rfl
      have hel7:((F.take i).map fun x=>ends (BV a x.1) (BV b x.2)).length=i:=by rw [AbH,Ad6];omega
      obtain⟨ra',rc',er,hrow7,-⟩:=(st7.at_ 5 rfl).1.view (S':=slB (.slice ra row.length rc)) (fun b hb=>hb) (fun b hb=>hb.elim);injection er with er1 er2 er3
      subst er1;subst er3;have st8:St H H7 (pN (tSl tIk) (fun k=>Sx k∨slB (.slice ra row.length rc) k) 41 na i nc (rows.map B9)::[pB tExP xb (exL mb (.slice fa7 F'.length fc7) most),pMW PP pkV mb (Ui F'),pS tLp 224 fa7 F'.length fc7 F',pS Cn 4 ba i bc ((F.take i).map fun x=>ends (BV a x.1) (BV b x.2))]):=StB.absorb (st7.pick [3,5,0,1,2,4] (by decide));refine AG FC [.slice ra row.length rc] rfl rfl (by decide) (by decide) ?_;intro q13 H13 hq13 hs13 hb13 ha13;have st13:=st8.skip hq13 ha13;have hrow13:SlD tIk (fun k=>Sx k∨slB (.slice ra row.length rc) k) H13 ra rc (B9 row):=(hrow7.frame (ha13.mono fun k hk=>by
       have:=(st7.in_ 5 rfl (.inl hk)).2;omega)).mono fun k hk=>.inr hk
      refine YP (row:=B9 row) st13 FC (hb13.cells fun j v hv=>by rw [AbW];exact hv) ⟨ra,rc,by rw [hri],hrow13⟩ rfl (fun u hu=>by cases AaU.1 hu;rfl) (by rw [hrl2];omega) (by decide) fun a14 c14 H14 st14=>?_;rw [hrl2]at st14 ⊢;have hb14:=st14.blk 1 rfl;refine VC.fa Gl ?_;refine ld1 (v:=.slice fa7 F'.length fc7) KW (by rw [hb14.cell];rfl) trivial ?_;refine Lv (i:=i) TF (st14.view 3 rfl) rfl hxF' rfl ?_;rintro b11 o11 c11 hS11 hc11 rfl;refine ldN (cs:=pkL x) Mg hc11 trivial ?_;have up14:∀k,S k→k<H14.size:=fun k hk=>st14.up (hS k hk);refine Am (VK (S:=S) up14 (hab.frame (st14.old.mono hS)) hpf (hcf.eq (st14.old pf (hS pf hpf))) hf) fun H15 ha15=>?_;have st15:=st14.call ha15;refine AG Hu [.bool (ends (BV a x.1) (BV b x.2))] rfl rfl (by decide) (by decide) ?_;intro q16 H16 hq16 hs16 hb16 ha16;refine Mk (x:=ends (BV a x.1) (BV b x.2)) (st15.skip hq16 ha16) 4 Hu rfl hb16 rfl rfl (by rw [hel7];omega) (by decide) fun a17 c17 H17 st17 _=>?_;rw [hel7,←hend]at st17;rw [hel7];(conv=>whnf);rw [w64 (x:=(i:Int)+1) (by omega) (by omega)];refine⟨rfl,(i+1,F',rows++[row],a14,c14,a17,c17),by simp,⟨?_,hF'm,hHF',by simp [hrl],hnext,(fun k=>Sx k∨slB (.slice ra row.length rc) k),fa7,fc7,?_⟩,by simp only;omega⟩
      ·have:=(AaT.1 hxF').1;omega
      ·have e5:rows.map B9++[B9 row]=(rows++[row]).map B9:=by simp
       rw [e5]at st17;exact st17.pick [1,2,3,0,4] (by decide)
   ·obtain rfl:i=F.length:=by omega
    rw [AcV]at st5;have hrl2:(rows.map B9).length=F.length:=by rw [AbH];exact hrl
    have hdet:=NE hrun rfl hFm;have hnew:=Zl ca na ba cc nc bc cs (rows.map B9) (F.map fun x=>ends (BV a x.1) (BV b x.2)) (Old H4) H4 (fun k hk=>hk) ((hcs.frame (st5.old.mono hS)).mono fun k hk=>st5.up (hS k hk)) (st5.view 3 rfl) (st5.view 4 rfl);rw [hrl2,AbH]at hnew;refine Ad.mk hnew ?_;rintro v H6 ⟨ha6,hs6,hv6⟩;have st6:=st5.call ha6;(conv=>whnf);refine⟨st6.old,?_⟩;rw [hdet];exact⟨v,rfl,hv6.mono fun k hk=>⟨Nat.le_trans (Bl st5.old) hk.1,hk.2⟩⟩
 ·rw [hat0]at h1;cases h1
end
def Zv(a b:Option AM)(ends:Bool→Bool→Bool)(F:List (Int×Int))(p:Option AM):Prop:=
 Bz p∧UY (Cj a b) (fun x:Int×Int=>ends (BV a x.1) (BV b x.2)) F (Bs p) (BV p)∧stN p=F.length
def KS(a b:Option AM)(ends:Bool→Bool→Bool)(m:Int)(H H':Aa)(r:Value):Prop:=
 if m<1∨4096<m then r= .tuple #[.pointer none,.int .i64 2]else
 match prW a b m.toNat with
 | none=>r= .tuple #[.pointer none,.int .i64 40]
 | some F=>∃v A,r= .tuple #[v,.int .i64 0]∧Ba (fun k=>H.size≤k∧k<H'.size) H' v (some A)∧Zv a b ends F (some A)
theorem Qa{S:Nat→Prop}{H:Aa}{v:Value}{o:Option AM}(h:Ba S H v o):v.cells=[v].toArray:=by
 cases o with
 | none=>obtain rfl:=h;rfl
 | some A=>obtain⟨p,rfl,-⟩:=h;rfl
section
variable{S:Nat→Prop}{H:Aa}{va vb:Value}{a b:Option AM}{ends:Bool→Bool→Bool}{f:FuncId}{m:Int}
theorem Og(hS:∀k,S k→k<H.size)(hva:Ba S H va a)(hvb:Ba S H vb b)(ha:Bz a)(hb:Bz b)(hf:∀(G:Aa) (x y:Bool),BX Tryz.prog f #[.bool x,.bool y] G (.bool (ends x y))):
  Al Tryz.prog 57 #[va,vb,.int .i64 m,.func (.func f) #[] #[]] H fun r H'=>Agr (Old H) H H'∧KS a b ends m H H' r:=by
 have sa:=ha.steps;have sb:=hb.steps;have hla:=JK hva;have hlb:=JK hvb;have hpb:0<(Au b).length:=by
  obtain⟨ls,h⟩:=hb.ok;exact TZ h
 refine Al.of_vc Tryz.func57 rfl (Tryz.call57 _) (Cq [va] (Qa hva) ?_);intro pa H1 hpa hs1 hb1 ha1;have st1:=(St.nil H).box hpa hs1 hb1 ha1;refine Cq [vb] (Qa hvb) ?_;intro pb H2 hpb2 hs2 hb2 ha2;have st2:=st1.box hpb2 hs2 hb2 ha2;refine Cq [.func (.func f) #[] #[]] rfl ?_;intro pf H3 hpf hs3 hb3 ha3;have st3:=st2.box hpf hs3 hb3 ha3;unfold KS;by_cases hm1:m<1
 ·have d1:decide (m<1)=true:=decide_eq_true hm1;(conv=>whnf);rw [d1];(conv=>whnf);exact⟨st3.old,by rw [if_pos (.inl hm1)]⟩
 ·have d1:decide (m<1)=false:=decide_eq_false hm1;by_cases hm2:4096<m
  ·have d2:decide (m>4096)=true:=decide_eq_true hm2;(conv=>whnf);rw [d1];(conv=>whnf);rw [d2];(conv=>whnf);exact⟨st3.old,by rw [if_pos (.inr hm2)]⟩
  ·have d2:decide (m>4096)=false:=decide_eq_false hm2;obtain⟨n,rfl⟩:=Int.eq_ofNat_of_zero_le (show 0≤m by omega);have hn1:1≤n:=by omega
   have hn2:n≤4096:=by omega
   (conv=>whnf);rw [d1];(conv=>whnf);rw [d2];have hS3:∀{G:Aa} {ps:List Pc},St H3 G ps→Agr S H G:=fun st=>(st3.old.trans (st.old.mono fun k hk=>Aj st3.old hk)).mono hS;have up3:∀{G:Aa} {ps:List Pc},St H3 G ps→∀k,S k→k<G.size:=fun st k hk=>Aj st.old (st3.up (hS k hk));have sx0:=St.nil H3;refine Ar.heldZ (Old H3) [] (sq [0,2] (.f 1 (.f 3 (.f 4 (.f 5 (.f 6 .e)))))) rfl (by kernel_rfl) ?_;refine ld1 (v:=va) Uc (by rw [(st3.blk 0 rfl).cell];rfl) (st3.blk 0 rfl).lt ?_;refine ld1 (v:=vb) Uc (by rw [(st3.blk 1 rfl).cell];rfl) (st3.blk 1 rfl).lt ?_;refine Ad.mk (OP (up3 sx0) (hva.frame (hS3 sx0))) ?_;rintro _ G1 ⟨ga1,-,hw1⟩;obtain⟨aa,ac,rfl,sx1⟩:=sx0.got ga1 hw1;refine⟨sx1.old,?_⟩;refine Ad.mk (OP (up3 sx1) (hvb.frame (hS3 sx1))) ?_;rintro _ G2 ⟨ga2,-,hw2⟩;obtain⟨ba,bc,rfl,sx2⟩:=sx1.got ga2 hw2;refine⟨sx2.old,?_⟩;refine Ab1 sx2 0 1 CK rfl rfl hpb O0 (by omega) (by decide) fun a3 c3 G3 sx3 _=>(⟨sx3.old,?_⟩);obtain⟨sets,hsets⟩:∃sets,sets=Au a++Au b:=⟨_,rfl⟩;have hsl:(Au a).length+(Au b).length=sets.length:=by rw [hsets,AaS]
   rw [hsl,←hsets]at sx3;rw [hsl];refine Ad.mk (Mr (S:=Old G3) (fun k hk=>hk) (sx3.view 0 rfl) (by omega)) ?_;rintro _ G4 ⟨ga4,a4,c4,rfl,h4⟩;have sx4:=sx3.call ga4;refine⟨sx4.old,?_⟩;(conv=>whnf);refine⟨sx4.old,?_⟩;have hal:=reps_len sets;have hgen:=Zc ha hb;rw [←hsets]at hgen;have b1:=(st3.blk 0 rfl).agr sx4.old (st3.blk 0 rfl).lt;have b2:=(st3.blk 1 rfl).agr sx4.old (st3.blk 1 rfl).lt;have b3:=(st3.blk 2 rfl).agr sx4.old (st3.blk 2 rfl).lt;have cl:∀{p t:Nat} {l:List Value},Blk G4 p t l→AX G4 p 0 l:=fun h=>h.cells fun j v hv=>by rw [AbW];exact hv
   have hold:∀k,S k→Old G4 k:=fun k hk=>up3 sx4 k hk;have hbox:LV (Old G4) G4 pa pb va vb a b:=⟨b1.lt,b2.lt,cl b1,cl b2,(hva.frame (hS3 sx4)).mono hold,(hvb.frame (hS3 sx4)).mono hold⟩;refine Aw Tryz.underlying224 rfl (pkV (0,0)) P3 (pkL (0,0)) rfl (Ad.mk (RN (S:=Old G4) (l0:=(0,0)) (most:=n) (fun k hk=>hk) hbox b3.lt (cl b3) hf h4 hal sa sb hgen.beg hn1 hn2) ?_);rintro r G5 ⟨ga5,hr⟩;have sx5:=sx4.call ga5;have hfin:Agr (Old H) H G5:=st3.old.trans (sx5.old.mono fun k hk=>Aj st3.old hk);rw [show BC (BB sets)=E4 sets from rfl]at hr;have hdA:=hgen.detA hn1;have hpw:prW a b ((n:Int)).toNat=Dj n (Cj a b) (0,0):=by rw [AcK];rfl
   cases hd:Ep n (Cj a b) (E4 sets) (0,0)with
   | none=>
     rw [hd]at hr hdA;simp only at hr;subst hr;(conv=>whnf);refine⟨hfin,?_⟩;rw [if_neg (by omega),hpw,←hdA];rfl
   | some z=>
     obtain⟨F,rows⟩:=z;rw [hd]at hr hdA;obtain⟨v,rfl,hv⟩:=hr;obtain⟨hsd,hL,hN⟩:=Ab3 (fin:=fun x:Int×Int=>ends (BV a x.1) (BV b x.2)) hgen hn1 (by omega) hd;rw [if_pos hsd]at hv;(conv=>whnf);refine⟨hfin,?_⟩;rw [if_neg (by omega),hpw,←hdA];have hsz:=Bl st3.old;have hsz2:=Bl sx4.old;exact⟨v,_,rfl,hv.mono fun k hk=>⟨by omega,hk.2⟩,⟨BB sets,rows.map B9,F.map fun x=>ends (BV a x.1) (BV b x.2),by
      unfold Eb;rw [AbH,if_pos hsd]⟩,hL,hN⟩
def Mi(x y:Bool):Bool:=x&&y
theorem Yf(G:Aa)(x y:Bool):BX Tryz.prog 58 #[.bool x,.bool y] G (.bool (Mi x y)):=by
 refine Al.of_vc Tryz.func58 rfl (Tryz.call58 _) ?_;cases x<;>((conv=>whnf);exact⟨rfl,Agr.refl _ _⟩)
theorem Yb(G:Aa)(x y:Bool):BX Tryz.prog 60 #[.bool x,.bool y] G (.bool (ML x y)):=by
 refine Al.of_vc Tryz.func60 rfl (Tryz.call60 _) ?_;cases x<;>((conv=>whnf);exact⟨rfl,Agr.refl _ _⟩)
theorem Ld{H':Aa}{r:Value}(h:KS a b ends m H H' r):∃x y,r= .tuple #[x,y]:=by
 unfold KS at h;split at h
 ·exact⟨_,_,h⟩
 ·split at h
  ·exact⟨_,_,h⟩
  ·obtain⟨v,A,h,-⟩:=h;exact⟨_,_,h⟩
theorem Yg(hS:∀k,S k→k<H.size)(hva:Ba S H va a)(hvb:Ba S H vb b)(ha:Bz a)(hb:Bz b):
  Al Tryz.prog 21 #[va,vb,.int .i64 m] H fun r H'=>Agr (Old H) H H'∧KS a b Mi m H H' r:=by
 refine Al.of_vc Tryz.func21 rfl (Tryz.call21 _) (Ad.mk (Og hS hva hvb ha hb Yf) ?_);rintro r H1 ⟨ha1,hr⟩;obtain⟨x,y,rfl⟩:=Ld hr;(conv=>whnf);exact⟨ha1,hr⟩
theorem Yc(hS:∀k,S k→k<H.size)(hva:Ba S H va a)(hvb:Ba S H vb b)(ha:Bz a)(hb:Bz b):
  Al Tryz.prog 23 #[va,vb,.int .i64 m] H fun r H'=>Agr (Old H) H H'∧KS a b ML m H H' r:=by
 refine Al.of_vc Tryz.func23 rfl (Tryz.call23 _) (Ad.mk (Og hS hva hvb ha hb Yb) ?_);rintro r H1 ⟨ha1,hr⟩;obtain⟨x,y,rfl⟩:=Ld hr;(conv=>whnf);exact⟨ha1,hr⟩
end
end Go.Proofs.YtfbghcpdinlmcaaGreatDoor
namespace Go.Proofs.YtfbghcpdinlmcaaGreatDoor
open Go.VC
theorem GK{S:Nat→Prop}{H:Aa}{v:Value}{a:NfM}{b:Int}(h:NfV S H v a)(hb:b<1∨4096<b):
  BX Tryz.prog 38 #[v,.int .i64 b] H (.tuple #[.pointer none,.int .i64 2]):=by
 refine Al.of_vc Tryz.func38 rfl (Tryz.call38 _) (Py h fun ea ec he0 h1=>?_);subst he0;intro p H1 hp hs1 hb1 ha1;have st1:=(St.nil H).box hp hs1 hb1 ha1;by_cases hl:b<1
 ·have d1:decide (b<(1:Int))=true:=decide_eq_true hl;(conv=>whnf);rw [d1];(conv=>whnf);exact⟨rfl,st1.old⟩
 ·have d1:decide (b<(1:Int))=false:=decide_eq_false hl;have d2:decide ((4096:Int)<b)=true:=decide_eq_true (by omega);(conv=>whnf);rw [d1];(conv=>whnf);rw [d2];(conv=>whnf);exact⟨rfl,st1.old⟩
end Go.Proofs.YtfbghcpdinlmcaaGreatDoor
namespace Go.Proofs.YtfbghcpdinlmcaaGreatDoor
open Go.VC
attribute [local irreducible] Bo B0 Bg
noncomputable def F5(a:NfM)(b:Int):Except Int (List (List Int)):=if b<1∨4096<b then .error 2 else match HG a b.toNat with
 | none=>.error 40
 | some F=>.ok F
theorem Qo{a:NfM}{b:Int}(h:b<1∨4096<b):F5 a b= .error 2:=by unfold F5;rw [if_pos h]
theorem OS{a:NfM}{b:Nat}(h1:1≤b)(h2:b≤4096):F5 a (b:Int)=match HG a b with
 | none=>.error 40
 | some F=>.ok F:=by
 unfold F5;rw [if_neg (by omega),AcK]
theorem Mw{a:NfM}{b e:Int}(h:F5 a b= .error e):e≠0∧0≤e∧e≤40:=by
 unfold F5 at h;split at h
 ·injection h with h;omega
 ·split at h
  ·injection h with h;omega
  ·cases h
theorem SU{a:NfM}{b:Int}{F:List (List Int)}(h:F5 a b= .ok F):∃m:Nat,b=(m:Int)∧1≤m∧m≤4096∧HG a m=some F:=by
 unfold F5 at h;split at h
 ·cases h
 ·rename_i hb;refine⟨b.toNat,by omega,by omega,by omega,?_⟩;split at h
  ·cases h
  ·rename_i F' hF;injection h with h
   rw [hF,h]
theorem V7{a:NfM}{m:Nat}{F:List (List Int)}(hm:1≤m)(h:HG a m=some F):1≤F.length∧F.length≤m∧F.Nodup∧F[0]? =some (F3 a):=HQ hm h
end Go.Proofs.YtfbghcpdinlmcaaGreatDoor
namespace Go.Proofs.YtfbghcpdinlmcaaGreatDoor
open Go.VC
attribute [local irreducible] Bo B0 Bg Dj
section
variable{K:Type} [DecidableEq K]{step:K→Nat→K}{fin:K→Bool}{F:List K}
def paF(step:K→Nat→K)(fin:K→Bool)(F:List K):PA:=⟨F.length,fun q b=>((F[q]?).bind fun x=>F.findIdx? (·=step x b)).getD 0,fun q=>((F[q]?).map fin).getD false⟩
structure Mc(step:K→Nat→K)(F:List K):Prop where
 nd:F.Nodup
 pos:1≤F.length
 cl:∀x∈F,∀b,b<256→step x b∈F
omit [DecidableEq K]in
theorem Wi{F:List K}(hn:F.Nodup){t u:Nat}{x:K}(k1:F[t]? =some x)(k2:F[u]? =some x):t=u:=by
 obtain⟨ht,e3⟩:=AaT.1 k1;obtain⟨hu,e4⟩:=AaT.1 k2;rcases AdJ t u with h | h | h
 ·exact absurd (e3.trans e4.symm) (Ac5.1 hn t u ht hu h)
 ·exact h
 ·exact absurd (e4.trans e3.symm) (Ac5.1 hn u t hu ht h)
theorem Qt{x:K}(h:x∈F):∃i,F.findIdx? (·=x)=some i∧F[i]? =some x:=by
 cases hf:F.findIdx? (·=x)with
 | none=>rw [Ad3]at hf;have:=hf x h;simp at this
 | some i=>
   obtain⟨hi,h1,-⟩:=AcT.1 hf;exact⟨i,rfl,by rw [AcQ hi];simpa using h1⟩
theorem Sn(h:Mc step F){q b:Nat}{x:K}(hx:F[q]? =some x)(hb:b<256):F[(paF step fin F).st q b]? =some (step x b):=by
 obtain⟨i,h1,h2⟩:=Qt (h.cl x (Ab8 hx) b hb);have e:(paF step fin F).st q b=i:=by
  show((F[q]?).bind fun x=>F.findIdx? (·=step x b)).getD 0=i;rw [hx];show(F.findIdx? (·=step x b)).getD 0=i;rw [h1];rfl
 rw [e];exact h2
theorem Sm{q:Nat}{x:K}(hx:F[q]? =some x):(paF step fin F).fi q=fin x:=by
 show((F[q]?).map fin).getD false=fin x;rw [hx];rfl
theorem Wo(h:Mc step F):(paF step fin F).Ok:=⟨h.pos,fun q b hq hb=>by
 obtain⟨x,hx⟩:=Ae (l:=F) (k:=q) hq;exact(AaT.1 (Sn (fin:=fin) h hx hb)).1⟩
theorem P1(h:Mc step F):∀(w:List Nat) (q:Nat) (x:K),Ch w→F[q]? =some x→F[(paF step fin F).run q w]? =some (w.foldl step x)
 | [],q,x,_,hx=>hx
 | b::w,q,x,hw,hx=>by
   rw [PA.run_cons];exact P1 h w _ _ (fun c hc=>hw c (AcL _ hc)) (Sn h hx (hw b (by simp)))
theorem LR{most:Nat}{start:K}(hm:1≤most)(h:Dj most step start=some F):Mc step F∧F[0]? =some start∧F.length≤most:=by
 obtain⟨h1,h2,h3,h4⟩:=HQ hm h;refine⟨⟨h3,h1,?_⟩,h4,h2⟩;unfold Dj at h;cases hd:Ep most step (Ac3 256) start with
 | none=>rw [hd]at h;cases h
 | some z=>
   obtain⟨G,rows⟩:=z;rw [hd]at h;simp only [AcW,Option.some.injEq]at h;subst h;have hk:=Ik hm G.length G rows (JL hm hd) fun j hj=>hj;intro x hx b hb;obtain⟨q,hq⟩:=AcX hx;obtain⟨row,hrow⟩:=Ae (l:=rows) (k:=q) (by rw [hk.rl];exact(AaT.1 hq).1);have hcl:=hk.cols row (Ab8 hrow);obtain⟨t,ht⟩:=Ae (l:=row) (k:=b) (by rw [hcl];simpa using hb);exact Ab8 (hk.ok q b row b t x hrow (List.getElem?_range hb) ht hq)
theorem Q6{K':Type}{step':K'→Nat→K'}{fin':K'→Bool}{f:K→K'}(h:Mc step F)(hinj:∀x∈F,∀y∈F,f x=f y→x=y)(hst:∀x∈F,∀b,b<256→step' (f x) b=f (step x b))(hfi:∀x∈F,fin' (f x)=fin x){s1:Int→Nat→Int}{f1:Int→Bool}
  (hl1:∀(q b:Nat) (x:K'),(F.map f)[q]? =some x→b<256→∃t:Nat,s1 (q:Int) b=(t:Int)∧(F.map f)[t]? =some (step' x b)) (hl2:∀(q:Nat) (x:K'),(F.map f)[q]? =some x→f1 (q:Int)=fin' x):
  (∀q b:Nat,q<F.length→b<256→s1 (q:Int) b=((paF step fin F).st q b:Int))∧∀q:Nat,q<F.length→f1 (q:Int)=(paF step fin F).fi q:=by
 constructor
 ·intro q b hq hb;obtain⟨x,hx⟩:=Ae (l:=F) (k:=q) hq;have hxm:=Ab8 hx;obtain⟨t,e1,e2⟩:=hl1 q b (f x) (by rw [Ac8,hx];rfl) hb;rw [Ac8]at e2;obtain⟨y,hy,e3⟩:=Option.map_eq_some_iff.1 e2;rw [hst x hxm b hb]at e3;have e4:y=step x b:=hinj y (Ab8 hy) _ (h.cl x hxm b hb) e3;rw [e4]at hy;rw [e1,Wi h.nd hy (Sn (fin:=fin) h hx hb)]
 ·intro q hq;obtain⟨x,hx⟩:=Ae (l:=F) (k:=q) hq;rw [hl2 q (f x) (by rw [Ac8,hx];rfl),hfi x (Ab8 hx),Sm hx]
end
structure EE(o:Option AM)(d:PA):Prop where
 n:stN o=d.n
 st:∀q b:Nat,q<d.n→b<256→Bs o (q:Int) b=(d.st q b:Int)
 fi:∀q:Nat,q<d.n→BV o (q:Int)=d.fi q
theorem EE.run{o:Option AM}{d:PA}(h:EE o d)(hd:d.Ok):∀(w:List Nat) (q:Nat),q<d.n→Ch w→w.foldl (Bs o) (q:Int)=(d.run q w:Int)
 | [],q,_,_=>rfl
 | b::w,q,hq,hw=>by
   have hb:=hw b (by simp);rw [AcO,h.st q b hq hb,PA.run_cons];exact EE.run h hd w _ (hd.cl q b hq hb) fun c hc=>hw c (AcL _ hc)
noncomputable def GZ(b:Int)(a:NfM):Except Int PA:=match F5 a b with
 | .error e=>.error e
 | .ok F=>.ok (paF (AY a) (fun X=>decide (a.fin∈X)) F)
def HF(d1 d2:PA)(x:Nat×Nat)(c:Nat):Nat×Nat:=if c<256 then(d1.st x.1 c,d2.st x.2 c)else x
def prN(d1 d2:PA)(m:Nat):Option (List (Nat×Nat)):=Dj m (HF d1 d2) (0,0)
def XC(ends:Bool→Bool→Bool)(d1 d2:PA)(x:Nat×Nat):Bool:=ends (d1.fi x.1) (d2.fi x.2)
def prX(b:Int)(ends:Bool→Bool→Bool)(d1 d2:PA):Except Int PA:=if b<1∨4096<b then .error 2 else match prN d1 d2 b.toNat with
 | none=>.error 40
 | some F=>.ok (paF (HF d1 d2) (XC ends d1 d2) F)
noncomputable def Er(b:Int)(x:Nat×Except Int BR):Nat×Except Int PA:=By x fun A s=>if 65536<A.u then(s,.error 40)else match GZ b ⟨A.u,A.p,A.q,A.es⟩with
 | .error e=>(s,.error e)
 | .ok d=>(max s d.n,.ok d)
noncomputable def C4(b:Int)(ends:Bool→Bool→Bool)(f g:Nat→Nat×Except Int PA)(s:Nat):Nat×Except Int NfM:=By (f s) fun d1 s1=>By (g s1) fun d2 s2=>match prX b ends d1 d2 with
 | .error e=>(s2,.error e)
 | .ok d=>(max s2 d.n,.ok (Ao d))
noncomputable def Bc(b:Int):ReM→Nat→Nat→Nat×Except Int BR
 | .eps,n,s=>(s,.ok ⟨n,n+1,2,[A9 n (n+1)]⟩)
 | .cls t,n,s=>(s,.ok ⟨n,n+1,2,[Cf n (n+1) t]⟩)
 | .cat x y,n,s=>By (Bc b x n s) fun A s1=>By (Bc b y (n+A.u) s1) fun C s2=>(s2,.ok (RG A C))
 | .alt x y,n,s=>By (Bc b x (n+1) s) fun A s1=>By (Bc b y (n+1+A.u) s1) fun C s2=>(s2,.ok (R2 n A C))
 | .star x,n,s=>By (Bc b x (n+1) s) fun A s1=>(s1,.ok (Nj n A))
 | .and_ x y,n,s=>C5 (C4 b Mi (fun s=>Er b (Bc b x 0 s)) (fun s=>Er b (Bc b y 0 s)) s) n
 | .minus x y,n,s=>C5 (C4 b ML (fun s=>Er b (Bc b x 0 s)) (fun s=>Er b (Bc b y 0 s)) s) n
noncomputable def KP(b:Int):ReM→Nat→Nat×Except Int NfM
 | .and_ x y,s=>C4 b Mi (fun s=>Er b (Bc b x 0 s)) (fun s=>Er b (Bc b y 0 s)) s
 | .minus x y,s=>C4 b ML (fun s=>Er b (Bc b x 0 s)) (fun s=>Er b (Bc b y 0 s)) s
 | _,s=>(s,.error 2)
noncomputable def AS(b:Int)(r:ReM)(s:Nat):Nat×Except Int PA:=Er b (Bc b r 0 s)
theorem DT(b:Int):∀(r:ReM) (n s:Nat),Bc b r n s=Bw (KP b) r n s
 | .eps,n,s=>rfl
 | .cls t,n,s=>rfl
 | .cat x y,n,s=>by
   simp only [Bc,Bw];rw [DT b x n s]
   congr 1
   funext A s1;rw [DT b y _ s1];rfl
 | .alt x y,n,s=>by
   simp only [Bc,Bw];rw [DT b x _ s]
   congr 1
   funext A s1;rw [DT b y _ s1];rfl
 | .star x,n,s=>by
   simp only [Bc,Bw];rw [DT b x _ s];rfl
 | .and_ x y,n,s=>rfl
 | .minus x y,n,s=>rfl
theorem OT{b:Int}{a:NfM}{d:PA}(h:GZ b a= .ok d):∃F,F5 a b= .ok F∧d=paF (AY a) (fun X=>decide (a.fin∈X)) F∧Mc (AY a) F∧F[0]? =some (F3 a)∧d.Ok∧(d.n:Int)≤b∧d.n≤4096:=by
 unfold GZ at h;cases hd:F5 a b with
 | error e=>rw [hd]at h;cases h
 | ok F=>
   rw [hd]at h;injection h with h
   obtain⟨m,rfl,h1,h2,h3⟩:=SU hd;obtain⟨h4,h5,h6⟩:=LR h1 h3;subst h;exact⟨F,rfl,rfl,h4,h5,Wo h4,by show(F.length:Int)≤(m:Int);omega,by show F.length≤4096;omega⟩
theorem Qq{b:Int}{a:NfM}{e:Int}(h:GZ b a= .error e):F5 a b= .error e∧e≠0:=by
 unfold GZ at h;cases hd:F5 a b with
 | error e'=>rw [hd]at h;injection h with h;subst h;exact⟨rfl,(Mw hd).1⟩
 | ok F=>rw [hd]at h;cases h
theorem Js{b:Int}{ends:Bool→Bool→Bool}{d1 d2 d:PA}(h:prX b ends d1 d2= .ok d):∃F,prN d1 d2 b.toNat=some F∧d=paF (HF d1 d2) (XC ends d1 d2) F∧Mc (HF d1 d2) F∧F[0]? =some (0,0)∧d.Ok∧(d.n:Int)≤b∧d.n≤4096∧1≤b∧b≤4096:=by
 unfold prX at h;split at h
 ·cases h
 ·rename_i hb;cases hd:prN d1 d2 b.toNat with
  | none=>rw [hd]at h;cases h
  | some F=>
    rw [hd]at h;injection h with h
    obtain⟨h4,h5,h6⟩:=LR (by omega) hd;subst h;exact⟨F,rfl,rfl,h4,h5,Wo h4,by show(F.length:Int)≤b;omega,by show F.length≤4096;omega,by omega,by omega⟩
theorem LO{b:Int}{ends:Bool→Bool→Bool}{d1 d2:PA}{e:Int}(h:prX b ends d1 d2= .error e):e=2∨e=40:=by
 unfold prX at h;split at h
 ·injection h with h;exact .inl h.symm
 ·cases hd:prN d1 d2 b.toNat with
  | none=>rw [hd]at h;injection h with h;exact .inr h.symm
  | some F=>rw [hd]at h;cases h
theorem PA.edges_len(d:PA)(h:d.n≤4096):(d.edgesTo d.n).length≤16785408:=by
 have h1:∀q k,(d.hopsTo q k).length≤k:=fun q k=>by
  unfold PA.hopsTo;have:=List.length_filterMap_le (fun t=>if(d.use t&&(d.set q t != 0#256))=true then some (Cf (d.place q) (d.place t) (d.set q t))else none) (Ac3 k);rwa [Ad1]at this
 have h2:∀q,(d.endE q).length≤1:=fun q=>by unfold PA.endE;split<;>simp
 have h3:∀k,(d.edgesTo k).length≤k*4097:=fun k=>by
  induction k with
  | zero=>simp [PA.edgesTo]
  | succ k ih=>
    have e:d.edgesTo (k+1)=d.edgesTo k++(if d.use k=true then d.hopsTo k d.n++d.endE k else []):=by
     unfold PA.edgesTo;rw [AdP,List.flatMap_append];simp
    rw [e,AaS];have:=h1 k d.n;have:=h2 k;have:(if d.use k=true then d.hopsTo k d.n++d.endE k else []).length≤4097:=by
     split
     ·rw [AaS];omega
     ·simp
    omega
 have:=h3 d.n;omega
theorem K7{d:PA}(h:d.n≤4096):(Ao d).edges.length≤33554432:=by
 unfold Ao;split
 ·exact Nat.le_trans (PA.edges_len d h) (by decide)
 ·simp
theorem Bu{σ α β:Type}{x:σ×Except Int α}{f:α→σ→σ×Except Int β}{s:σ}{e:Int}(h:By x f=(s,.error e)):x=(s,.error e)∨∃s1 a,x=(s1,.ok a)∧f a s1=(s,.error e):=by
 obtain⟨s1,r⟩:=x;cases r with
 | error e1=>
   have h:((s1,.error e1):σ×Except Int β)=(s,.error e):=h;cases h;exact .inl rfl
 | ok a=>exact .inr ⟨s1,a,rfl,h⟩
theorem Ki{b:Int}{ends:Bool→Bool→Bool}{f g:Nat→Nat×Except Int PA}{s s':Nat}{N:NfM}(h:C4 b ends f g s=(s',.ok N)):∃s1 d1 s2 d2 d,f s=(s1,.ok d1)∧g s1=(s2,.ok d2)∧prX b ends d1 d2= .ok d∧N=Ao d∧s'=max s2 d.n:=by
 obtain⟨s1,d1,h1,h2⟩:=Az h;obtain⟨s2,d2,h3,h4⟩:=Az h2;cases hp:prX b ends d1 d2 with
 | error e=>simp only [hp]at h4;cases h4
 | ok d=>simp only [hp]at h4;cases h4;exact⟨s1,d1,s2,d2,d,h1,h3,hp,rfl,rfl⟩
theorem OY{b:Int}{x:Nat×Except Int BR}{s':Nat}{d:PA}(h:Er b x=(s',.ok d)):∃s1 A,x=(s1,.ok A)∧A.u≤65536∧GZ b ⟨A.u,A.p,A.q,A.es⟩= .ok d∧s'=max s1 d.n:=by
 obtain⟨s1,A,h1,h2⟩:=Az h;split at h2
 ·cases h2
 ·rename_i hu;cases hp:GZ b ⟨A.u,A.p,A.q,A.es⟩with
  | error e=>simp only [hp]at h2;cases h2
  | ok d=>simp only [hp]at h2;cases h2;exact⟨s1,A,h1,by omega,hp,rfl⟩
theorem Rh(b:Int){ends:Bool→Bool→Bool}{f g:Nat→Nat×Except Int PA}{n s s':Nat}{e:Int}(hf:∀s s' e,f s=(s',.error e)→e≠0)(hg:∀s s' e,g s=(s',.error e)→e≠0)(h:C5 (C4 b ends f g s) n=(s',.error e)):e≠0:=by
 rcases Bu (show By _ _=_ from h)with h | ⟨s1,N,-,h⟩
 ·rcases Bu (show By _ _=_ from h)with h | ⟨s1,d1,-,h⟩
  ·exact hf _ _ _ h
  ·rcases Bu h with h | ⟨s2,d2,-,h⟩
   ·exact hg _ _ _ h
   ·split at h
    ·rename_i hp;cases h;rcases LO hp with h | h<;>omega
    ·cases h
 ·split at h
  ·cases h
  ·cases h;decide
mutual
theorem FH(b:Int):∀(r:ReM) (n s s':Nat) (e:Int),Bc b r n s=(s',.error e)→e≠0
 | .eps,n,s,s',e,h=>by cases h
 | .cls t,n,s,s',e,h=>by cases h
 | .cat x y,n,s,s',e,h=>by
   simp only [Bc]at h;rcases Bu h with h | ⟨s1,A,-,h⟩
   ·exact FH b x _ _ _ _ h
   ·rcases Bu h with h | ⟨s2,C,-,h⟩
    ·exact FH b y _ _ _ _ h
    ·cases h
 | .alt x y,n,s,s',e,h=>by
   simp only [Bc]at h;rcases Bu h with h | ⟨s1,A,-,h⟩
   ·exact FH b x _ _ _ _ h
   ·rcases Bu h with h | ⟨s2,C,-,h⟩
    ·exact FH b y _ _ _ _ h
    ·cases h
 | .star x,n,s,s',e,h=>by
   simp only [Bc]at h;rcases Bu h with h | ⟨s1,A,-,h⟩
   ·exact FH b x _ _ _ _ h
   ·cases h
 | .and_ x y,n,s,s',e,h=>by
   simp only [Bc]at h;exact Rh b (fun s s' e=>BI b x s s' e) (fun s s' e=>BI b y s s' e) h
 | .minus x y,n,s,s',e,h=>by
   simp only [Bc]at h;exact Rh b (fun s s' e=>BI b x s s' e) (fun s s' e=>BI b y s s' e) h
theorem BI(b:Int):∀(r:ReM) (s s':Nat) (e:Int),AS b r s=(s',.error e)→e≠0:=fun r s s' e h=>by
 rcases Bu (show By _ _=_ from h)with h | ⟨s1,A,-,h⟩
 ·exact FH b r _ _ _ _ h
 ·split at h
  ·cases h;decide
  ·cases hp:GZ b ⟨A.u,A.p,A.q,A.es⟩with
   | error e=>simp only [hp]at h;cases h;exact(Qq hp).2
   | ok d=>simp only [hp]at h;cases h
end
end Go.Proofs.YtfbghcpdinlmcaaGreatDoor
