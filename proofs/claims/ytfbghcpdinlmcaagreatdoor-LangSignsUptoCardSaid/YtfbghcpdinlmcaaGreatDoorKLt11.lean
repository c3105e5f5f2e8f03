/- Parts of the proof: PLk10, PMb4, PMb5, PMb6, PMb7, PLs4, PPow6, PLaid6, PPow8, VOpen, POpenS, POpen5, VTop, PTabIn -/
import Derived.Test.YtfbghcpdinlmcaaGreatDoorKLt10
import Derived.Test.YtfbghcpdinlmcaaGreatDoorKLt9
import Derived.Test.YtfbghcpdinlmcaaGreatDoorRows
import Derived.Test.YtfbghcpdinlmcaaGreatDoorKLt2
import Derived.Lib.LaidTab
import Derived.Test.YtfbghcpdinlmcaaGreatDoorKLt4
import Derived.OpenShut
import Derived.ChangeSame
import Derived.Deep.DeepHandedRow
import Derived.ProofKit
import Derived.Test.YtfbghcpdinlmcaaGreatDoorKLt1
import Derived.Test.YtfbghcpdinlmcaaGreatDoorKLt3
import Derived.JoinedCond
import Derived.WideKeyArgs
set_option maxHeartbeats 64000000
open Bool renaming eq_iff_iff → AbH, and_eq_true → AbX
open Int renaming natCast_mul → AaV
open List renaming take_length → AaS, mem_cons_of_mem → AaT, mem_append_right → AbM, mem_append_left → AbV, mem_singleton → AbW, nodup_cons → AbY, append_nil → Ac3, replicate → Ac4, cons → Ac5, map_cons → Ac8
open Nat renaming zero_add → AaU, mul_le_mul → Ab8, le_refl → AbD
open Option renaming some → AbK
set_option linter.unusedVariables false
set_option linter.unusedSimpArgs false
set_option maxRecDepth 100000
namespace Go.Proofs.YtfbghcpdinlmcaaGreatDoor
open Go.VC
attribute [local irreducible] Bo B0 Bg Dj
theorem Db{σ α β:Type}{x x':σ×Except Int α}{f:α→σ→σ×Except Int β}(h:x.2=x'.2)(hf:∀a s s',(f a s).2=(f a s').2):(By x f).2=(By x' f).2:=by
 obtain⟨s,r⟩:=x;obtain⟨s',r'⟩:=x';have h:r=r':=h;subst h;cases r with
 | error e=>rfl
 | ok a=>exact hf a s s'
theorem HV{b:Int}{x x':Nat×Except Int BR}(h:x.2=x'.2):(Er b x).2=(Er b x').2:=
 Db h fun A s s'=>by
  split
  ·rfl
  ·cases GZ b ⟨A.u,A.p,A.q,A.es⟩<;>rfl
theorem Oo{b:Int}{ends:Bool→Bool→Bool}{f g:Nat→Nat×Except Int PA}(hf:∀s s',(f s).2=(f s').2)(hg:∀s s',(g s).2=(g s').2)(s s':Nat):(C4 b ends f g s).2=(C4 b ends f g s').2:=
 Db (hf s s') fun d1 s s'=>Db (hg s s') fun d2 s s'=>by cases prX b ends d1 d2<;>rfl
theorem Ot{x x':Nat×Except Int NfM}{n:Nat}(h:x.2=x'.2):(C5 x n).2=(C5 x' n).2:=
 Db h fun a s s'=>by split<;>rfl
theorem Dr(b:Int):∀(r:ReM) (n s s':Nat),(Bc b r n s).2=(Bc b r n s').2
 | .eps,n,s,s'=>rfl
 | .cls t,n,s,s'=>rfl
 | .cat x y,n,s,s'=>by
   simp only [Bc];exact Db (Dr b x n s s') fun A s s'=>Db (Dr b y _ s s') fun C s s'=>rfl
 | .alt x y,n,s,s'=>by
   simp only [Bc];exact Db (Dr b x _ s s') fun A s s'=>Db (Dr b y _ s s') fun C s s'=>rfl
 | .star x,n,s,s'=>by
   simp only [Bc];exact Db (Dr b x _ s s') fun A s s'=>rfl
 | .and_ x y,n,s,s'=>by
   simp only [Bc];exact Ot (Oo (fun s s'=>HV (Dr b x 0 s s')) (fun s s'=>HV (Dr b y 0 s s')) s s')
 | .minus x y,n,s,s'=>by
   simp only [Bc];exact Ot (Oo (fun s s'=>HV (Dr b x 0 s s')) (fun s s'=>HV (Dr b y 0 s s')) s s')
theorem RF(b:Int)(r:ReM)(s s':Nat):(AS b r s).2=(AS b r s').2:=HV (Dr b r 0 s s')
theorem Uf{b b':Int}{a:NfM}{d:PA}(hb:b≤b')(hb':b'≤4096)(h:GZ b a= .ok d):GZ b' a= .ok d:=by
 obtain⟨F,h1,rfl,-,-,-,-,-⟩:=OT h;obtain⟨m,rfl,hm1,hm2,hd⟩:=SU h1;obtain⟨k1,k2,-,-⟩:=V7 hm1 hd;have e:F5 a b'= .ok F:=by
  unfold F5;rw [if_neg (by omega)];have:HG a b'.toNat=some F:=NG hm1 hd (by omega);rw [this]
 unfold GZ;rw [e]
theorem Wv{b b':Int}{ends:Bool→Bool→Bool}{d1 d2 d:PA}(hb:b≤b')(hb':b'≤4096)(h:prX b ends d1 d2= .ok d):prX b' ends d1 d2= .ok d:=by
 obtain⟨F,h1,rfl,-,-,-,-,-,h2,h3⟩:=Js h;unfold prX;rw [if_neg (by omega)];obtain⟨k1,k2,-,-⟩:=HQ (by omega) h1;have:prN d1 d2 b'.toNat=some F:=NG (by omega) h1 (by omega);rw [this]
theorem GN{b b':Int}{x x':Nat×Except Int BR}{s:Nat}{d:PA}(hb:b≤b')(hb':b'≤4096)(h:Er b x=(s,.ok d))(hx:∀s A,x=(s,.ok A)→x'=(s,.ok A)):Er b' x'=(s,.ok d):=by
 obtain⟨s1,A,h1,h2,h3,rfl⟩:=OY h;unfold Er;rw [AU (hx _ _ h1),if_neg (by omega),Uf hb hb' h3]
theorem Nc{b b':Int}{ends:Bool→Bool→Bool}{f g f' g':Nat→Nat×Except Int PA}{s s':Nat}{N:NfM}(hb:b≤b')(hb':b'≤4096)(hf:∀s s' d,f s=(s',.ok d)→f' s=(s',.ok d))(hg:∀s s' d,g s=(s',.ok d)→g' s=(s',.ok d))(h:C4 b ends f g s=(s',.ok N)):C4 b' ends f' g' s=(s',.ok N):=by
 obtain⟨s1,d1,s2,d2,d,k1,k2,k3,rfl,rfl⟩:=Ki h;unfold C4;rw [AU (hf _ _ _ k1),AU (hg _ _ _ k2),Wv hb hb' k3]
theorem Nh{σ:Type}{x x':σ×Except Int NfM}{n:Nat}{s:σ}{A:BR}(h:C5 x n=(s,.ok A))(hx:∀s N,x=(s,.ok N)→x'=(s,.ok N)):C5 x' n=(s,.ok A):=by
 obtain⟨s1,N,h1,h2⟩:=Az h;unfold C5;rw [AU (hx _ _ h1)];exact h2
theorem CI{b b':Int}(hb:b≤b')(hb':b'≤4096):∀(r:ReM) (n s s':Nat) (A:BR),Bc b r n s=(s',.ok A)→Bc b' r n s=(s',.ok A)
 | .eps,n,s,s',A,h=>h
 | .cls t,n,s,s',A,h=>h
 | .cat x y,n,s,s',A,h=>by
   simp only [Bc]at h ⊢;obtain⟨s1,A1,h1,h2⟩:=Az h;obtain⟨s2,A2,h3,h4⟩:=Az h2;rw [AU (CI hb hb' x _ _ _ _ h1),AU (CI hb hb' y _ _ _ _ h3)];exact h4
 | .alt x y,n,s,s',A,h=>by
   simp only [Bc]at h ⊢;obtain⟨s1,A1,h1,h2⟩:=Az h;obtain⟨s2,A2,h3,h4⟩:=Az h2;rw [AU (CI hb hb' x _ _ _ _ h1),AU (CI hb hb' y _ _ _ _ h3)];exact h4
 | .star x,n,s,s',A,h=>by
   simp only [Bc]at h ⊢;obtain⟨s1,A1,h1,h2⟩:=Az h;rw [AU (CI hb hb' x _ _ _ _ h1)];exact h2
 | .and_ x y,n,s,s',A,h=>by
   simp only [Bc]at h ⊢;exact Nh h fun s N hN=>Nc hb hb' (fun s s' d hd=>GN hb hb' hd fun s A hA=>CI hb hb' x _ _ _ _ hA) (fun s s' d hd=>GN hb hb' hd fun s A hA=>CI hb hb' y _ _ _ _ hA) hN
 | .minus x y,n,s,s',A,h=>by
   simp only [Bc]at h ⊢;exact Nh h fun s N hN=>Nc hb hb' (fun s s' d hd=>GN hb hb' hd fun s A hA=>CI hb hb' x _ _ _ _ hA) (fun s s' d hd=>GN hb hb' hd fun s A hA=>CI hb hb' y _ _ _ _ hA) hN
theorem KU{b b':Int}(hb:b≤b')(hb':b'≤4096){r:ReM}{s s':Nat}{d:PA}(h:AS b r s=(s',.ok d)):AS b' r s=(s',.ok d):=
 GN hb hb' h fun s A hA=>CI hb hb' r _ _ _ _ hA
theorem NR{d:PA}(h:d.Ok)(hn:d.n≤65535)(hu:d.use 0=true){w:List Nat}(hw:Ch w){x:Int}:x∈HJ (Ao d) w↔(d.use (d.run 0 w)=true∧x=(d.place (d.run 0 w):Int))∨(x=(d.count:Int)∧d.fi (d.run 0 w)=true):=by
 obtain⟨h1,h2,h3⟩:=I8 hn;have e:Ao d=⟨d.count+1,0,d.count,d.edgesTo d.n⟩:=if_pos hu;rw [Ii];constructor
 ·intro hr;have hp:=IC (l:=w) (AbD _) x (by rw [AaS];exact hr);rw [e]at hp;obtain⟨-,⟨q,hq,e1,e2⟩ | ⟨e1,e2⟩⟩:=PA.loose_inv hu hp
  ·rw [AaS]at e2;rw [e2];exact .inl ⟨hq,e1⟩
  ·rw [AaS]at e2;exact .inr ⟨e1,e2⟩
 ·intro hx;have hrl:=PA.run_lt h w 0 h.pos hw;have hl:d.Live (d.run 0 w):=by
   rcases hx with⟨k,-⟩ | ⟨-,k⟩
   ·exact PA.use_iff.1 k
   ·exact .fin hrl k
  have p1:=PA.loose_path h (l:=w) w 0 0 h.pos hw rfl hl;have p0:d.place 0=0:=rfl;have p3:Pth (Ao d).edges w (Ao d).start 0 x w.length:=by
   rw [e];rcases hx with⟨k,rfl⟩ | ⟨rfl,k⟩
   ·rw [AaU]at p1;exact p1
   ·have he:A9 (d.place (d.run 0 w)) d.count∈d.edgesTo d.n:=PA.mem_edges.2 ⟨_,PA.use_iff.2 hl,.inr ⟨k,rfl⟩⟩;have p2:=p1.trans (Pth.one (l:=w) (i:=0+w.length) he);rw [AaU]at p2;exact p2
  have:=(LP h1 (fun e he=>(h3 e he).2) p3).2;rwa [AaS]at this
theorem RX{d:PA}(h:d.Ok)(hn:d.n≤65535)(hu:d.use 0=true){w v:List Nat}(hw:Ch w)(hv:Ch v)(e:d.run 0 w=d.run 0 v):HJ (Ao d) w=HJ (Ao d) v:=
 Ni (M9 _) (M9 _) fun x=>by
  show x∈HJ (Ao d) w↔x∈HJ (Ao d) v;rw [NR h hn hu hw,NR h hn hu hv,e]
theorem Mx{a:NfM}{most N:Nat}(hm:1≤most)(hN:N≤most)(key:∀L:List (List Int),L.Nodup→(∀X∈L,∃w,Ch w∧X=HJ a w)→L.length≤N):∃F,HG a most=some F:=by
 cases hd:HG a most with
 | some F=>exact⟨F,rfl⟩
 | none=>
   exfalso;have e:=Qp (most:=most) (step:=AY a) (step':=fun x b=>if b<256 then AY a x b else x) (start:=F3 a) (f:=id) (I:=fun _=>True) (fun _ _ _ _ e=>e) trivial fun x b _ hb=>⟨trivial,by simp [hb]⟩;have hd':Dj most (AY a) (F3 a)=none:=hd;rw [hd']at e;have e2:Dj most (fun x b=>if b<256 then AY a x b else x) (F3 a)=none:=e.symm;unfold Dj at e2;rw [Option.map_eq_none_iff]at e2;obtain⟨L,h1,h2,h3⟩:=DZ (P:=fun X=>∃w,Ch w∧X=HJ a w) hm ⟨[],fun _ h=>absurd h (by simp),rfl⟩ (fun X b ⟨w,hw,hX⟩=>by
    split
    ·rename_i hb;refine⟨w++[b],fun c hc=>?_,?_⟩
     ·rcases List.mem_append.1 hc with hc | hc
      ·exact hw c hc
      ·rw [AbW]at hc;omega
     ·have e:(fun q=>q∈HJ a w)=KF a w:=funext fun q=>propext (Ii a _ q);rw [hX];unfold AY;rw [e,←ID];rfl
    ·exact⟨w,hw,hX⟩) (List.range 256) most e2
   have:=key L h1 h3;omega
theorem Uq{d:PA}(h:d.Ok)(hn:d.n≤4096):∃d',GZ 4096 (Ao d)= .ok d':=by
 have hF:∃F,HG (Ao d) 4096=some F:=by
  by_cases hu:d.use 0=true
  ·refine Mx (N:=d.n) (by decide) hn fun L h1 h2=>?_
   classical
   have hch:∀X,∃q:Nat,X∈L→q<d.n∧∃w,Ch w∧X=HJ (Ao d) w∧d.run 0 w=q:=fun X=>by
    by_cases hX:X∈L
    ·obtain⟨w,hw,e⟩:=h2 X hX;exact⟨d.run 0 w,fun _=>⟨PA.run_lt h w 0 h.pos hw,w,hw,e,rfl⟩⟩
    ·exact⟨0,fun h=>absurd h hX⟩
   obtain⟨f,hf⟩:=Classical.axiomOfChoice hch;have hnd:(L.map f).Nodup:=by
    have:∀M:List (List Int),M.Nodup→(∀X∈M,X∈L)→(M.map f).Nodup:=by
     intro M
     induction M with
     | nil=>intro _ _;exact List.nodup_nil
     | cons X M ih=>
       intro hM hs;obtain⟨k1,k2⟩:=AbY.1 hM;rw [Ac8,AbY];refine⟨fun hm=>?_,ih k2 fun Y hY=>hs Y (AaT _ hY)⟩;obtain⟨Y,hY,e⟩:=List.mem_map.1 hm;obtain⟨-,w,hw,ew,rw_⟩:=hf X (hs X (by simp));obtain⟨-,v,hv,ev,rv⟩:=hf Y (hs Y (AaT _ hY));have:X=Y:=by rw [ew,ev];exact RX h (by omega) hu hw hv (by rw [rw_,rv,e])
       exact k1 (this ▸ hY)
    exact this L h1 fun X hX=>hX
   have:=Wh d.n (L.map f) hnd fun q hq=>by
    obtain⟨X,hX,rfl⟩:=List.mem_map.1 hq;exact(hf X hX).1
   rwa [List.length_map]at this
  ·have e:Ao d=⟨2,0,1,[]⟩:=if_neg hu;refine Mx (N:=2) (by decide) (by decide) fun L h1 h2=>?_;have:=PF (a:=L) (b:=[HJ (Ao d) [],[]]) h1 fun X hX=>by
    obtain⟨w,hw,rfl⟩:=h2 X hX;cases w with
    | nil=>simp
    | cons b w=>
      refine AaT _ (AbW.2 ?_);have key:∀x,¬x∈HJ (Ao d) (b::w):=fun x hx=>by
       rw [Ii]at hx;have hp:=IC (l:=b::w) (AbD _) x (by rw [AaS];exact hx);rw [e]at hp;have k2:∀q j,Pth [] (b::w) 0 0 q j→j=0:=by
        intro q j hp;cases hp with
        | refl=>rfl
        | sil _ h=>cases h
        | eat _ h=>cases h
       have:=k2 _ _ hp;simp at this
      exact List.eq_nil_iff_forall_not_mem.2 key
   simpa using this
 obtain⟨F,hF⟩:=hF;refine⟨paF (AY (Ao d)) (fun X=>decide ((Ao d).fin∈X)) F,?_⟩;unfold GZ F5;rw [if_neg (by decide)];have:HG (Ao d) (4096:Int).toNat=some F:=hF;rw [this]
theorem UI(d:PA):(Ao d).edges.map (shE ((0:Nat):Int))=(Ao d).edges:=by
 have key:∀e∈(Ao d).edges,shE ((0:Nat):Int) e=e:=by
  unfold Ao;split
  ·intro e he;obtain⟨q,hq,⟨t,h4,h5,rfl⟩ | ⟨h4,rfl⟩⟩:=PA.mem_edges.1 he
   ·simp [shE,Cf]
   ·simp [shE,A9]
  ·intro e he;cases he
 exact(List.map_congr_left key).trans (List.map_id _)
theorem Yz{r1 r2:ReM}{d1 d2 d:PA}{m1 m2:Nat}(ends:Bool→Bool→Bool){r:ReM}(hr:∀s,Bc 4096 r 0 s=C5 (C4 4096 ends (fun s=>AS 4096 r1 s) (fun s=>AS 4096 r2 s) s) 0)(h1:AS 300 r1 0=(m1,.ok d1))(h2:AS 300 r2 0=(m2,.ok d2))(hp:prX 4096 ends d1 d2= .ok d):∃s' d',AS 4096 r 0=(s',.ok d'):=by
 have g1:=KU (b':=4096) (by decide) (by decide) h1;have g2:∃s2,AS 4096 r2 m1=(s2,.ok d2):=by
  have:=RF 4096 r2 m1 0;rw [KU (b':=4096) (by decide) (by decide) h2]at this;exact⟨(AS 4096 r2 m1).1,Prod.ext rfl this⟩
 obtain⟨s2,g2⟩:=g2;obtain⟨-,-,-,-,-,hok,-,hn4,-,-⟩:=Js hp;have hcn:=PA.count_le (d:=d);have hs:C4 4096 ends (fun s=>AS 4096 r1 s) (fun s=>AS 4096 r2 s) 0=(max s2 d.n,.ok (Ao d)):=by
  unfold C4;rw [AU g1,AU g2,hp]
 have hw:=Q8 (d:=d) (by omega);obtain⟨e1,e2⟩:=NS d;have hpx:Bc 4096 r 0 0=(max s2 d.n,.ok ⟨0+(Ao d).start.toNat,0+(Ao d).fin.toNat,(Ao d).st.toNat,(Ao d).edges.map (shE ((0:Nat):Int))⟩):=by
  rw [hr];unfold C5;rw [AU hs,if_pos hw]
 have hst:(Ao d).st=(((Ao d).st.toNat:Nat):Int)∧(Ao d).st.toNat≤65536:=by
  unfold Ao;split
  ·exact⟨by show(d.count:Int)+1=(((d.count:Int)+1).toNat:Int);omega,by show((d.count:Int)+1).toNat≤_;omega⟩
  ·exact⟨rfl,by decide⟩
 obtain⟨d',hd'⟩:=Uq hok hn4;refine⟨max (max s2 d.n) d'.n,d',?_⟩;unfold AS Er;rw [AU hpx,if_neg (by dsimp only;omega)];dsimp only;rw [UI,AaU,AaU,←hst.1,←e1,←e2,show(NfM.mk (Ao d).st (Ao d).start (Ao d).fin (Ao d).edges)=Ao d from rfl,hd']
end Go.Proofs.YtfbghcpdinlmcaaGreatDoor
namespace Go.Proofs.YtfbghcpdinlmcaaGreatDoor
open Go.VC Go.Lib
abbrev rowV(nb L:Nat):Value:=.slice (some ⟨nb,0,none⟩) (L+1) (L+1)
structure MkRow(mb:Nat)(nbs:List Nat)(L N:Nat)(H:Aa):Prop where
 top:Blk H mb 267 (nbs.map (rowV · L)++Ac4 (N - nbs.length) (.slice none 0 0))
 rows:∀nb∈nbs,Blk H nb 36 (Ac4 (L+1) (.slice none 0 0))
 nd:nbs.Nodup
 ntop:mb∉nbs
section
variable{mb L ob x:Nat}{nbs:List Nat}{m:Nat→Nat→Option Nat}{R:Nat→Nat→List Bool}{ps:List Pc}{xs:List Bool}{d:RnM}
end
noncomputable def Lz(l:List Nat)(r:ReM):Bool:= @decide (Mt l r 0 l.length) (Classical.propDecidable _)
theorem Fi(l:List Nat)(r:ReM):Lz l r=true↔Mt l r 0 l.length:= @decide_eq_true_iff _ (Classical.propDecidable _)
end Go.Proofs.YtfbghcpdinlmcaaGreatDoor
namespace Go.Proofs.YtfbghcpdinlmcaaGreatDoor
open Go.VC
attribute [local irreducible] Bo B0 Bg Dj
theorem Of{a b:Option AM}{d1 d2:PA}{ends:Bool→Bool→Bool}(ha:EE a d1)(hb:EE b d2)(hma:Bz a)(hmb:Bz b)(k1:d1.Ok)(k2:d2.Ok)(h:d1.n*d2.n≤4096):∃d,prX 4096 ends d1 d2= .ok d:=by
 unfold prX;rw [if_neg (by decide)];cases hp:prN d1 d2 (4096:Int).toNat with
 | some F=>exact⟨_,rfl⟩
 | none=>
   have e:=T9 ha hb k1 k2 (4096:Int).toNat;rw [hp]at e;have:=Wu hma hmb (most:=4096) (by decide) e.symm;rw [ha.n,hb.n]at this;omega
theorem N8{r:ReM}{b:Int}{H H':Aa}{R:Value}(h:match C6 b r with
   | .error e=>R= .tuple #[.pointer none,.int .i64 e]
   | .ok (d,m)=>∃v A,R= .tuple #[v,.int .i64 0]∧Ba (fun k=>H.size≤k∧k<H'.size) H' v (some A)∧Bz (some A)∧EE (some A) d):
  ∃x e,R= .tuple #[x,.int .i64 e]∧((e=0∧∃A d m,C6 b r= .ok (d,m)∧Ba (fun k=>H.size≤k∧k<H'.size) H' x (some A)∧Bz (some A)∧EE (some A) d)∨(e≠0∧C6 b r= .error e∧x= .pointer none)):=by
 cases hx:C6 b r with
 | error e=>rw [hx]at h;exact⟨_,e,h,.inr ⟨J8 hx,rfl,rfl⟩⟩
 | ok q=>
   obtain⟨d,m⟩:=q;rw [hx]at h;obtain⟨v,A,h1,h2⟩:=h;exact⟨v,0,h1,.inl ⟨rfl,A,d,m,rfl,h2⟩⟩
theorem Yk(w:List Nat)(r:ReM):(Mt w r 0 w.length)↔Lz w r=true:=(Fi w r).symm
theorem GI{o:Option AM}{d:PA}{b:Int}{r:ReM}{m:Nat}(hp:EE o d)(hx:C6 b r= .ok (d,m))(w:ByteArray):D0 o w=Lz (byN w) r:=by
 obtain⟨-,-,-,hb⟩:=GV hx;rw [Vk hp (EI hb).1 w,AbH,RE hb (V0 w),Yk]
theorem Wd(w:List Nat)(a b:ReM):Lz w (.and_ a b)=(Lz w a&&Lz w b):=by
 rw [AbH,AbX,Fi,Fi,Fi];rfl
theorem MD(w:List Nat)(a b:ReM):Lz w (.minus a b)=(Lz w a&& !Lz w b):=by
 rw [AbH,AbX,Bool.not_eq_true',Fi,Fi];constructor
 ·rintro⟨h1,h2⟩;refine⟨h1,?_⟩;cases hm:Lz w b with
  | false=>rfl
  | true=>exact absurd ((Fi w b).1 hm) h2
 ·rintro⟨h1,h2⟩;refine⟨h1,fun h=>?_⟩;have:=(Fi w b).2 h;rw [h2]at this;cases this
theorem Nf{r1 r2:ReM}{d1 d2 d:PA}{m1 m2:Nat}{ends:Bool→Bool→Bool}{r:ReM}(hn:r.nodes≤2000)(hr:∀s,Bc 4096 r 0 s=C5 (C4 4096 ends (fun s=>AS 4096 r1 s) (fun s=>AS 4096 r2 s) s) 0)(h1:C6 300 r1= .ok (d1,m1))(h2:C6 300 r2= .ok (d2,m2))(hp:prX 4096 ends d1 d2= .ok d){e:Int}:C6 4096 r≠ .error e:=by
 obtain⟨-,-,-,g1⟩:=GV h1;obtain⟨-,-,-,g2⟩:=GV h2;obtain⟨s',d',h⟩:=Yz ends hr g1 g2 hp;unfold C6;rw [if_neg (by decide),if_neg (by omega),h];intro h;cases h
theorem Q3(s t w:ByteArray)(H:Aa)(hw:w.size≤1048576)(hpow:EF Tryz.prog H)(hE:Gu H):BX Tryz.prog 8 #[.string s,.string t,.string w] H (.bool true):=by
 refine Al.of_vc Tryz.func8 rfl (Tryz.call8 _) ?_;have hwm:w.size≤maxLen:=by unfold maxLen;omega
 refine Ad.mk (TB s H hE) ?_;rintro v1 H1 ⟨ha1,hr1⟩;have st1:=(St.nil H).call ha1;obtain⟨nv1,l1,k1,rfl,hl1,ho1,hm1⟩:=Lg hr1;refine An _ reZ Jt rfl ?_;intro q1 H2 hq1 hs2 hb2 ha2;have st2:=st1.box hq1 hs2 hb2 ha2;refine AI (cs:=l1) st2 0 (by rw [hl1];rfl) rfl (by rw [hl1];exact AbD _) ho1 fun H3 st3=>?_;refine Ad.mk (TB t H3 (EU hE hE.2 st3.old)) ?_;rintro v4 H4 ⟨ha4,hr4⟩;have st4:=st3.call ha4;obtain⟨nv2,l2,k2,rfl,hl2,ho2,hm2⟩:=Lg hr4;refine An _ reZ Jt rfl ?_;intro q2 H5 hq2 hs5 hb5 ha5;have st5:=st4.box hq2 hs5 hb5 ha5;refine AI (cs:=l2) st5 1 (by rw [hl2];rfl) rfl (by rw [hl2];exact AbD _) ho2 fun H6 st6=>?_;refine Am (S3 (hpow.agr st6.old)) fun H7 ha7=>?_;have h7:Agr (Old H) H H7:=(st6.call ha7).old;clear st1 st2 st3 st4 st5 st6;refine Ad.mk (M8 hm1 (by decide) (by decide) (hpow.agr h7)) ?_;rintro _ H8 ⟨ha8,x8,e8,rfl,hB1⟩;have h8:Agr (Old H) H H8:=h7.trans (ha8.mono fun k hk=>Aj h7 hk);refine Ad.mk (M8 hm2 (by decide) (by decide) (hpow.agr h8)) ?_;rintro _ H9 ⟨ha9,x9,e9,rfl,hB2⟩;have h9:Agr (Old H) H H9:=h8.trans (ha9.mono fun k hk=>Aj h8 hk);cases k1 with
 | false=>
   (conv=>whnf);exact⟨rfl,h9⟩
 | true=>
 obtain⟨r1,-,rfl,hn1,hx1⟩:=hB1 rfl;cases k2 with
 | false=>
   (conv=>whnf);exact⟨rfl,h9⟩
 | true=>
 obtain⟨r2,-,rfl,hn2,hx2⟩:=hB2 rfl;cases hs1:C6 300 r1 with
 | error e=>
   rw [hs1]at hx1;obtain⟨rfl,rfl⟩:=hx1;have d1:(e != 0)=true:=bne_iff_ne.2 (J8 hs1);(conv=>whnf);rw [d1];(conv=>whnf);exact⟨rfl,h9⟩
 | ok q1=>
 obtain⟨d1,m1⟩:=q1;rw [hs1]at hx1;obtain⟨rfl,A1,hv1,hmd1,hp1⟩:=hx1;cases hs2:C6 300 r2 with
 | error e=>
   rw [hs2]at hx2;obtain⟨rfl,rfl⟩:=hx2;have d1:(e != 0)=true:=bne_iff_ne.2 (J8 hs2);(conv=>whnf);rw [d1];(conv=>whnf);exact⟨rfl,h9⟩
 | ok q2=>
 obtain⟨d2,m2⟩:=q2;rw [hs2]at hx2;obtain⟨rfl,A2,hv2,hmd2,hp2⟩:=hx2;have sA1:Ba (Old H9) H9 x8 (some A1):=(hv1.frame (ha9.mono fun k hk=>hk.2)).mono fun k hk=>Aj ha9 hk.2;have sA2:Ba (Old H9) H9 x9 (some A2):=hv2.mono fun k hk=>hk.2;clear hv1 hv2 hr1 hr4;refine Am (Eg (s:=w) (fun k hk=>hk) sA1 hwm) fun H10 ha10=>?_;have sB1:=(sA1.frame ha10).mono (fun k hk=>Aj ha10 hk);have sB2:=(sA2.frame ha10).mono (fun k hk=>Aj ha10 hk);refine Am (Eg (s:=w) (fun k hk=>hk) sB2 hwm) fun H11 ha11=>?_;have sC1:=(sB1.frame ha11).mono (fun k hk=>Aj ha11 hk);have sC2:=(sB2.frame ha11).mono (fun k hk=>Aj ha11 hk);have h10:Agr (Old H) H H10:=h9.trans (ha10.mono fun k hk=>Aj h9 hk);have h11:Agr (Old H) H H11:=h10.trans (ha11.mono fun k hk=>Aj h10 hk);rw [GI hp1 hs1 w,GI hp2 hs2 w];obtain⟨T1,n1,en1⟩:=FP r1;obtain⟨T2,n2,en2⟩:=FP r2;rw [en1,en2];refine Aw Tryz.underlying64 rfl _ JY [.iface T1 n1,.iface T2 n2] rfl ?_;have hA:=K6 (b:=4096) (H:=H11) (.and_ r1 r2) (by simp only [ReM.nodes];omega) (hpow.agr h11);rw [show Ag (.and_ r1 r2)= .iface 64 (.agg #[.iface T1 n1,.iface T2 n2]) by rw [←en1,←en2];rfl]at hA;refine Ad.mk hA ?_;rintro R12 H12 ⟨ha12,hR12⟩;obtain⟨x3,e3,rfl,hc3⟩:=N8 hR12;have h12:Agr (Old H) H H12:=h11.trans (ha12.mono fun k hk=>Aj h11 hk);refine Aw Tryz.underlying65 rfl _ LM [.iface T1 n1,.iface T2 n2] rfl ?_;have hM:=K6 (b:=4096) (H:=H12) (.minus r1 r2) (by simp only [ReM.nodes];omega) (hpow.agr h12);rw [show Ag (.minus r1 r2)= .iface 65 (.agg #[.iface T1 n1,.iface T2 n2]) by rw [←en1,←en2];rfl]at hM;refine Ad.mk hM ?_;rintro R13 H13 ⟨ha13,hR13⟩;obtain⟨x4,e4,rfl,hc4⟩:=N8 hR13;have h13:Agr (Old H) H H13:=h12.trans (ha13.mono fun k hk=>Aj h12 hk);have h1113:Agr (Old H11) H11 H13:=ha12.trans (ha13.mono fun k hk=>Aj ha12 hk);have sD1:=(sC1.frame h1113).mono (fun k hk=>Aj h1113 hk);have sD2:=(sC2.frame h1113).mono (fun k hk=>Aj h1113 hk);have hok1:=(EI (GV hs1).2.2.2);have hok2:=(EI (GV hs2).2.2.2);have hsz1:=KN r1 (by omega);have hsz2:=KN r2 (by omega);have fin:∀(G:Aa),Agr (Old H13) H13 G→d1.n*d2.n≤4096→r1.nodes+r2.nodes<2000→e3=0∧e4=0:=by
  intro G _ h1 h2;constructor
  ·rcases hc3 with⟨h,-⟩ | ⟨-,h,-⟩
   ·exact h
   ·obtain⟨d,hd⟩:=Of (ends:=Mi) hp1 hp2 hmd1 hmd2 hok1.1 hok2.1 h1;exact absurd h (Nf (by simp only [ReM.nodes];omega) (fun _=>rfl) hs1 hs2 hd)
  ·rcases hc4 with⟨h,-⟩ | ⟨-,h,-⟩
   ·exact h
   ·obtain⟨d,hd⟩:=Of (ends:=ML) hp1 hp2 hmd1 hmd2 hok1.1 hok2.1 h1;exact absurd h (Nf (by simp only [ReM.nodes];omega) (fun _=>rfl) hs1 hs2 hd)
 obtain⟨P,hP⟩:∃P,P=Lz (byN w) r1:=⟨_,rfl⟩;obtain⟨Q,hQ⟩:∃Q,Q=Lz (byN w) r2:=⟨_,rfl⟩;rw [←hP,←hQ];rcases hc3 with⟨rfl,A3,d3',m3,hs3,hv3,hmd3,hp3⟩ | ⟨hne3,hs3,rfl⟩
 ·have sE3:Ba (Old H13) H13 x3 (some A3):=(hv3.frame (ha13.mono fun k hk=>hk.2)).mono fun k hk=>Aj ha13 hk.2;have hacc3:D0 (some A3) w=(P&&Q):=by rw [GI hp3 hs3 w,Wd,hP,hQ]
  rcases hc4 with⟨rfl,A4,d4',m4,hs4,hv4,hmd4,hp4⟩ | ⟨hne4,hs4,rfl⟩
  ·have hacc4:D0 (some A4) w=(P&& !Q):=by rw [GI hp4 hs4 w,MD,hP,hQ]
   clear hP hQ;cases P<;>cases Q
   all_goals
    refine Am (Eg (s:=w) (fun k hk=>hk) sE3 hwm) fun G3 hg3=>?_;rw [hacc3];refine OI Tryz.underlying4 ?_;have sE4:Ba (Old G3) G3 x4 (some A4):=(hv4.frame (hg3.mono fun k hk=>hk.2)).mono fun k hk=>Aj hg3 hk.2;refine Am (Eg (s:=w) (fun k hk=>hk) sE4 hwm) fun G4 hg4=>?_;have g4:Agr (Old H13) H13 G4:=hg3.trans (hg4.mono fun k hk=>Aj hg3 hk);rw [hacc4];refine OI Tryz.underlying4 (Am (Dl ((sD1.frame g4).mono fun k hk=>Aj g4 hk)) fun J1 hj1=>?_);have j1:Agr (Old H13) H13 J1:=g4.trans (hj1.mono fun k hk=>Aj g4 hk);refine Am (Dl ((sD2.frame j1).mono fun k hk=>Aj j1 hk)) fun J2 hj2=>?_;have j2:Agr (Old H13) H13 J2:=j1.trans (hj2.mono fun k hk=>Aj j1 hk);have j0:Agr (Old H) H J2:=h13.trans (j2.mono fun k hk=>Aj h13 hk);rw [hp1.n,hp2.n];have hmul:d1.n*d2.n≤300*300:=Ab8 (by omega) (by omega);have emul:(d1.n:Int)*(d2.n:Int)=((d1.n*d2.n:Nat):Int):=by rw [AaV]
    (conv=>whnf);rw [emul,w64 (x:=((d1.n*d2.n:Nat):Int)) (by omega) (by omega)];by_cases hbig:4096<d1.n*d2.n
    ·have d5:decide ((4096:Int)<((d1.n*d2.n:Nat):Int))=true:=decide_eq_true (by omega);(conv=>whnf);rw [d5];(conv=>whnf);exact⟨rfl,j0⟩
    ·have d5:decide ((4096:Int)<((d1.n*d2.n:Nat):Int))=false:=decide_eq_false (by omega);(conv=>whnf);rw [d5];(conv=>whnf);exact⟨rfl,j0⟩
  ·clear hP hQ;cases P<;>cases Q
   all_goals
    refine Am (Eg (s:=w) (fun k hk=>hk) sE3 hwm) fun G3 hg3=>?_;rw [hacc3];refine OI Tryz.underlying4 ?_;have d4:(e4==0)=false:=beq_eq_false_iff_ne.2 hne4;(conv=>whnf);rw [d4];refine Am (Dl ((sD1.frame hg3).mono fun k hk=>Aj hg3 hk)) fun J1 hj1=>?_;have j1:Agr (Old H13) H13 J1:=hg3.trans (hj1.mono fun k hk=>Aj hg3 hk);refine Am (Dl ((sD2.frame j1).mono fun k hk=>Aj j1 hk)) fun J2 hj2=>?_;have j2:Agr (Old H13) H13 J2:=j1.trans (hj2.mono fun k hk=>Aj j1 hk);have j0:Agr (Old H) H J2:=h13.trans (j2.mono fun k hk=>Aj h13 hk);rw [hp1.n,hp2.n];have hmul:d1.n*d2.n≤300*300:=Ab8 (by omega) (by omega);have emul:(d1.n:Int)*(d2.n:Int)=((d1.n*d2.n:Nat):Int):=by rw [AaV]
    (conv=>whnf);rw [emul,w64 (x:=((d1.n*d2.n:Nat):Int)) (by omega) (by omega)];by_cases hbig:4096<d1.n*d2.n
    ·have d5:decide ((4096:Int)<((d1.n*d2.n:Nat):Int))=true:=decide_eq_true (by omega);(conv=>whnf);rw [d5];(conv=>whnf);exact⟨rfl,j0⟩
    ·have d5:decide ((4096:Int)<((d1.n*d2.n:Nat):Int))=false:=decide_eq_false (by omega);(conv=>whnf);rw [d5];(conv=>whnf);rw [d4];rw [←en1,←en2,C2 r1,C2 r2];refine F1.mk (DW r1) #[CU r1] (Dg r1) (hsz1 J2) ?_;rintro _ J3 ⟨rfl,hj3⟩;refine F1.mk (DW r2) #[CU r2] (Dg r2) (hsz2 J3) ?_;rintro _ J4 ⟨rfl,hj4⟩;have j3:Agr (Old H) H J3:=j0.trans (hj3.mono fun k hk=>Aj j0 hk);have j4:Agr (Old H) H J4:=j3.trans (hj4.mono fun k hk=>Aj j3 hk);(conv=>whnf);rw [w64 (x:=(r1.nodes:Int)+(r2.nodes:Int)) (by omega) (by omega)];have hge:¬(r1.nodes+r2.nodes<2000):=fun h=>by
      have:=fin H13 (Agr.refl _ _) (by omega) h;exact hne4 this.2
     have d6:decide ((2000:Int)≤(r1.nodes:Int)+(r2.nodes:Int))=true:=decide_eq_true (by omega);(conv=>whnf);rw [d6];(conv=>whnf);exact⟨rfl,j4⟩
 ·rcases hc4 with⟨rfl,A4,d4',m4,hs4,hv4,hmd4,hp4⟩ | ⟨hne4,hs4,rfl⟩
  ·have hacc4:D0 (some A4) w=(P&& !Q):=by rw [GI hp4 hs4 w,MD,hP,hQ]
   clear hP hQ;cases P<;>cases Q
   all_goals
    have d3:(e3==0)=false:=beq_eq_false_iff_ne.2 hne3;(conv=>whnf);rw [d3];have sE4:Ba (Old H13) H13 x4 (some A4):=hv4.mono fun k hk=>hk.2;refine Am (Eg (s:=w) (fun k hk=>hk) sE4 hwm) fun G4 hg4=>?_;rw [hacc4];refine OI Tryz.underlying4 (Am (Dl ((sD1.frame hg4).mono fun k hk=>Aj hg4 hk)) fun J1 hj1=>?_);have j1:Agr (Old H13) H13 J1:=hg4.trans (hj1.mono fun k hk=>Aj hg4 hk);refine Am (Dl ((sD2.frame j1).mono fun k hk=>Aj j1 hk)) fun J2 hj2=>?_;have j2:Agr (Old H13) H13 J2:=j1.trans (hj2.mono fun k hk=>Aj j1 hk);have j0:Agr (Old H) H J2:=h13.trans (j2.mono fun k hk=>Aj h13 hk);rw [hp1.n,hp2.n];have hmul:d1.n*d2.n≤300*300:=Ab8 (by omega) (by omega);have emul:(d1.n:Int)*(d2.n:Int)=((d1.n*d2.n:Nat):Int):=by rw [AaV]
    (conv=>whnf);rw [emul,w64 (x:=((d1.n*d2.n:Nat):Int)) (by omega) (by omega)];by_cases hbig:4096<d1.n*d2.n
    ·have d5:decide ((4096:Int)<((d1.n*d2.n:Nat):Int))=true:=decide_eq_true (by omega);(conv=>whnf);rw [d5];(conv=>whnf);exact⟨rfl,j0⟩
    ·have d5:decide ((4096:Int)<((d1.n*d2.n:Nat):Int))=false:=decide_eq_false (by omega);(conv=>whnf);rw [d5];(conv=>whnf);rw [d3];rw [←en1,←en2,C2 r1,C2 r2];refine F1.mk (DW r1) #[CU r1] (Dg r1) (hsz1 J2) ?_;rintro _ J3 ⟨rfl,hj3⟩;refine F1.mk (DW r2) #[CU r2] (Dg r2) (hsz2 J3) ?_;rintro _ J4 ⟨rfl,hj4⟩;have j3:Agr (Old H) H J3:=j0.trans (hj3.mono fun k hk=>Aj j0 hk);have j4:Agr (Old H) H J4:=j3.trans (hj4.mono fun k hk=>Aj j3 hk);(conv=>whnf);rw [w64 (x:=(r1.nodes:Int)+(r2.nodes:Int)) (by omega) (by omega)];have hge:¬(r1.nodes+r2.nodes<2000):=fun h=>by
      have:=fin H13 (Agr.refl _ _) (by omega) h;exact hne3 this.1
     have d6:decide ((2000:Int)≤(r1.nodes:Int)+(r2.nodes:Int))=true:=decide_eq_true (by omega);(conv=>whnf);rw [d6];(conv=>whnf);exact⟨rfl,j4⟩
  ·clear hP hQ;cases P<;>cases Q
   all_goals
    have d3:(e3==0)=false:=beq_eq_false_iff_ne.2 hne3;(conv=>whnf);rw [d3];have d4:(e4==0)=false:=beq_eq_false_iff_ne.2 hne4;(conv=>whnf);rw [d4];refine Am (Dl ((sD1.frame (Agr.refl (Old H13) H13)).mono fun k hk=>Aj (Agr.refl (Old H13) H13) hk)) fun J1 hj1=>?_;have j1:Agr (Old H13) H13 J1:=(Agr.refl (Old H13) H13).trans (hj1.mono fun k hk=>Aj (Agr.refl (Old H13) H13) hk);refine Am (Dl ((sD2.frame j1).mono fun k hk=>Aj j1 hk)) fun J2 hj2=>?_;have j2:Agr (Old H13) H13 J2:=j1.trans (hj2.mono fun k hk=>Aj j1 hk);have j0:Agr (Old H) H J2:=h13.trans (j2.mono fun k hk=>Aj h13 hk);rw [hp1.n,hp2.n];have hmul:d1.n*d2.n≤300*300:=Ab8 (by omega) (by omega);have emul:(d1.n:Int)*(d2.n:Int)=((d1.n*d2.n:Nat):Int):=by rw [AaV]
    (conv=>whnf);rw [emul,w64 (x:=((d1.n*d2.n:Nat):Int)) (by omega) (by omega)];by_cases hbig:4096<d1.n*d2.n
    ·have d5:decide ((4096:Int)<((d1.n*d2.n:Nat):Int))=true:=decide_eq_true (by omega);(conv=>whnf);rw [d5];(conv=>whnf);exact⟨rfl,j0⟩
    ·have d5:decide ((4096:Int)<((d1.n*d2.n:Nat):Int))=false:=decide_eq_false (by omega);(conv=>whnf);rw [d5];(conv=>whnf);rw [d3];rw [←en1,←en2,C2 r1,C2 r2];refine F1.mk (DW r1) #[CU r1] (Dg r1) (hsz1 J2) ?_;rintro _ J3 ⟨rfl,hj3⟩;refine F1.mk (DW r2) #[CU r2] (Dg r2) (hsz2 J3) ?_;rintro _ J4 ⟨rfl,hj4⟩;have j3:Agr (Old H) H J3:=j0.trans (hj3.mono fun k hk=>Aj j0 hk);have j4:Agr (Old H) H J4:=j3.trans (hj4.mono fun k hk=>Aj j3 hk);(conv=>whnf);rw [w64 (x:=(r1.nodes:Int)+(r2.nodes:Int)) (by omega) (by omega)];have hge:¬(r1.nodes+r2.nodes<2000):=fun h=>by
      have:=fin H13 (Agr.refl _ _) (by omega) h;exact hne3 this.1
     have d6:decide ((2000:Int)≤(r1.nodes:Int)+(r2.nodes:Int))=true:=decide_eq_true (by omega);(conv=>whnf);rw [d6];(conv=>whnf);exact⟨rfl,j4⟩
theorem Q4(s t w:ByteArray)(S:Nat→Prop)(H:Aa)(hs:s.size≤1048576)(ht:t.size≤1048576)(hw:w.size≤1048576)(hT:EF Tryz.prog H)(hE:Gu H):BX Tryz.prog 8 #[.string s,.string t,.string w] H (.bool true):=Q3 s t w H hw hT hE
end Go.Proofs.YtfbghcpdinlmcaaGreatDoor
namespace Go.Proofs.YtfbghcpdinlmcaaGreatDoor
open Go.VC Go.Lib
theorem Ac1:Tryz.prog.globalNamed Ws=some 1:=by kernel_rfl
theorem Aa1:(Tryz.prog.globals[1]?).map (·.type)=some 362:=by kernel_rfl
theorem Ac0:Tryz.prog.cellsOf 362=20:=by kernel_rfl
theorem Aa0:Tryz.prog.cellsOf 99=1:=by kernel_rfl
theorem Wt:(Rows.laid_internal_strconv_uint64pow10:DataW Unit)=tabData .u64 pow10Tab:=by kernel_rfl
def Ac9:List Int:=[0,1,28,2,29,14,24,3,30,22,20,15,25,17,4,8,31,27,13,23,21,19,16,7,26,12,18,6,11,5,10,9]
def AaD:Array Value:=(Ac9.map (Value.int .u8)).toArray
def AcA:List Int:=[0,1,56,2,57,49,28,3,61,58,42,50,38,29,17,4,62,47,59,36,45,43,51,22,53,39,33,30,24,18,12,5,63,55,48,27,60,41,37,16,46,35,44,21,52,32,23,11,54,26,40,15,34,20,31,10,25,14,19,9,13,8,7,6]
def AaE:Array Value:=(AcA.map (Value.int .u8)).toArray
def AaF:List Int:=[1,10,100,1000,10000,100000,1000000,10000000,100000000,1000000000,10000000000,100000000000,1000000000000,10000000000000,100000000000000,1000000000000000,10000000000000000,100000000000000000,1000000000000000000,10000000000000000000]
def YB:Array Value:=(AaF.map (Value.int .u64)).toArray
def P5(vs:Array Value):Obj→Obj
 | .cells _ t frozen=>.cells vs t frozen
 | o=>o
noncomputable def Zg(os:Os):World:=
 {World.holding Tryz.prog os ⟨#[], #[],[]⟩with heap:=(((World.holding Tryz.prog os ⟨#[], #[],[]⟩).heap.modify 3 (P5 AaD)).modify 4 (P5 AaE)).modify 1 (P5 YB)}
end Go.Proofs.YtfbghcpdinlmcaaGreatDoor
namespace Go.Proofs.YtfbghcpdinlmcaaGreatDoor
open Go.VC Go.Lib
open Go.ChangeShapes Go.WideShapes Go.ChangeAt Go.RowKit
theorem VE:Tryz.prog.globalNamed "loupe/class.escapes" =some 0:=by kernel_rfl
theorem ZD:(Tryz.prog.globals[0]?).map (·.type)=some 336:=by kernel_rfl
theorem Ab9:Tryz.prog.cellsOf 336=6:=by kernel_rfl
theorem VD:Tryz.prog.cellsOf 335=2:=by kernel_rfl
theorem AbA:Tryz.prog.underlying 336=some (.array 3 335):=by kernel_rfl
theorem P2{enc:TypeId×Value→Unit}{w:World}{base:Nat}{sp:Nat→Bool}{held:Bool}{fuel:Nat}{cs:List Value}{a b:Int}{p:List MemPlace}
  (h:DataW.trod enc Tryz.prog w base sp held fuel 335 cs=some (.agg [.lit (.int .u8 a),.lit (.int .u8 b)],p)):cs=[.int .u8 a,.int .u8 b]:=by
 obtain⟨y0,y1,m,e,hl,h0,h1⟩:=trod_struct2 Tryz.underlying335 h;obtain⟨n0,e0,r0,-⟩:=DataW.trod_int Tryz.underlying5 h0;obtain⟨n1,e1,r1,-⟩:=DataW.trod_int Tryz.underlying5 h1;subst r0;subst r1;injection e with e2 e3
 injection e2 with e2
 simp only [Ac5.injEq,DataW.lit.injEq,Lit.int.injEq,true_and,and_true]at e2;rw [VD]at hl
 match cs,hl with
 | [x,y],_=>
   have e0:[x]=[Value.int .u8 n0]:=e0;have e1:[y]=[Value.int .u8 n1]:=e1;injection e0 with e0
   injection e1 with e1
   rw [e0,e1,←e2.1,←e2.2]
theorem Ug{enc:TypeId×Value→Unit}{w:World}{base:Nat}{sp:Nat→Bool}{held:Bool}{fuel:Nat}{cs:List Value}{p:List MemPlace}
  (h:DataW.trod enc Tryz.prog w base sp held fuel 336 cs=some (Rows.laid_loupe_class_escapes,p)):cs=VB:=by
 obtain⟨xs,m,-,e,hl,hx,hi⟩:=DataW.trod_array AbA h;rw [Ab9]at hl;injection e with e1 e2
 have e1:(Rows.laid_loupe_class_escapes:DataW Unit)= .agg (xs.map (·.1)):=e1;unfold Rows.laid_loupe_class_escapes at e1;injection e1 with e1
 match xs,hx with
 | [x0,x1,x2],_=>
   simp only [Ac8,List.map_nil,Ac5.injEq,and_true]at e1;obtain⟨r0,r1,r2⟩:=e1;have h0:=hi 0 (by decide);have h1:=hi 1 (by decide);have h2:=hi 2 (by decide);rw [VD]at h0 h1 h2;have k0:=P2 (p:=x0.2) (h0.trans (by rw [r0];rfl));have k1:=P2 (p:=x1.2) (h1.trans (by rw [r1];rfl));have k2:=P2 (p:=x2.2) (h2.trans (by rw [r2];rfl))
   match cs,hl with
   | [a,b,c,d,e,f],_=>
     have k0:[a,b]=_:=k0;have k1:[c,d]=_:=k1;have k2:[e,f]=_:=k2;simp only [Ac5.injEq,and_true]at k0 k1 k2;obtain⟨rfl,rfl⟩:=k0;obtain⟨rfl,rfl⟩:=k1;obtain⟨rfl,rfl⟩:=k2;rfl
theorem Ko{W:World}(h:laidMetH Tryz.prog Rows.dfaMembersUptoRow.laid W):EF Tryz.prog W.heap∧Gu W.heap:=by
 obtain⟨ps,⟨g0,t0,cs0,f0,p0,q0,hg0,ht0,hv0,hd0,⟨g1,t1,cs1,f1,p1,q1,hg1,ht1,hv1,hd1,⟨g2,t2,cs2,f2,p2,q2,hg2,ht2,hv2,hd2,⟨g3,t3,cs3,f3,p3,q3,hg3,ht3,hv3,hd3,-,-⟩,-⟩,-⟩,-⟩,-⟩:=h;constructor
 ·have hW:TabIs Tryz.prog W Ws .u64 pow10Tab:=by
   obtain rfl:=AbK.inj (Ac1.symm.trans hg2);obtain rfl:=AbK.inj (Aa1.symm.trans ht2);rw [Wt]at hd2;unfold TabIs;rw [hv2,←cells_of_tab Tryz.underlying362 Tryz.underlying99 Aa0 Ac0 hd2]
  intro w hw;exact TN hW fun k _=>by rw [hw]
 ·obtain rfl:=AbK.inj (VE.symm.trans hg3);obtain rfl:=AbK.inj (ZD.symm.trans ht3);have hc:=Ug hd3;refine⟨fun j v hj=>?_,?_⟩
  ·have:=World.var?_cell VE hv3 j;rw [AaU];have h2:cs3[j]? =some v:=by
    rw [←Array.getElem?_toList,hc];exact hj
   rw [h2]at this;exact this
  ·unfold World.var? at hv3;rw [VE]at hv3;apply Classical.byContradiction;intro hn;simp only [Option.bind_some]at hv3;rw [Array.getElem?_eq_none (by omega)]at hv3;simp at hv3
noncomputable def RT(os:Os):World:=
 {Zg os with heap:=(Zg os).heap.modify 0 (P5 VB.toArray)}
end Go.Proofs.YtfbghcpdinlmcaaGreatDoor
namespace Go.VC
open Go.Proofs.YtfbghcpdinlmcaaGreatDoor.Rows (uptoBulk uptoBulkAll)
def InW(W:World)(k:Nat):Prop:=k<W.heap.size
def szL{α:Type}(sz:α→Nat):List α→Nat
 | []=>1
 | x::xs=>sz x+szL sz xs
theorem WK{α:Type}(sz:α→Nat)(x:α):∀xs:List α,szL sz (xs++[x])=szL sz xs+sz x
 | []=>by simp [szL];omega
 | y::ys=>by simp only [List.cons_append,szL,WK sz x ys];omega
theorem Bd{α:Type}{sz:α→Nat}(h:∀x,1≤sz x):∀xs:List α,xs.length+1≤szL sz xs
 | []=>AbD _
 | y::ys=>by have:=Bd h ys;have:=h y;simp only [List.length_cons,szL];omega
section
variable{H:Type}{enc:TypeId×Value→H}{P:Program}{W:World}{t e:TypeId}
end
end Go.VC
namespace Go.Proofs.YtfbghcpdinlmcaaGreatDoor
open Go.VC Go
structure TableV(W:World)(v:Value)(cells:List (BitVec 256))(next:List (List Int))(final:List Bool):Prop where
 rep:∃ca na fa cc nc fc,v= .agg #[.slice ca cells.length cc,.slice na next.length nc,.slice fa final.length fc]∧SlD C7 (InW W) W.heap ca cc cells∧SlD It (InW W) W.heap na nc next∧SlD Cn (InW W) W.heap fa fc final
end Go.Proofs.YtfbghcpdinlmcaaGreatDoor
namespace Go.VC
open Go.ChangeShapes Go.WideShapes Go.ChangeAt Go.RowKit
theorem Q1{W W':World}{may:MemPlace→Prop}(he:Env W W')(h:Agr (Old W.heap) W.heap W'.heap):W.keptBut W' may:=by
 refine⟨he.os,he.output,fun i hi=>?_⟩;rw [h i hi];split<;>simp_all
theorem Nx{W W':World}(h:Agr (Old W.heap) W.heap W'.heap)(a:Addr)(ha:a.block<W.heap.size):W'.frozen? a=W.frozen? a:=by
 unfold World.frozen?;rw [h a.block ha]
theorem N1{W W':World}(h:Agr (Old W.heap) W.heap W'.heap):∀p:MemPlace,p.block<W.heap.size→W.sameAt W' p
 | .cell b o,hb=>by
   show W'.cell? ⟨b,o,none⟩=W.cell? ⟨b,o,none⟩;rw [FK,FK];exact L5 (h b hb)
 | .map b,hb=>h b hb
section
variable{H:Type}{enc:TypeId×Value→H}{P:Program}
theorem PW{W W':World}{sp:Nat→Bool}(hl:laidOutB P=true)(ha:Agr (Old W.heap) W.heap W'.heap):∀{ts:List TypeId} {vs:List Value} {ds:List (DataW H)} {ps:List MemPlace},(∀t∈ts,P.readableRec t=true∧t<P.types.size)→
  DataW.TrodAll enc P W 0 (fun _=>true) true ts vs ds ps→(∀p∈ps,p.block<W.heap.size)→(∀p∈ps,sp p.block=true)→DataW.TrodAll enc P W' 0 sp true ts vs ds ps
 | [],vs,ds,ps,_,h,_,_=>by
   obtain⟨rfl,rfl,rfl⟩:=trodAll_nil h;exact trodAll_mk0
 | t::ts,vs,ds,ps,ht,h,hlt,hsp=>by
   obtain⟨v,vs',d,ds',p,q,rfl,rfl,rfl,h1,h2⟩:=trodAll_cons h;have ht0:=ht t List.mem_cons_self;exact trodAll_cons_mk (WideElems.Trod_stays hl ht0.1 ht0.2 h1 (fun x hx=>N1 ha x (hlt x (AbV _ hx))) fun x hx=>hsp x (AbV _ hx))
    (PW hl ha (fun x hx=>ht x (AaT _ hx)) h2 (fun x hx=>hlt x (AbM _ hx)) fun x hx=>hsp x (AbM _ hx))
theorem AaG{w:World}{base:Nat}{sp:Nat→Bool}{hd:Bool}{t:TypeId}{b:Bool}(h:P.underlying t=some .bool):DataW.Trod enc P w base sp hd t (.bool b) (.lit (.bool b)) []:=⟨1,by simp [DataW.trod,Value.cells,h]⟩
theorem U6{f:Func}{s:ChangeSpec}{apart fresh handsOn again:Bool}{W W':World}{args:Array Value}{ds gs:List (DataW H)}{before:List MemPlace}{bt:TypeId}
  (hW:DataW.Whole enc P f.params.toList s.vars apart W args.toList ds gs before) (hv:s.vars=[]) (hfn:(s.fn H (ds++gs)).results=[.lit (.bool true)]∧(s.fn H (ds++gs)).args=ds∧(s.fn H (ds++gs)).vars=[])
  (hl:laidOutB P=true) (hp:f.params.toList.all (fun t=>P.readableRec t&&decide (t<P.types.size))=true) (hr:f.resultTypes= #[bt]) (hu:P.underlying bt=some .bool)
  (he:Env W W') (ha:Agr (Old W.heap) W.heap W'.heap):s.post enc P f apart fresh handsOn again W args (.bool true) W':=by
 have hlt:=hW.lt;have hW':=hW;obtain⟨pa,pv,hA,hV,hbe,hz,hn⟩:=hW;rw [hv]at hV;obtain⟨rfl,rfl⟩:=trodVars_none hV;rw [Ac3]at hbe;subst hbe;obtain⟨hres,hargs,hvars⟩:=hfn;have hk:W.keptBut W' (fun _=>False):=Q1 he ha;have hpp:∀t∈f.params.toList,P.readableRec t=true∧t<P.types.size:=fun t ht=>by
  have:=List.all_eq_true.1 hp t ht;simpa using this
 have hst:∀sp:Nat→Bool,(∀p∈before,sp p.block=true)→DataW.TrodAll enc P W' 0 sp true f.params.toList args.toList (s.fn H (ds++[])).args before:=fun sp hsp=>by
  rw [hargs];exact PW hl ha hpp hA hlt hsp
 have hrs:∀(b:Nat) (sp:Nat→Bool) (hd:Bool),DataW.TrodAll enc P W' b sp hd f.resultTypes.toList ((Value.bool true).resultList f.resultTypes.size) (s.fn H (ds++[])).results []:=fun b sp hd=>by
  rw [hres,hr];exact trodAll_mk1 (AaG hu)
 have hvs:∀sp:Nat→Bool,DataW.TrodVars enc P W' sp s.vars (s.fn H (ds++[])).vars []:=fun sp=>by
  rw [hvars,hv];rfl
 have hok:∀(j:Nat) (t:TypeId) (r:Value),f.resultTypes[j]? =some t→((Value.bool true).resultList f.resultTypes.size)[j]? =some r→Value.okWide P W' .any 0 t r:=ok_one hr rfl (okWide_bool_mk hu true);refine⟨ds,[],before,[],before,[],hW',hrs _ _ _,hst _ (fun p hp=>decide_eq_true (hlt p hp)),hvs _,World.keptBut_mono (fun p hp=>hp.elim) hk,fun _=>?_⟩;refine⟨hok,_,_,([]++before)++[],⟨[]++before,[],trodAll_append (hst _ (fun _ _=>rfl)) (hrs _ _ _),hvs _,rfl,?_,?_⟩,?_⟩
 ·intro b off hp;simp only [List.nil_append,Ac3]at hp;rw [Nx ha _ (hlt _ hp)];exact hz b off hp
 ·intro hap;have:=hn hap;simpa using this
 ·intro p hp _;simpa using hp
end
end Go.VC
namespace Go.Proofs.YtfbghcpdinlmcaaGreatDoor
open Go.VC
theorem own_:ownKnob Tryz.prog.godebug=none:=by kernel_rfl
theorem AbN:laidOutB Tryz.prog=true:=by kernel_rfl
theorem WF{H:Type}{ds:List (DataW H)}(h:Rows.uptoSmall H ds=true):Rows.uptoBulkAll ds≤1048576:=by simpa [Rows.uptoSmall]using h
end Go.Proofs.YtfbghcpdinlmcaaGreatDoor
