/- Parts of the proof: PAtm, PDet3, PDet4, PDSt, PDet5, PDFi, PDAd, PDet6, PDet7, PTabs -/
import Derived.Test.YtfbghcpdinlmcaaGreatDoorKDn2
import Derived.Test.YtfbghcpdinlmcaaGreatDoorKDn8
import Derived.Test.YtfbghcpdinlmcaaGreatDoorKDn7
set_option maxHeartbeats 64000000
open BitVec renaming getLsbD_and → AaD, allOnes → AaW, getLsbD_not → AbC
open Bool renaming and_eq_true → AaE, not_eq_true' → AbS
open Int renaming toNat_natCast → AaH, eq_ofNat_of_zero_le → AbJ
open List renaming mem_singleton → Aa0, length_append → Aa1, mem_append → Aa2, length_cons → Aa3, take_length → Aa4, mem_of_getElem? → Aa5, length_nil → Aa6, length_map → Aa7, mem_filter → Aa9, length_singleton → AaB, mem_append_left → AaC, getElem?_eq_some_iff → AaF, flatMap_cons → AaG, getElem?_map → AaI, map_append → AaK, range → AaL, mem_range → AaN, filter_cons_of_pos → AaO, filter_append → AaP, length_take → AaQ, prefix_refl → AaS, flatMap_append → AaT, length_filterMap_le → AaU, findIdx?_cons → AaV, filter_cons_of_neg → AaX, getElem?_cons_succ → AaY, foldl_append → AaZ, findIdx?_eq_some_iff_getElem → Ab0, length → Ab1, map_cons → Ab2, sum_cons → Ab3, filter_cons → Ab4, mem_flatMap → Ab5, length_filter_le → Ab7, mem_append_right → Ab8, mem_cons_of_mem → Ab9, range_succ → AbA, take_append_of_le_length → AbB, mem_filterMap → AbD, prefix_append → AbE, getElem?_append_left → AbF, pairwise_iff_getElem → AbG, getElem?_eq_getElem → AbH, getElem?_cons_zero → AbI, sum_append → AbK, append_nil → AbL, getElem?_eq_none → AbN, take_append_drop → AbO, getElem?_of_mem → AbP, map_congr_left → AbQ, mem_cons_self → AbR, append_assoc → AbT, nodup_append → AbU, length_set → AbW, take_zero → AbX, mem_cons → AbY
open Nat renaming zero_le → Aa8, zero_add → AaA, le_trans → AaJ, le_refl → AaM, mul_le_mul_right → AaR, mul_le_mul → AbM, le_add_right → AbV
open Option renaming bind_some → Ab6
set_option linter.unusedVariables false
set_option linter.unusedSimpArgs false
set_option maxRecDepth 100000
namespace Go.Proofs.YtfbghcpdinlmcaaGreatDoor
open Go.VC
def Iq(s b:BitVec 256):List (BitVec 256):=[b &&& s,b &&& ~~~s].filter fun x=> !decide (x=0)
def Kd(bl:List (BitVec 256))(s:BitVec 256):List (BitVec 256):=bl.flatMap (Iq s)
def C7(sets:List (BitVec 256)):List (BitVec 256):=sets.foldl Kd [AaW 256]
def Ca(bl:List (BitVec 256))(b:Nat):List (BitVec 256):=bl.filter fun s=>(Bt s 0).1==b
def Cg(sets:List (BitVec 256)):List (BitVec 256):=(AaL 256).flatMap (Ca (C7 sets))
def Hs(sets:List (BitVec 256)):List Nat:=(Cg sets).map fun c=>(Bt c 0).1
theorem Ss(x:BitVec 256)(h:∀b,b<256→x.getLsbD b=false):x=0:=by
 apply BitVec.eq_of_getLsbD_eq;intro i hi;rw [h i hi];simp
theorem Hh{x:BitVec 256}(h:x≠0):x.getLsbD (Bt x 0).1=true∧∀b,b<(Bt x 0).1→x.getLsbD b=false:=by
 unfold Bt;cases hf:(AaL 256).find? fun b=>decide (0≤b)&&x.getLsbD b with
 | none=>
   exfalso;apply h;apply Ss;intro b hb;have:=List.find?_eq_none.1 hf b (AaN.2 hb);simpa using this
 | some c=>
   have h1:=List.find?_some hf;simp only [Aa8,decide_true,Bool.true_and]at h1;refine⟨h1,fun b hb=>?_⟩;have hc:c<256:=by simpa using List.mem_of_find?_eq_some hf
   obtain⟨_,i,hi,hge,hbef⟩:=List.find?_eq_some_iff_getElem.1 hf;simp only [List.getElem_range]at hge;subst hge;have:=hbef b hb;simpa using this
theorem Xw(s b:BitVec 256):∀x∈Iq s b,x≠0:=fun x hx=>by
 have:=(Aa9.1 hx).2;simpa using this
theorem Xv(s b:BitVec 256){c:Nat}(h:b.getLsbD c=true):∃x∈Iq s b,x.getLsbD c=true:=by
 have hc:c<256:=by
  apply Classical.byContradiction;intro hn;rw [BitVec.getLsbD_of_ge _ _ (by omega)]at h;cases h
 have key:∀x:BitVec 256,x.getLsbD c=true→x≠0:=fun x hx h0=>by rw [h0]at hx;simp at hx
 cases hs:s.getLsbD c with
 | true=>
   have h1:(b &&& s).getLsbD c=true:=by rw [AaD,h,hs];rfl
   exact⟨b &&& s,Aa9.2 ⟨by simp,by rw [decide_eq_false (key _ h1)];rfl⟩,h1⟩
 | false=>
   have h1:(b &&& ~~~s).getLsbD c=true:=by rw [AaD,AbC,h,hs];simp [hc]
   exact⟨b &&& ~~~s,Aa9.2 ⟨by simp,by rw [decide_eq_false (key _ h1)];rfl⟩,h1⟩
theorem Rg(s b:BitVec 256){x:BitVec 256}(hx:x∈Iq s b){c:Nat}(h:x.getLsbD c=true):b.getLsbD c=true:=by
 have:=(Aa9.1 hx).1;rcases AbY.1 this with rfl | this
 ·rw [AaD,AaE]at h;exact h.1
 ·rw [Aa0]at this;subst this;rw [AaD,AaE]at h;exact h.1
theorem TO(s b:BitVec 256){x:BitVec 256}(hx:x∈Iq s b){c d:Nat}(h:x.getLsbD c=true)(k:x.getLsbD d=true):s.getLsbD c=s.getLsbD d:=by
 have:=(Aa9.1 hx).1;rcases AbY.1 this with rfl | this
 ·rw [AaD,AaE]at h k;rw [h.2,k.2]
 ·rw [Aa0]at this;subst this;rw [AaD,AaE,AbC]at h k;have h2:=h.2;have k2:=k.2;simp only [AaE,AbS]at h2 k2;rw [h2.2,k2.2]
theorem S1{x:BitVec 256}(h:x≠0):1≤CV x:=by
 have h1:=(Hh h).1;have h2:=Hl x 0;unfold CV;exact List.length_pos_of_mem (a:=(Bt x 0).1) (Aa9.2 ⟨AaN.2 h2,h1⟩)
theorem Ls(p q r:Nat→Bool):∀l:List Nat,(∀c∈l,(p c=true∧q c=false∧r c=true)∨(p c=false∧q c=true∧r c=true)∨(p c=false∧q c=false∧r c=false))→(l.filter p).length+(l.filter q).length=(l.filter r).length
 | [],_=>rfl
 | c::l,h=>by
   have ih:=Ls p q r l fun d hd=>h d (Ab9 _ hd);rcases h c AbR with⟨h1,h2,h3⟩ | ⟨h1,h2,h3⟩ | ⟨h1,h2,h3⟩<;>simp only [Ab4,h1,h2,h3,if_true,Bool.false_eq_true,if_false,Aa3]<;>omega
theorem Sz(s b:BitVec 256):CV (b &&& s)+CV (b &&& ~~~s)=CV b:=by
 unfold CV;refine Ls _ _ _ _ fun c hc=>?_;have hc:=AaN.1 hc;have e1:(b &&& s).getLsbD c=(b.getLsbD c&&s.getLsbD c):=AaD;have e2:(b &&& ~~~s).getLsbD c=(b.getLsbD c&& !s.getLsbD c):=by rw [AaD,AbC];simp [hc]
 rw [e1,e2];cases b.getLsbD c<;>cases s.getLsbD c<;>simp
theorem PP:CV 0=0:=by
 unfold CV;simp
theorem VH(s b:BitVec 256):((Iq s b).map CV).sum=CV b:=by
 rw [←Sz s b];unfold Iq;have key:∀x:BitVec 256,(([x].filter fun x=> !decide (x=0)).map CV).sum=CV x:=fun x=>by
  by_cases h:x=0
  ·subst h;rw [PP];rfl
  ·rw [AaO (by rw [decide_eq_false h];rfl)];simp
 rw [show [b &&& s,b &&& ~~~s]=[b &&& s]++[b &&& ~~~s]from rfl,AaP,AaK,AbK,key,key]
structure GT(bl sets:List (BitVec 256)):Prop where
 ne:∀x∈bl,x≠0
 all:∀c,c<256→∃x∈bl,x.getLsbD c=true
 same:∀x∈bl,∀c d,x.getLsbD c=true→x.getLsbD d=true→∀s∈sets,s.getLsbD c=s.getLsbD d
 sum:(bl.map CV).sum=256
theorem GT.len{bl sets:List (BitVec 256)}(h:GT bl sets):bl.length≤256:=by
 refine AaJ ?_ (Nat.le_of_eq h.sum);have key:∀l:List (BitVec 256),(∀x∈l,x≠0)→l.length≤(l.map CV).sum:=by
  intro l
  induction l with
  | nil=>intro _;exact AaM _
  | cons x l ih=>
    intro h;have:=ih fun y hy=>h y (Ab9 _ hy);have:=S1 (h x AbR);simp only [Aa3,Ab2,Ab3];omega
 exact key bl h.ne
theorem GT.cut{bl sets:List (BitVec 256)}(h:GT bl sets)(s:BitVec 256):GT (Kd bl s) (sets++[s]):=by
 refine⟨fun x hx=>?_,fun c hc=>?_,fun x hx c d hxc hxd t ht=>?_,?_⟩
 ·obtain⟨b,hb,hx⟩:=Ab5.1 hx;exact Xw s b x hx
 ·obtain⟨b,hb,hbc⟩:=h.all c hc;obtain⟨x,hx,hxc⟩:=Xv s b hbc;exact⟨x,Ab5.2 ⟨b,hb,hx⟩,hxc⟩
 ·obtain⟨b,hb,hx⟩:=Ab5.1 hx;rcases Aa2.1 ht with ht | ht
  ·exact h.same b hb c d (Rg s b hx hxc) (Rg s b hx hxd) t ht
  ·rw [Aa0]at ht;subst ht;exact TO t b hx hxc hxd
 ·refine Eq.trans ?_ h.sum;unfold Kd;clear h
  induction bl with
  | nil=>rfl
  | cons b bl ih=>
    rw [AaG,AaK,AbK,ih,VH,Ab2,Ab3]
theorem Jj(sets:List (BitVec 256)):GT (C7 sets) sets:=by
 have key:∀(rest done bl:List (BitVec 256)),GT bl done→GT (rest.foldl Kd bl) (done++rest):=by
  intro rest
  induction rest with
  | nil=>intro done bl h;simpa using h
  | cons s rest ih=>
    intro done bl h;have:=ih (done++[s]) (Kd bl s) (h.cut s);simpa using this
 refine key sets [] [AaW 256] ⟨fun x hx=>?_,fun c hc=>⟨_,Aa0.2 rfl,by rw [BitVec.getLsbD_allOnes];exact decide_eq_true hc⟩,fun x hx c d _ _ s hs=>(by cases hs),by kernel_rfl⟩;rw [Aa0]at hx;subst hx;decide
theorem Lr(k:Nat):∀n,((AaL n).filter fun b=>k==b).length=if k<n then 1 else 0
 | 0=>rfl
 | n+1=>by
   rw [AbA,AaP,Aa1,Lr k n,Ab4,List.filter_nil];cases hb:(k==n)with
   | true=>
     have h:=beq_iff_eq.1 hb;subst h;simp
   | false=>
     have h:k≠n:=fun h=>by rw [h]at hb;simp at hb
     rw [if_neg (show¬(false=true) by decide)];by_cases h2:k<n
     ·rw [if_pos h2,if_pos (show k<n+1 by omega)];rfl
     ·rw [if_neg h2,if_neg (show¬k<n+1 by omega)];rfl
theorem reps_len(sets:List (BitVec 256)):(Cg sets).length≤256:=by
 have h:=(Jj sets).len;have key:∀(bl:List (BitVec 256)),((AaL 256).flatMap (Ca bl)).length=bl.length:=by
  intro bl
  induction bl with
  | nil=>
    have:∀l:List Nat,l.flatMap (Ca [])=[]:=fun l=>by simp [Ca]
    rw [this]
  | cons x bl ih=>
    have e:∀l:List Nat,(l.flatMap (Ca (x::bl))).length=(l.flatMap (Ca bl)).length+(l.filter fun b=>(Bt x 0).1==b).length:=by
     intro l
     induction l with
     | nil=>rfl
     | cons b l ih=>
       rw [AaG,AaG,Aa1,Aa1,ih,Ab4];have:(Ca (x::bl) b).length=(Ca bl b).length+if((Bt x 0).1==b)=true then 1 else 0:=by
        unfold Ca;rw [Ab4];split<;>simp
       rw [this];split<;>simp<;>omega
    rw [e,ih,Aa3]
    congr 1
    rw [Lr,if_pos (Hl x 0)]
 unfold Cg;rw [key];exact h
end Go.Proofs.YtfbghcpdinlmcaaGreatDoor
namespace Go.VC
theorem StB.newCap{α:Type}{T:Ty α}{e:TypeId}{B:Nat→Prop}{H0 H H':Aa}{ps:List Pc}{b cap:Nat}{l:List Value}(st:StB B H0 H ps)(hb:b=H.size)(hs:H'.size=b+1)(hk:Blk H' b e l)(ha:Agr (fun k=>k<b) H H')(hl:l.length=cap*T.size)(hm:cap≤maxLen):StB B H0 H' (ps++[pS T e (some ⟨b,0,none⟩) 0 cap []]):=by
 subst hb;have h:=Sl.made (sz:=T.size) (n:=0) (cap:=cap) (Aa8 _) hk (Aa8 _) hm hl;rw [Nat.zero_mul,AbX]at h;refine st.add (ha.mono fun k hk=>hk) _ ⟨⟨[],h,rfl⟩,fun k hk=>hk.elim⟩ fun k hk=>?_;rcases hk with⟨o,n',c,h⟩ | h
 ·cases h;omega
 ·exact h.elim
end Go.VC
namespace Go.Proofs.YtfbghcpdinlmcaaGreatDoor
open Go.VC
theorem TN(s b:BitVec 256):(Iq s b).length≤2:=AaJ (Ab7 _ _) (AaM 2)
theorem M4(s:BitVec 256):∀bl:List (BitVec 256),(bl.flatMap (Iq s)).length≤2*bl.length
 | []=>AaM _
 | b::bl=>by
   have h1:=M4 s bl;have h2:=TN s b;rw [AaG,Aa1,Aa3];omega
theorem Tl{α β:Type}(f:α→List β){l:List α}{k:Nat}{x:α}(h:l[k]? =some x):(l.take (k+1)).flatMap f=(l.take k).flatMap f++f x:=by
 rw [Ac h,AaT];simp
theorem Oj{sets:List (BitVec 256)}{k:Nat}{s:BitVec 256}(h:sets[k]? =some s):C7 (sets.take (k+1))=(C7 (sets.take k)).flatMap (Iq s):=by
 unfold C7;rw [Ac h,AaZ];rfl
theorem Zs:(Tryz.prog.info? 263).bind (·.zero)=some (.agg #[.int .u64 0,.int .u64 0,.int .u64 0,.int .u64 0,.int .u64 0,.int .u64 0,.int .u64 0,.int .u64 0]):=by kernel_rfl
theorem YJ(x y:BitVec 256):Instr.fill (fun i=>some (i*4,4)) (Value.agg #[.int .u64 0,.int .u64 0,.int .u64 0,.int .u64 0,.int .u64 0,.int .u64 0,.int .u64 0,.int .u64 0]).cells [(0,Bm x),(1,Bm y)]=some (Af x++Af y).toArray:=by
 unfold Bm Af;generalize wd x 0=a0;generalize wd x 1=a1;generalize wd x 2=a2;generalize wd x 3=a3;generalize wd y 0=b0;generalize wd y 1=b1;generalize wd y 2=b2;generalize wd y 3=b3;simp [Instr.fill,Value.cells]
theorem KO(s:BitVec 256):Ae (Af 0) 0 (Af s)=Af s:=by simp [Ae,Af]
theorem PO{S:Nat→Prop}{H:Aa}{sa:Option Addr}{sc:Nat}{sets:List (BitVec 256)}(hS:∀k,S k→k<H.size)(h:SlD Dz S H sa sc sets)(hsl:sets.length≤33554432):
  Al Tryz.prog 96 #[.slice sa sets.length sc] H fun v H'=>Agr (Old H) H H'∧∃a cap,v= .slice a (Cg sets).length cap∧SlD Dz (Old H') H' a cap (Cg sets):=by
 refine Al.of_vc Tryz.func96 rfl (Tryz.call96 _) (Ao (Fu 0 255 (by decide) (by decide) H) fun H1 ha1=>?_);rw [IA];have st1:=(St.nil H).call ha1;refine A2 DU (Af (AaW 256)) rfl rfl (by decide) (by decide) ?_;intro b2 H2 hb2 hs2 hk2 ha2;have st2:=st1.new (T:=Dz) (n:=1) (xs:=[AaW 256]) hb2 hs2 hk2 ha2 (Ty.reps_one rfl) rfl (by decide);(conv=>whnf);refine A3.mk [3,21] (fun x:Nat×List (BitVec 256)×Option Addr×Nat=>match x with | (k,bl,a,c)=>[.slice a bl.length c,.int .i64 (k:Int)])
  (fun x H3=>x.1≤sets.length∧x.2.1=C7 (sets.take x.1)∧St H H3 [pS Dz 101 x.2.2.1 x.2.1.length x.2.2.2 x.2.1]) (fun x _=>sets.length - x.1) ?_ ?_
 ·(conv=>whnf);exact⟨(0,[AaW 256],some ⟨b2,0,none⟩,1),rfl,by simp,rfl,st2⟩
 ·rintro⟨k,bl,a3,c3⟩ H3 junk ⟨hk,hbl,st3⟩;simp only at hk hbl st3;have hpo:=Jj (sets.take k);rw [←hbl]at hpo;have hlen:=hpo.len;refine AB.mk (fun hz=>?_) (fun hz=>?_)<;>simp only [decide_eq_true_eq,decide_eq_false_iff_not]at hz
  ·obtain⟨s,hs⟩:=Ad (l:=sets) (k:=k) (by omega);have hsucc:=Oj hs;rw [←hbl]at hsucc;refine ixr (i:=k) DU (h.frame (st3.old.mono hS)) hs rfl ?_;rintro b4 o4 cs4 hSb4 hcells4 rfl;refine ldN (cs:=Af s) AU hcells4 trivial (Ak (Bm 0) (Af 0) rfl rfl ?_);intro p5 H5 hp5 hs5 hb5 ha5;have st5:=st3.box hp5 hs5 hb5 ha5;refine AI (cs:=Af s) st5 1 rfl rfl (show 0+4≤4 by decide) rfl fun H6 st6=>?_;rw [KO]at st6;(conv=>whnf);refine A3.mk [6,27] (fun x:Nat×List (BitVec 256)×Option Addr×Nat=>match x with | (j,nx,a,c)=>[.slice a nx.length c,.int .i64 (j:Int)])
    (fun x H7=>x.1≤bl.length∧x.2.1=(bl.take x.1).flatMap (Iq s)∧St H H7 [pS Dz 101 a3 bl.length c3 bl,pB 101 p5 (Af s),pS Dz 101 x.2.2.1 x.2.1.length x.2.2.2 x.2.1]) (fun x _=>bl.length - x.1) ?_ ?_
   ·(conv=>whnf);exact⟨(0,[],none,0),rfl,by simp,rfl,StB.nils st6 Dz 101⟩
   ·rintro⟨j,nx,a7,c7⟩ H7 junk7 ⟨hj,hnx,st7⟩;simp only at hj hnx st7;refine AB.mk (fun hz2=>?_) (fun hz2=>?_)<;>simp only [decide_eq_true_eq,decide_eq_false_iff_not]at hz2
    ·obtain⟨b,hb⟩:=Ad (l:=bl) (k:=j) (by omega);have hnl:=M4 s (bl.take j);rw [←hnx,AaQ]at hnl;refine ixO (j:=j) DU st7 0 rfl hb rfl fun b8 o8 cs8 hO8 hc8 hr8=>?_;obtain rfl:=hr8;refine ldN (cs:=Af b) AU hc8 trivial (Ak (Bm 0) (Af 0) rfl rfl ?_);intro p9 H9 hp9 hs9 hb9 ha9;have st9:=st7.box hp9 hs9 hb9 ha9;refine AI (cs:=Af b) st9 3 rfl rfl (show 0+4≤4 by decide) rfl fun H10 st10=>?_;rw [KO]at st10;refine Ar.held (Old H10) 99 (sq [0,1,3,4,7] (.f 2 (.f 5 (sq [6] .e)))) rfl (by kernel_rfl) ?_;have q5:=st10.blk 1 rfl;have q9:=st10.blk 3 rfl;refine ldN (cs:=Af b) AU (q9.cells fun j v hv=>by rw [AaA];exact hv) q9.lt ?_;refine ldN (cs:=Af s) AU (q5.cells fun j v hv=>by rw [AaA];exact hv) q5.lt ?_;refine ldN (cs:=Af b) AU (q9.cells fun j v hv=>by rw [AaA];exact hv) q9.lt ?_;refine ldN (cs:=Af s) AU (q5.cells fun j v hv=>by rw [AaA];exact hv) q5.lt ?_;refine Ao (Qp b s H10) fun H11 ha11=>?_;have st11:=st10.call ha11;refine⟨ha11,?_⟩;refine Ao (Wp b s H11) fun H12 ha12=>?_;have st12:=st11.call ha12;refine⟨ha11.trans (ha12.mono fun k hk=>As ha11 hk),?_⟩;refine Cv WX _ Zs (Af (b &&& s)++Af (b &&& ~~~s)) (YJ _ _) ?_;have hcut:Iq s b=[b &&& s,b &&& ~~~s].filter fun x=> !decide (x=0):=rfl;generalize b &&& s=x0 at*;generalize b &&& ~~~s=x1 at*;(conv=>whnf);refine A3.mk [6,38] (fun x:Nat×List (BitVec 256)×Option Addr×Nat=>match x with | (i,nx,a,c)=>[.slice a nx.length c,.int .i64 (i:Int)])
      (fun x H13=>x.1≤2∧x.2.1=nx++([x0,x1].take x.1).filter (fun x=> !decide (x=0))∧x.2.1.length≤nx.length+x.1∧St H H13 [pS Dz 101 a3 bl.length c3 bl,pB 101 p5 (Af s),pS Dz 101 x.2.2.1 x.2.1.length x.2.2.2 x.2.1,pB 101 p9 (Af b)]) (fun x _=>2 - x.1) ?_ ?_
     ·(conv=>whnf);exact⟨(0,nx,a7,c7),rfl,by simp,by simp,by simp,st12⟩
     ·rintro⟨i,ny,a13,c13⟩ H13 junk13 ⟨hi,hny,hnyl,st13⟩;simp only at hi hny hnyl st13;refine AB.mk (fun hz3=>?_) (fun hz3=>?_)<;>simp only [decide_eq_true_eq,decide_eq_false_iff_not]at hz3
      ·have hi2:i=0∨i=1:=by omega
       obtain⟨x,hx⟩:∃x,[x0,x1][i]? =some x:=Ad (by simp;omega);have e:Value.agg (((Af x0++Af x1).toArray).extract (((i:Nat):Int).toNat*4) (((i:Nat):Int).toNat*4+4))=Bm x:=by
        rcases hi2 with rfl | rfl<;>cases hx<;>rfl
       have hnext:nx++([x0,x1].take (i+1)).filter (fun x=> !decide (x=0))=ny++[x].filter (fun x=> !decide (x=0)):=by
        rw [hny,Ac hx,AaP,AbT]
       refine Am.run (YS (i:=(i:Int)) WX AU (by omega) (show(i:Int)<((2:Nat):Int) by omega) ?_);rw [e];refine Ak (Bm 0) (Af 0) rfl rfl ?_;intro p14 H14 hp14 hs14 hb14 ha14;have st14:=st13.box hp14 hs14 hb14 ha14;refine AI (cs:=Af x) st14 4 rfl rfl (show 0+4≤4 by decide) rfl fun H15 st15=>?_;rw [KO]at st15;have q15:=st15.blk 4 rfl;refine ldN (cs:=Af x) AU (q15.cells fun j v hv=>by rw [AaA];exact hv) trivial ?_;refine Cv BW (Bm 0) rfl (Af 0) rfl (NI x 0 ?_);by_cases hx0:x=0
       ·have d:(!decide (x=0))=false:=by rw [decide_eq_true hx0];rfl
        rw [d];have hf:[x].filter (fun x=> !decide (x=0))=[]:=AaX (p:=fun x=> !decide (x=0)) (by rw [d];decide);rw [hf,AbL]at hnext;(conv=>whnf);rw [w64 (x:=(i:Int)+1) (by omega) (by omega)];refine⟨rfl,(i+1,ny,a13,c13),by simp,⟨by simp only;omega,hnext.symm,by simp only;omega,?_⟩,by simp only;omega⟩;exact st15.pick [0,1,2,3] (by decide)
       ·have d:(!decide (x=0))=true:=by rw [decide_eq_false hx0];rfl
        rw [d];have hf:[x].filter (fun x=> !decide (x=0))=[x]:=AaO (p:=fun x=> !decide (x=0)) d;rw [hf]at hnext;refine ldN (cs:=Af x) AU (q15.cells fun j v hv=>by rw [AaA];exact hv) trivial ?_;refine A2 DU (Af x) rfl rfl (by decide) (by decide) ?_;intro q16 H16 hq16 hs16 hb16 ha16;have st16:=st15.skip hq16 ha16;refine KZ (ys:=[x]) (ds:=Af x) st16 2 DU rfl (hb16.cells fun j v hv=>by rw [AaA];exact hv) (Ty.reps_one rfl) rfl (by simp [Af,Value.oneCell']) (by simp only [AaB];omega) (by decide) fun a' c' H17 st17 _=>?_;(conv=>whnf);rw [w64 (x:=(i:Int)+1) (by omega) (by omega)];refine⟨rfl,(i+1,ny++[x],a',c'),by simp,⟨by simp only;omega,hnext.symm,by simp only [Aa1,AaB];omega,?_⟩,by simp only;omega⟩;simp only [Aa1];exact st17.pick [0,1,2,3] (by decide)
      ·obtain rfl:i=2:=by omega
       have hnb:ny=(bl.take (j+1)).flatMap (Iq s):=by
        rw [Tl (Iq s) hb,←hnx,hny,hcut];rfl
       (conv=>whnf);rw [w64 (x:=(j:Int)+1) (by omega) (by omega)];refine⟨rfl,(j+1,ny,a13,c13),by simp,⟨by simp only;omega,hnb,?_⟩,by simp only;omega⟩;exact st13.pick [0,1,2] (by decide)
    ·obtain rfl:j=bl.length:=by omega
     rw [Aa4]at hnx;(conv=>whnf);rw [w64 (x:=(k:Int)+1) (by omega) (by omega)];refine⟨rfl,(k+1,nx,a7,c7),by simp,⟨by simp only;omega,by simp only;rw [hsucc,hnx],?_⟩,by simp only;omega⟩;exact st7.pick [2] (by decide)
  ·obtain rfl:k=sets.length:=by omega
   rw [Aa4]at hbl hpo;have hone:∀x:BitVec 256,((Bt x 0).1:Int)=((Bt x 0).1:Int):=fun _=>rfl;refine Vt DU (by omega) (by omega) (by omega) (by omega) ?_;intro p5 H5 hp5 hs5 hb5 ha5;rw [AaH]at hb5;rw [AaH,Int.toNat_zero];have st5:=st3.newCap (T:=Dz) (cap:=bl.length) hp5 hs5 hb5 ha5 (by simp [Dz]) (by unfold maxLen;omega);have hrl:=reps_len sets;(conv=>whnf);refine A3.mk [11,55] (fun x:Nat×List (BitVec 256)×Option Addr×Nat=>match x with | (b,out,a,c)=>[.slice a out.length c,.int .i64 (b:Int)])
    (fun x H6=>x.1≤256∧x.2.1=(AaL x.1).flatMap (Ca bl)∧St H H6 [pS Dz 101 a3 bl.length c3 bl,pS Dz 101 x.2.2.1 x.2.1.length x.2.2.2 x.2.1]) (fun x _=>256 - x.1) ?_ ?_
   ·(conv=>whnf);exact⟨(0,[],some ⟨p5,0,none⟩,bl.length),rfl,by simp,rfl,st5⟩
   ·rintro⟨b,out,a6,c6⟩ H6 junk6 ⟨hb,hout,st6⟩;simp only at hb hout st6;have hol:out.length≤b*256:=by
     rw [hout];clear hout
     induction b with
     | zero=>simp
     | succ b ih=>
       have h1:=ih (by omega);have h2:(Ca bl b).length≤bl.length:=Ab7 _ _;rw [AbA,AaT,Aa1];simp only [AaG,List.flatMap_nil,AbL];omega
    refine AB.mk (fun hz2=>?_) (fun hz2=>?_)<;>simp only [decide_eq_true_eq,decide_eq_false_iff_not]at hz2
    ·have hnext:(AaL (b+1)).flatMap (Ca bl)=out++Ca bl b:=by
      rw [hout,AbA,AaT];simp
     (conv=>whnf);refine A3.mk [11,60] (fun x:Nat×List (BitVec 256)×Option Addr×Nat=>match x with | (j,o,a,c)=>[.slice a o.length c,.int .i64 (j:Int)])
      (fun x H7=>x.1≤bl.length∧x.2.1=out++(bl.take x.1).filter (fun s=>(Bt s 0).1==b)∧x.2.1.length≤out.length+x.1∧St H H7 [pS Dz 101 a3 bl.length c3 bl,pS Dz 101 x.2.2.1 x.2.1.length x.2.2.2 x.2.1]) (fun x _=>bl.length - x.1) ?_ ?_
     ·(conv=>whnf);exact⟨(0,out,a6,c6),rfl,by simp,by simp,by simp,st6⟩
     ·rintro⟨j,o,a7,c7⟩ H7 junk7 ⟨hj,ho,hoL,st7⟩;simp only at hj ho hoL st7;refine AB.mk (fun hz3=>?_) (fun hz3=>?_)<;>simp only [decide_eq_true_eq,decide_eq_false_iff_not]at hz3
      ·obtain⟨x,hx⟩:=Ad (l:=bl) (k:=j) (by omega);have hnx:out++(bl.take (j+1)).filter (fun s=>(Bt s 0).1==b)=o++[x].filter (fun s=>(Bt s 0).1==b):=by
        rw [ho,Ac hx,AaP,AbT]
       refine Am.run (ixO (j:=j) DU st7 0 rfl hx rfl fun b8 o8 cs8 hO8 hc8 hr8=>?_);obtain rfl:=hr8;refine ldN (cs:=Af x) AU hc8 trivial (Ak (Bm 0) (Af 0) rfl rfl ?_);intro p9 H9 hp9 hs9 hb9 ha9;have st9:=st7.box hp9 hs9 hb9 ha9;refine AI (cs:=Af x) st9 2 rfl rfl (show 0+4≤4 by decide) rfl fun H10 st10=>?_;rw [KO]at st10;refine ldN (cs:=Af x) AU ((st10.blk 2 rfl).cells fun j v hv=>by rw [AaA];exact hv) trivial ?_;refine Ao (UB x 0 (by decide) H10) fun H11 ha11=>?_;have st11:=st10.call ha11;have q11:=st11.blk 2 rfl;have hn8:=Hl x 0;(conv=>whnf);rw [w64 (x:=((Bt x 0).1:Int)) (by omega) (by omega)];cases hd:((Bt x 0).1==b)with
       | false=>
         have d:(((Bt x 0).1:Int)==(b:Int))=false:=by
          rw [beq_eq_false_iff_ne]at hd ⊢;omega
         have hf:[x].filter (fun s=>(Bt s 0).1==b)=[]:=AaX (p:=fun s=>(Bt s 0).1==b) (by rw [hd];decide);rw [hf,AbL]at hnx;(conv=>whnf);rw [d];(conv=>whnf);rw [w64 (x:=(j:Int)+1) (by omega) (by omega)];refine⟨rfl,(j+1,o,a7,c7),by simp,⟨by simp only;omega,hnx.symm,by simp only;omega,?_⟩,by simp only;omega⟩;exact st11.pick [0,1] (by decide)
       | true=>
         have d:(((Bt x 0).1:Int)==(b:Int))=true:=by
          rw [beq_iff_eq]at hd ⊢;omega
         have hf:[x].filter (fun s=>(Bt s 0).1==b)=[x]:=AaO (p:=fun s=>(Bt s 0).1==b) hd;rw [hf]at hnx;(conv=>whnf);rw [d];refine ldN (cs:=Af x) AU (q11.cells fun j v hv=>by rw [AaA];exact hv) trivial ?_;refine A2 DU (Af x) rfl rfl (by decide) (by decide) ?_;intro q12 H12 hq12 hs12 hb12 ha12;have st12:=st11.skip hq12 ha12;refine KZ (ys:=[x]) (ds:=Af x) st12 1 DU rfl (hb12.cells fun j v hv=>by rw [AaA];exact hv) (Ty.reps_one rfl) rfl (by simp [Af,Value.oneCell']) (by simp only [AaB];omega) (by decide) fun a' c' H13 st13 _=>?_;(conv=>whnf);rw [w64 (x:=(j:Int)+1) (by omega) (by omega)];refine⟨rfl,(j+1,o++[x],a',c'),by simp,⟨by simp only;omega,hnx.symm,by simp only [Aa1,AaB];omega,?_⟩,by simp only;omega⟩;simp only [Aa1];exact st13.pick [0,1] (by decide)
      ·obtain rfl:j=bl.length:=by omega
       rw [Aa4]at ho;(conv=>whnf);rw [w64 (x:=(b:Int)+1) (by omega) (by omega)];exact⟨rfl,(b+1,o,a7,c7),by simp,⟨by simp only;omega,by simp only;rw [hnext,ho];rfl,st7⟩,by simp only;omega⟩
    ·obtain rfl:b=256:=by omega
     have hfin:out=Cg sets:=by rw [hout,hbl];rfl
     have hv:=st6.view 1 rfl;subst hfin;(conv=>whnf);exact⟨st6.old,_,_,rfl,hv⟩
end Go.Proofs.YtfbghcpdinlmcaaGreatDoor
namespace Go.VC
section
variable{α:Type}{T:Ty α}{e:TypeId}{a:Option Addr}{n cap:Nat}{xs ys:List α}{B S:Nat→Prop}{H0 H:Aa}{ps:List Pc}
theorem Xs{P:Program}{t ty by_:Nat}{z:Value}{a2:Option Addr}{c2:Nat}{K:Value→Aa→Prop}(hf:T.Free)(hone:T.Ones)(st:StB B H0 H ps)(i:Nat)(ht:SlT P t e T.size by_ z)(hp:ps[i]? =some (pS T e a n cap xs))(hSB:∀k,S k→B k)(hy:SlD T S H a2 c2 ys)
  (h63:xs.length+ys.length≤8796093022208) (hby:by_≤16)
  (k:∀a' cap' H',StB B H0 H' (ps.set i (pS T e a' (xs.length+ys.length) cap' (xs++ys)))→K (.slice a' (xs.length+ys.length) cap') H'):
  By P (Builtin.append_ #[t,t] ty [.slice a n cap,.slice a2 ys.length c2].toArray) H K:=by
 refine Pz (T:=T) (S:=S) (lo:=0) ht hone ((st.at_ i hp).1.free hf) (Aa8 _) (fun k hk=>⟨st.up (hSB k hk),fun hb=>(st.in_ i hp (.inl hb)).1 (hSB k hk)⟩) hy (by unfold maxLen;omega) (by have:=AbM h63 hby;omega) ?_;intro v' H' hown hagr hsz hfr;have hown:SlO T none_ H' 0 e v' (xs++ys):=hown.free hf;obtain⟨a',cap',rfl⟩:=hown.hull;rw [Aa1]at hown hfr ⊢;refine k a' cap' H' (st.upd i hp (hagr.mono fun k hk=>⟨hk.1,fun hb=>hk.2 (.inl hb)⟩) _ ⟨hown,fun k hk=>hk.elim⟩ (fun k hk=>?_) (fun k hk=>?_) hsz)
 ·rcases hk with hk | hk
  ·rcases hfr k hk with h | h
   ·exact .inl (.inl h)
   ·exact .inr h
  ·exact hk.elim
 ·rcases hk with hk | hk
  ·exact(hown.lt hk).2
  ·exact hk.elim
theorem StB.capI(st:StB B H0 H ps)(i:Nat)(hp:ps[i]? =some (pS T e a n cap xs)):xs.length≤cap:=by
 obtain⟨cs,⟨-,h⟩,-⟩:=(st.at_ i hp).1;rcases h with⟨-,h⟩ | ⟨b,c,l,h1,-,-,h2,-⟩
 ·omega
 ·injection h1 with e1 e2 e3
  omega
theorem StB.popI{x:α}(st:StB B H0 H ps)(i:Nat)(hp:ps[i]? =some (pS T e a n cap (xs++[x]))):StB B H0 H (ps.set i (pS T e a xs.length cap xs)):=by
 have hown:=(st.at_ i hp).1;refine st.say i hp _ ⟨hown.pop,fun k hk=>hk.elim⟩ fun k hk=>?_;rcases hk with⟨o,m,c,hk⟩ | hk
 ·injection hk with e1 e2 e3
  subst e1;exact .inl ⟨o,n,cap,rfl⟩
 ·exact hk.elim
end
theorem YV{α:Type}{Ok:α→Prop}{enc:α→Value}{P:Program}{t kt et vt:TypeId}{z:Value}{S:Nat→Prop}{H:Aa}{b N:Nat}{m:α→Option Value}(ht:IE P t kt et z)(h:IF Ok enc H b m)(hb:S b)(hN:∀l:List α,l.Nodup→(∀a∈l,(m a).isSome=true)→l.length≤N){K:Value→Prop}
  (k:∀c:Nat,c≤N→K (.int .i64 (c:Int))):AH P (Builtin.len_ #[t] vt [.map (some b)].toArray) S H K:=by
 obtain⟨⟨es,clock,h1,h2,h3,h4⟩,hok⟩:=h;have pre:∀k,k≤es.size→∃l:List α,l.length=k∧∀(j:Nat) (a:α),l[j]? =some a→∃x,es[j]? =some x∧x.key=enc a∧m a=some x.val:=by
  intro k
  induction k with
  | zero=>exact fun _=>⟨[],rfl,fun j a h=>by simp at h⟩
  | succ k ih=>
    intro hk;obtain⟨l,hl,hg⟩:=ih (by omega);have hx:es[k]? =some es[k]:=Array.getElem?_eq_getElem (by omega);obtain⟨a,e1,e2⟩:=h3 k _ hx;refine⟨l++[a],by simp [hl],fun j a' hj=>?_⟩;by_cases hjk:j<k
    ·rw [AbF (by omega)]at hj;exact hg j a' hj
    ·have hjl:=(AaF.1 hj).1;simp only [Aa1,Aa3,Aa6]at hjl;obtain rfl:j=k:=by omega
     rw [List.getElem?_append_right (by omega),hl,Nat.sub_self]at hj;simp only [AbI,Option.some.injEq]at hj;subst hj;exact⟨_,hx,e1,e2⟩
 obtain⟨l,hl,hg⟩:=pre es.size (AaM _);have hnd:l.Nodup:=by
  unfold List.Nodup;rw [AbG];intro i j hi hj hij e;obtain⟨x,hx,hkx,-⟩:=hg i _ (AbH hi);obtain⟨y,hy,hky,-⟩:=hg j _ (AbH hj);rw [e]at hkx;have:=E6 h2 hx hy (hkx.trans hky.symm);omega
 have hle:=hN l hnd fun a ha=>by
  obtain⟨j,hj⟩:=AbP ha;obtain⟨x,-,-,e⟩:=hg j a hj;rw [e];rfl
 refine AH.mk _ (fun w hw=>?_) (k es.size (by omega));have hb':=(hw b hb).trans h1;simp [Builtin.len_,run_underlying ht.under,Go.MapKept.run_getObj_map hb',goInt]
end Go.VC
namespace Go.Proofs.YtfbghcpdinlmcaaGreatDoor
open Go.VC
theorem XK(X:PS):mss X≤65536:=by unfold mss;exact Hi _
theorem Vc{a:NfM}{q:Int}(h:a.has q=true):∃row,(XX a)[q.toNat]? =some row∧row.length≤a.edges.length∧∀p,p∈row↔∃e∈a.edges,e.sil=true∧e.fr=q∧a.has e.to=true∧p=e.to:=by
 have hn:0≤q∧q<(AG a:Int):=by
  have:=Hb a q;rw [h]at this;simpa using this.symm
 refine⟨_,EN _ _ (by omega),AaU _ _,fun p=>?_⟩;rw [AbD];constructor
 ·rintro⟨e,he,h1⟩;unfold keyS okE at h1;split at h1
  ·rename_i hk;simp only [AaE]at hk;rw [Ab6]at h1;have hfr:=(NfM.has_iff.1 hk.1.1);split at h1
   ·rename_i h2;injection h1 with h1
    exact⟨e,he,hk.2,by simp only at h2;omega,hk.1.2,h1.symm⟩
   ·cases h1
  ·simp at h1
 ·rintro⟨e,he,h1,rfl,h3,rfl⟩;refine⟨e,he,?_⟩;unfold keyS okE;rw [h,h3,h1];simp
structure MI(a:NfM)(X:List Int)(todo:List Int)(mm:Int→Option Value):Prop where
 has:∀q∈todo,a.has q=true
 one:∀p,Dom mm p→mm p=some (.int .i64 1)
 tcl:∀p∈todo,clS a (·∈X) p
 mcl:∀p,Dom mm p→clS a (·∈X) p
 all:∀x∈X,Dom mm x∨x∈todo
 shut:∀p,Dom mm p→∀e∈a.edges,e.sil=true→e.fr=p→a.has e.to=true→Dom mm e.to∨e.to∈todo
 len:todo.length≤X.length+(65536 - mss (Dom mm))*33554432
theorem MI.done{a:NfM}{X:List Int}{mm:Int→Option Value}(h:MI a X [] mm):∀q,Dom mm q↔clS a (·∈X) q:=fun q=>
 ⟨h.mcl q,FX (Y:=Dom mm) (fun x hx=>(h.all x hx).elim id fun h=>by cases h) (fun e he hs ht hf=>(h.shut e.fr hf e he hs rfl ht).elim id fun h=>by cases h) q⟩
theorem MI.old_{a:NfM}{X todo:List Int}{mm:Int→Option Value}{q:Int}(h:MI a X (todo++[q]) mm)(hq:Dom mm q):MI a X todo mm:=by
 refine⟨fun p hp=>h.has p (AaC _ hp),h.one,fun p hp=>h.tcl p (AaC _ hp),h.mcl,fun x hx=>?_,fun p hp e he h1 h2 h3=>?_,?_⟩
 ·rcases h.all x hx with h1 | h1
  ·exact .inl h1
  ·rcases Aa2.1 h1 with h1 | h1
   ·exact .inr h1
   ·rw [Aa0]at h1;subst h1;exact .inl hq
 ·rcases h.shut p hp e he h1 h2 h3 with h4 | h4
  ·exact .inl h4
  ·rcases Aa2.1 h4 with h4 | h4
   ·exact .inr h4
   ·rw [Aa0]at h4;rw [h4];exact .inl hq
 ·have:=h.len;simp only [Aa1,Aa3,Aa6]at this;omega
theorem MI.new_{a:NfM}{X todo row:List Int}{mm:Int→Option Value}{q:Int}(h:MI a X (todo++[q]) mm)(hq:¬Dom mm q)(hrl:row.length≤33554432)(hrow:∀p,p∈row↔∃e∈a.edges,e.sil=true∧e.fr=q∧a.has e.to=true∧p=e.to):
  MI a X (todo++row) (put mm q (some (.int .i64 1)))∧mss (Dom (put mm q (some (.int .i64 1))))<mss (Dom mm):=by
 have hqh:=h.has q (by simp);have hqr:=NfM.has_iff.1 hqh;have hqc:=h.tcl q (by simp);have hlt:mss (Dom (put mm q (some (.int .i64 1))))<mss (Dom mm):=XL (fun p hp=>(EK p).2 (.inl hp)) hqr.1 (by omega) hq ((EK q).2 (.inr rfl));refine⟨⟨fun p hp=>?_,fun p hp=>?_,fun p hp=>?_,fun p hp=>?_,fun x hx=>?_,fun p hp e he h1 h2 h3=>?_,?_⟩,hlt⟩
 ·rcases Aa2.1 hp with hp | hp
  ·exact h.has p (AaC _ hp)
  ·obtain⟨e,-,-,-,h4,rfl⟩:=(hrow p).1 hp;exact h4
 ·by_cases hpq:p=q
  ·subst hpq;unfold put;rw [if_pos rfl]
  ·rcases(EK p).1 hp with h1 | h1
   ·unfold put;rw [if_neg hpq];exact h.one p h1
   ·exact absurd h1 hpq
 ·rcases Aa2.1 hp with hp | hp
  ·exact h.tcl p (AaC _ hp)
  ·obtain⟨e,h1,h2,h3,h4,rfl⟩:=(hrow p).1 hp;exact IK a _ e h1 h2 h4 (by rw [h3];exact hqc)
 ·rcases(EK p).1 hp with h1 | h1
  ·exact h.mcl p h1
  ·rw [h1];exact hqc
 ·rcases h.all x hx with h1 | h1
  ·exact .inl ((EK x).2 (.inl h1))
  ·rcases Aa2.1 h1 with h1 | h1
   ·exact .inr (AaC _ h1)
   ·rw [Aa0]at h1;exact .inl ((EK x).2 (.inr h1))
 ·by_cases hpq:p=q
  ·subst hpq;exact .inr (Ab8 _ ((hrow e.to).2 ⟨e,he,h1,h2,h3,rfl⟩))
  ·rcases(EK p).1 hp with h4 | h4
   ·rcases h.shut p h4 e he h1 h2 h3 with h5 | h5
    ·exact .inl ((EK _).2 (.inl h5))
    ·rcases Aa2.1 h5 with h5 | h5
     ·exact .inr (AaC _ h5)
     ·rw [Aa0]at h5;exact .inl ((EK _).2 (.inr h5))
   ·exact absurd h4 hpq
 ·have:=h.len;have hle:=XK (Dom mm);simp only [Aa1,Aa3,Aa6]at this ⊢;have e1:(65536 - mss (Dom mm))+1≤65536 - mss (Dom (put mm q (some (.int .i64 1)))):=by omega
  have e2:=AaR 33554432 e1;omega
abbrev Vk:TypeId:=5
theorem QZ{S:Nat→Prop}{H0 H:Aa}{v:Value}{a:NfM}{la:Option Addr}{lc:Nat}{X:List Int}(st:St H0 H [pS tIk 3 la X.length lc X])(hS:∀k,S k→k<H0.size)(hv:Ko S H0 v a)(hX:∀q∈X,a.has q=true)(hXl:X.length≤2199023255552)(hel:a.edges.length≤33554432)(hpow:HX Tryz.prog H0):
  Al Tryz.prog 89 #[v,.slice la X.length lc] H fun r H'=>r= .string (nmB (Cu (clS a (·∈X))))∧Agr (Old H0) H0 H':=by
 obtain⟨nb,sa,sc,ta,tc,rfl,hnb,hcells,hsil,-⟩:=hv;have hnle:=HK a;refine Al.of_vc Tryz.func89 rfl (Tryz.call89 _) (U7 (Ok:=KX) (enc:=kI) fun mb H1 hb1 hs1 hm1 ha1=>?_);have st1:=st.mapNewW hb1 hs1 hm1 ha1;(conv=>whnf);refine A3.mk [1] (fun x:List Int×Option Addr×Nat×(Int→Option Value)=>match x with | (todo,a5,c5,mm)=>[.slice a5 todo.length c5])
  (fun x H2=>MI a X x.1 x.2.2.2∧St H0 H2 [pS tIk 3 x.2.1 x.1.length x.2.2.1 x.1,pMW KX kI mb x.2.2.2]) (fun x _=>mss (Dom x.2.2.2)*33554434+x.1.length) ?_ ?_
 ·(conv=>whnf);refine⟨(X,la,lc,fun _=>none),rfl,⟨hX,(fun p hp=>by cases hp),fun p hp=>PN hp,(fun p hp=>by cases hp),fun x hx=>.inr hx,(fun p hp=>by cases hp),AbV _ _⟩,st1⟩
 ·rintro⟨todo,a5,c5,mm⟩ H2 junk2 ⟨hI,st2⟩;simp only at hI st2;have hlen:=hI.len;have htl:todo.length≤4398046511104:=by
   have:(65536 - mss (Dom mm))*33554432≤65536*33554432:=AaR _ (by omega);omega
  refine AB.mk (fun hz=>?_) (fun hz=>?_)<;>simp only [decide_eq_true_eq,decide_eq_false_iff_not]at hz
  ·have hne:todo≠[]:=fun e=>by subst e;simp at hz
   obtain⟨td,q,rfl⟩:∃td q,todo=td++[q]:=⟨todo.dropLast,todo.getLast hne,(List.dropLast_concat_getLast hne).symm⟩;have hll:(td++[q]).length=td.length+1:=by simp
   have hqh:=hI.has q (by simp);have hget:(td++[q])[td.length]? =some q:=by simp
   have w1:IntKind.wrap .i64 (((td++[q]).length:Int) - 1)=(td.length:Int):=by rw [hll,w64 (by omega) (by omega)];omega
   (conv=>whnf);rw [w1];refine ixr (i:=td.length) AL (st2.view 0 rfl) hget rfl ?_;rintro b3 o3 c3 hS3 hc3 ⟨rfl,hqk⟩;refine ld1 ct3 hc3.one trivial ?_;(conv=>whnf);rw [w1];refine Si AL (by omega) (by have:=st2.capI 0 rfl;omega) ?_;rw [AaH];have st3:=st2.popI 0 rfl;refine XH (a:=q) RD R9 trivial (st3.mapW 1 rfl) trivial ?_;cases hmq:mm q with
   | some w=>
     have hdq:Dom mm q:=by unfold Dom;rw [hmq];rfl
     have hw:=hI.one q hdq;rw [hmq]at hw;injection hw with hw
     subst hw;(conv=>whnf);exact⟨rfl,(td,a5,c5,mm),rfl,⟨hI.old_ hdq,st3⟩,by simp only [Aa1,Aa3,Aa6];omega⟩
   | none=>
     have hnq:¬Dom mm q:=by unfold Dom;rw [hmq];decide
     obtain⟨row,hrow,hrl,hrm⟩:=Vc hqh;obtain⟨hI2,hlt⟩:=hI.new_ hnq (AaJ hrl hel) hrm;refine U8 (a:=q) st3 1 RD R9 trivial rfl rfl fun H4 st4=>(fa KB (ld1 (v:=.slice sa (AG a) sc) DZ ((hcells.eq (st4.old nb (hS nb hnb))) 0 _ rfl) trivial ?_));refine JE (i:=q.toNat) DH (hsil.frame (st4.old.mono hS)) (CJ _ _ _).symm hrow (by have:=NfM.has_iff.1 hqh;omega) ?_;rintro b5 o5 cs5 hS5 hc5 ⟨ra,rc,rfl,hrd⟩;refine ld1 CW hc5.one trivial ?_;refine Xs (S:=S) (Tj .i64) (Tk .i64) st4 0 AL rfl hS hrd (by simp only [Aa1,Aa3,Aa6]at htl;omega) (by decide) fun a6 c6 H6 st6=>?_;(conv=>whnf);refine⟨rfl,(td++row,a6,c6,put mm q (some (.int .i64 1))),by simp only [Aa1],⟨hI2,?_⟩,?_⟩
     ·simp only [Aa1];exact st6
     ·have e2:=AaR 33554434 (Nat.succ_le_of_lt hlt);simp only [Aa1,Aa3,Aa6];omega
  ·obtain rfl:todo=[]:=List.eq_nil_of_length_eq_zero (by omega);have hdone:=hI.done;have hrng:∀q,Dom mm q→0≤q∧q<65536:=fun q hq=>Dk (F1 (X:=(·∈X)) hX) q ((hdone q).1 hq);refine YV (N:=65536) RD (st2.mapW 1 rfl) trivial (fun l hl hin=>Fl 65536 l hl fun x hx=>hrng x (hin x hx)) fun c hc=>(Eo AL rfl (by omega) (by omega) (by omega) (by omega) ?_);intro ab H3 hab hs3 hb3 ha3;rw [AaH]at hb3;rw [AaH,show(0:Int).toNat=0 from rfl];have st3:=st2.newCap (T:=tIk) (cap:=c) hab hs3 hb3 ha3 (by simp [HT]) (by unfold maxLen;omega);refine Wr st3 1 RD rfl fun r n3 H4 st4=>?_;(conv=>whnf);refine A3.mk [7] (fun x:List Int×Option Addr×Nat×Nat=>match x with | (ks,a5,c5,n)=>[.slice a5 ks.length c5])
    (fun x H5=>x.1.Nodup∧(∀q∈x.1,Dom mm q)∧∃D last,(∀q,D q↔q∈x.1)∧St H0 H5 [pIW KX kI mb r mm D last x.2.2.2,pS tIk 3 x.2.1 x.1.length x.2.2.1 x.1]) (fun x _=>x.2.2.2) ?_ ?_
   ·(conv=>whnf);exact⟨([],some ⟨ab,0,none⟩,c,n3),rfl,List.Pairwise.nil,(fun q h=>by cases h),_,none,fun q=>⟨fun h=>h.elim,fun h=>by cases h⟩,st4.pick [1,2] (by decide)⟩
   ·rintro⟨ks,a5,c5,n5⟩ H5 junk5 ⟨hnd,hin,D,last,hD,st5⟩;simp only at hnd hin hD st5;have hkl:=Fl 65536 ks hnd fun x hx=>hrng x (hin x hx);refine XI st5 0 R9.inj rfl (fun hall=>?_) fun q v H6 n6 hq hnD hlt st6=>?_
    ·have hset:ks.mergeSort (fun x y=>decide (x≤y))=Cu (clS a (·∈X)):=HG (fun q hq=>Dk (F1 (X:=(·∈X)) hX) q hq) (QB hnd) fun q=>by
      rw [List.mem_mergeSort,←hdone q];exact⟨hin q,fun h=>(hD q).1 (hall q h)⟩
     have hL:∀q∈Cu (clS a (·∈X)),0≤q∧q<65536:=fun q hq=>Dk (F1 (X:=(·∈X)) hX) q ((Fi (Dk (F1 (X:=(·∈X)) hX)) q).1 hq);have hLl:(Cu (clS a (·∈X))).length≤65536:=Hi _;have hel2:(ks.mergeSort fun x y=>decide (x≤y)).length=ks.length:=List.length_mergeSort _;refine Zj XZ st5 1 rfl (by omega) fun H7 st7=>?_;rw [hset]at st7 hel2;rw [←hel2]at st7 ⊢;generalize Cu (clS a (·∈X))=L at*;replace st7:St H0 H7 [pIW KX kI mb r mm D last n5,pS tIk 3 a5 L.length c5 L]:=st7;have hv7:=st7.view 1 rfl;have hpow7:=hpow.agr st7.old;have u7:St H7 H7 [pS tU8 Vk none 0 0 []]:=(St.nil H7).nils tU8 Vk;(conv=>whnf);refine A3.mk [9,59] (fun x:Nat×Option Addr×Nat=>match x with | (i,a9,c9)=>[.slice a9 (Bb (L.take i)).length c9,.int .i64 (i:Int)])
      (fun x H8=>x.1≤L.length∧(x.1=0→x.2.1=none)∧St H7 H8 [pS tU8 Vk x.2.1 (Bb (L.take x.1)).length x.2.2 ((Bb (L.take x.1)).map fun(y:Nat)=>(y:Int))]) (fun x _=>L.length - x.1) ?_ ?_
     ·(conv=>whnf);exact⟨(0,none,0),rfl,Aa8 _,fun _=>rfl,u7⟩
     ·rintro⟨i,a9,c9⟩ H8 junk8 ⟨hi,h09,st8⟩;simp only at hi h09 st8;refine AB.mk (fun hz2=>?_) (fun hz2=>?_)<;>simp only [decide_eq_true_eq,decide_eq_false_iff_not]at hz2
      ·obtain⟨q,hq⟩:=Ad (l:=L) (k:=i) (by omega);have hqr:=hL q (Aa5 hq);have hnl:(Bb (L.take i)).length≤393216:=by
        have h1:=HI (l:=L.take i) fun x hx=>hL x (List.mem_of_mem_take hx);have h2:(L.take i).length≤65536:=by rw [AaQ];omega
        omega
       have hml:((Bb (L.take i)).map fun(y:Nat)=>(y:Int)).length=(Bb (L.take i)).length:=Aa7 _;have hdl:=Rm hqr;refine ixr (i:=i) AL (hv7.frame st8.old) hq rfl ?_;rintro b9 o9 cs9 hS9 hc9 ⟨rfl,-⟩;refine ld1 ct3 hc9.one trivial (ZC V8 st8 hpow7 (by omega) (by omega) (by omega) fun a10 c10 H10 st10=>?_);have e1:((Bb (L.take i)).map fun(y:Nat)=>(y:Int))++HO q=(Bb (L.take i)++D4 q).map fun(y:Nat)=>(y:Int):=by rw [AaK,Xy]
       rw [e1]at st10 ⊢;have hl1:((Bb (L.take i)++D4 q).map fun(y:Nat)=>(y:Int)).length=(Bb (L.take i)).length+(D4 q).length:=by simp
       refine A2 Xk [.int .u8 44] rfl rfl (by decide) (by decide) ?_;intro q11 H11 hq11 hs11 hb11 ha11;have st11:=st10.skip hq11 ha11;refine KY (x:=(44:Int)) st11 0 Xk rfl hb11 ⟨rfl,Qg (x:=44) (by decide)⟩ rfl (by omega) (by decide) fun a12 c12 H12 st12 _=>?_;have e2:((Bb (L.take i)++D4 q).map fun(y:Nat)=>(y:Int))++[44]=(Bb (L.take (i+1))).map fun(y:Nat)=>(y:Int):=by
        rw [Ac hq,L4,AaK (l₂:=[44])];rfl
       have e3:((Bb (L.take i)++D4 q).map fun(y:Nat)=>(y:Int)).length+1=(Bb (L.take (i+1))).length:=by
        rw [hl1,Ac hq,L4];simp only [Aa1,Aa3,Aa6]
       rw [e2,e3]at st12;rw [e3];(conv=>whnf);rw [w64 (x:=(i:Int)+1) (by omega) (by omega)];exact⟨rfl,(i+1,a12,c12),by simp,⟨by simp only;omega,fun h=>by simp only at h;omega,st12⟩,by simp only;omega⟩
      ·obtain rfl:i=L.length:=by omega
       rw [Aa4]at st8;rw [Aa4];have hold:Agr (Old H0) H0 H8:=st7.old.trans (st8.old.mono fun k hk=>st7.up hk);cases a9 with
       | none=>
         have hL0:L=[]:=by
          apply Classical.byContradiction;intro hne;have hnl:=st8.capI 0 rfl;obtain⟨cs,⟨-,hcs⟩,-⟩:=(st8.at_ 0 rfl).1;rcases hcs with⟨h1,h2⟩ | ⟨b,c',l',h1,-⟩
          ·rw [Aa7]at h2;cases L with
           | nil=>exact hne rfl
           | cons x l=>
             have:Bb (x::l)=(D4 x++[44])++Bb l:=by unfold Bb;rw [AaG]
             rw [this]at h2;simp at h2
          ·injection h1 with h1;cases h1
         subst hL0;refine Zq (e:=Vk) rfl rfl rfl ?_;(conv=>whnf);exact⟨rfl,hold⟩
       | some ad=>
         obtain⟨cs,⟨-,hcs⟩,hrp⟩:=(st8.at_ 0 rfl).1;obtain⟨rfl,-⟩:=NC hrp;rcases hcs with⟨h1,-⟩ | ⟨b,c',l',h1,-,hb,-,-,-,htk⟩
         ·injection h1 with h1;cases h1
         ·injection h1 with h1 h2 h3
          injection h1 with h1
          subst h1;refine vb2s (Bb L) (e:=Vk) rfl rfl rfl (fun j x hx=>?_) rfl ?_
          ·have hcj:((((Bb L).map fun(y:Nat)=>(y:Int)).map (Value.int .u8)))[j]? =some (.int .u8 (x:Int)):=by
            rw [AaI,AaI,hx];rfl
           rw [←htk,List.getElem?_take]at hcj;split at hcj
           ·rw [AaA,hb.cell];exact hcj
           ·cases hcj
          (conv=>whnf);exact⟨rfl,hold⟩
    ·have hdq:Dom mm q:=by unfold Dom;rw [hq];rfl
     have hqk:q∉ks:=fun h=>hnD ((hD q).2 h);have hqr:=hrng q hdq;have hnd2:(ks++[q]).Nodup:=AbU.2 ⟨hnd,by simp,fun x hx y hy e=>by rw [Aa0]at hy;subst hy;subst e;exact hqk hx⟩;refine YU (st6.iterW 0 rfl) R9.inj hq (A2 AL [.int .i64 q] rfl rfl (by decide) (by decide) ?_);intro q11 H11 hq11 hs11 hb11 ha11;refine KY (x:=q) (st6.skip hq11 ha11) 1 AL rfl hb11 ⟨rfl,L2 hqr⟩ rfl (by omega) (by decide) fun a12 c12 H12 st12 _=>?_;(conv=>whnf);refine⟨rfl,(ks++[q],a12,c12,n6),by simp only [Aa1,Aa3,Aa6],⟨hnd2,fun x hx=>?_,_,_,fun x=>?_,by simp only [Aa1,Aa3,Aa6];exact st12⟩,hlt⟩
     ·rcases Aa2.1 hx with h | h
      ·exact hin x h
      ·rw [Aa0]at h;subst h;exact hdq
     ·rw [Aa2,Aa0,hD x]
end Go.Proofs.YtfbghcpdinlmcaaGreatDoor
namespace Go.VC
section
variable{α:Type}{T:Ty α}{e:TypeId}{a:Option Addr}{n cap:Nat}{xs:List α}{B:Nat→Prop}{H0 H:Aa}{ps:List Pc}
theorem WU{P:Program}{t ty q o m cap2 by_:Nat}{z:Value}{ys:List α}{ds:List Value}{K:Value→Aa→Prop}(st:StB B H0 H ps)(i:Nat)(ht:SlT P t e T.size by_ z)(hp:ps[i]? =some (pS T e a n cap xs))
  (hd:Bi H q o ds) (hy:T.reps none_ H ds ys) (hm:m=ys.length) (h1:∀u∈ds,u.oneCell'=true) (h63:xs.length+ys.length≤8796093022208) (hby:by_≤16)
  (k:∀a' cap' H',StB B H0 H' (ps.set i (pS T e a' (xs.length+ys.length) cap' (xs++ys)))→Agr (fun k=>k<H.size∧¬slB (.slice a n cap) k) H H'→K (.slice a' (xs.length+ys.length) cap') H'):
  By P (Builtin.append_ #[t,t] ty [.slice a n cap,.slice (some ⟨q,o,none⟩) m cap2].toArray) H K:=by
 refine BZ (T:=T) (S:=none_) (lo:=0) ht (st.at_ i hp).1 (Aa8 _) (fun k hk=>hk.elim) hd hy hm h1 (by unfold maxLen;omega) (by have:=AbM h63 hby;omega) ?_;intro v' H' hown hagr hsz hfr;obtain⟨a',cap',rfl⟩:=hown.hull;rw [Aa1]at hown hfr ⊢;refine k a' cap' H' (st.upd i hp (hagr.mono fun k hk=>⟨hk.1,fun hb=>hk.2 (.inl hb)⟩) _ ⟨hown,fun k hk=>hk.elim⟩ (fun k hk=>?_) (fun k hk=>?_) hsz) hagr
 ·rcases hk with hk | hk
  ·rcases hfr k hk with h | h
   ·exact .inl (.inl h)
   ·exact .inr h
  ·exact hk.elim
 ·rcases hk with hk | hk
  ·exact(hown.lt hk).2
  ·exact hk.elim
end
end Go.VC
namespace Go.Proofs.YtfbghcpdinlmcaaGreatDoor
open Go.VC
theorem SN{l:List Int}(h:∀q∈l,0≤q∧q<65536):∀b∈Bb l,b=44∨(48≤b∧b≤57):=by
 intro b hb;obtain⟨q,hq,hb⟩:=Ab5.1 hb;rcases Aa2.1 hb with hb | hb
 ·exact .inr (IQ (h q hq).1 b hb)
 ·rw [Aa0]at hb;exact .inl hb
def I3(l:List Int)(i:Nat):List Int×Nat:=((Bb l).take i).foldl mst ([],0)
theorem SK{l:List Int}{i b:Nat}(h:(Bb l)[i]? =some b):I3 l (i+1)=mst (I3 l i) b:=by
 unfold I3;rw [Ac h,AaZ];rfl
theorem ON{l:List Int}(h:∀q∈l,0≤q∧q<65536):I3 l (Bb l).length=(l,0):=by
 unfold I3;rw [Aa4,KJ l [] fun q hq=>(h q hq).1];rfl
theorem Mz{l:List Int}(h:∀q∈l,0≤q∧q<65536)(hl:l.length≤65536)(H:Aa):
  Al Tryz.prog 91 #[.string (nmB l)] H fun r H'=>Agr (Old H) H H'∧∃ra rc,r= .slice ra l.length rc∧SlO tIk none_ H' H.size 3 (.slice ra l.length rc) l:=by
 have hsz:=OS h;have hnl:=HI h;refine Al.of_vc Tryz.func91 rfl (Tryz.call91 _) ?_;(conv=>whnf);rw [hsz];have st1:=(St.nil H).nils tIk 3;(conv=>whnf);refine A3.mk [3,4,8] (fun x:Nat×Option Addr×Nat=>match x with | (i,a5,c5)=>[.slice a5 (I3 l i).1.length c5,.int .i64 ((I3 l i).2:Int),.int .i64 (i:Int)])
  (fun x H2=>x.1≤(Bb l).length∧St H H2 [pS tIk 3 x.2.1 (I3 l x.1).1.length x.2.2 (I3 l x.1).1]) (fun x _=>(Bb l).length - x.1) ?_ ?_
 ·(conv=>whnf);exact⟨(0,none,0),rfl,Aa8 _,st1⟩
 ·rintro⟨i,a5,c5⟩ H2 junk2 ⟨hi,st2⟩;simp only at hi st2;obtain⟨hn2,k2,hk2,hm2⟩:=RG l [] i h;change (I3 l i).2<65536 at hn2;change (I3 l i).1=_ at hm2;have hml:(I3 l i).1.length≤65536:=by rw [hm2];simp only [List.nil_append,AaQ];omega
  refine AB.mk (fun hz=>?_) (fun hz=>?_)<;>simp only [decide_eq_true_eq,decide_eq_false_iff_not]at hz
  ·obtain⟨b,hb⟩:=YP (s:=nmB l) (k:=i) (by omega);have hbn:=MV hb;rw [MW h]at hbn;have hsucc:=SK hbn;have hrng:=SN h _ (Aa5 hbn);obtain⟨y,hy⟩:∃y,y=b.toNat:=⟨_,rfl⟩;rw [←hy]at hsucc hrng hbn;obtain⟨M,hM⟩:∃M,M=I3 l i:=⟨_,rfl⟩;rw [←hM]at st2 hn2 hml hsucc;rw [←hM];refine Am.run (Dg Tryz.underlying9 rfl hb ?_);rw [←hy];rcases hrng with h44 | h48
   ·have d1:((y:Int)==44)=true:=by rw [h44];rfl
    have hs2:I3 l (i+1)=(M.1++[(M.2:Int)],0):=by rw [hsucc];unfold mst;rw [if_pos h44]
    (conv=>whnf);rw [d1];refine A2 AL [.int .i64 (M.2:Int)] rfl rfl (by decide) (by decide) ?_;intro q11 H11 hq11 hs11 hb11 ha11;refine KY (x:=(M.2:Int)) (st2.skip hq11 ha11) 0 AL rfl hb11 ⟨rfl,L2 ⟨by omega,by omega⟩⟩ rfl (by omega) (by decide) fun a12 c12 H12 st12 _=>?_;(conv=>whnf);rw [w64 (x:=(i:Int)+1) (by omega) (by omega)];refine⟨rfl,(i+1,a12,c12),?_,⟨by simp only;omega,?_⟩,by simp only;omega⟩
    ·simp only;rw [hs2];simp
    ·simp only;rw [hs2];simpa using st12
   ·have d1:((y:Int)==44)=false:=by rw [beq_eq_false_iff_ne];omega
    have hs2:I3 l (i+1)=(M.1,10*M.2+(y - 48)):=by rw [hsucc];unfold mst;rw [if_neg (by omega)]
    (conv=>whnf);rw [d1];(conv=>whnf);rw [w64 (x:=10*(M.2:Int)) (by omega) (by omega)];refine Dg Tryz.underlying9 rfl hb ?_;rw [←hy];(conv=>whnf);rw [w8 (x:=(y:Int) - 48) (by omega) (by omega)];(conv=>whnf);rw [w64 (x:=(y:Int) - 48) (by omega) (by omega)];(conv=>whnf);rw [w64 (x:=10*(M.2:Int)+((y:Int) - 48)) (by omega) (by omega)];(conv=>whnf);rw [w64 (x:=(i:Int)+1) (by omega) (by omega)];refine⟨rfl,(i+1,a5,c5),?_,⟨by simp only;omega,?_⟩,by simp only;omega⟩
    ·simp only;rw [hs2];simp only;rw [show((10*M.2+(y - 48):Nat):Int)=10*(M.2:Int)+((y:Int) - 48) by omega];simp
    ·simp only;rw [hs2];exact st2
  ·obtain rfl:i=(Bb l).length:=by omega
   rw [ON h]at st2;(conv=>whnf);rw [ON h];exact⟨st2.old,a5,c5,rfl,St.own st2 0 rfl⟩
theorem Ux{S:Nat→Prop}{H:Aa}{a:Option Addr}{c:Nat}{xs:List Int}{q:Int}(hS:∀k,S k→k<H.size)(h:SlD tIk S H a c xs):
  Al Tryz.prog 142 #[.slice a xs.length c,.int .i64 q] H fun r H'=>Agr (Old H) H H'∧∃n:Int,r= .int .i64 n∧decide (0≤n)=decide (q∈xs):=by
 have hle:=h.le;unfold maxLen at hle;refine Al.of_vc Tryz.func142 rfl (Tryz.call142 _) ?_;(conv=>whnf);refine A3.mk [8] (fun i:Nat=>[.int .i64 (i:Int)]) (fun i H2=>i≤xs.length∧Agr (Old H) H H2∧q∉xs.take i) (fun i _=>xs.length - i) ?_ ?_
 ·(conv=>whnf);exact⟨0,rfl,Aa8 _,Agr.refl _ _,by simp⟩
 ·rintro i H2 junk ⟨hi,ha,hno⟩;refine AB.mk (fun hz=>?_) (fun hz=>?_)<;>simp only [decide_eq_true_eq,decide_eq_false_iff_not]at hz
  ·obtain⟨x,hx⟩:=Ad (l:=xs) (k:=i) (by omega);refine ixr (i:=i) AL (h.frame (ha.mono hS)) hx rfl ?_;rintro b3 o3 c3 hS3 hc3 ⟨rfl,-⟩;refine ld1 ct3 hc3.one trivial ?_;by_cases he:x=q
   ·have d1:(q==x)=true:=by rw [he];simp
    (conv=>whnf);rw [d1];(conv=>whnf);refine⟨ha,i,rfl,?_⟩;rw [decide_eq_true (show(0:Int)≤(i:Int) by omega),decide_eq_true (he ▸ Aa5 hx)]
   ·have d1:(q==x)=false:=beq_eq_false_iff_ne.2 (Ne.symm he);(conv=>whnf);rw [d1];(conv=>whnf);rw [w64 (x:=(i:Int)+1) (by omega) (by omega)];refine⟨rfl,i+1,by simp,⟨by omega,ha,?_⟩,by omega⟩;rw [Ac hx,Aa2,Aa0];rintro(h1 | h1)
    ·exact hno h1
    ·exact he h1.symm
  ·obtain rfl:i=xs.length:=by omega
   rw [Aa4]at hno;(conv=>whnf);exact⟨ha,-1,rfl,by rw [decide_eq_false hno];rfl⟩
theorem Ot{S:Nat→Prop}{H:Aa}{a:Option Addr}{c:Nat}{xs:List Int}{q:Int}(hS:∀k,S k→k<H.size)(h:SlD tIk S H a c xs):
  B8 Tryz.prog 94 #[.slice a xs.length c,.int .i64 q] H (.bool (decide (q∈xs))):=by
 refine Al.of_vc Tryz.func94 rfl (Tryz.call94 _) (Ag.mk (Ux (q:=q) hS h) ?_);rintro _ H1 ⟨ha1,n,rfl,hn⟩;(conv=>whnf);rw [hn];(conv=>whnf);exact⟨rfl,ha1⟩
theorem Py{a:NfM}{q:Int}(h:a.has q=true):∃row,(LU a)[q.toNat]? =some row∧row.length≤a.edges.length∧∀e,e∈row↔e∈a.edges∧e.sil=false∧e.fr=q∧a.has e.to=true:=by
 have hn:0≤q∧q<(AG a:Int):=by
  have:=Hb a q;rw [h]at this;simpa using this.symm
 refine⟨_,EN _ _ (by omega),AaU _ _,fun e=>?_⟩;rw [AbD];constructor
 ·rintro⟨e',he,h1⟩;unfold I1 okE at h1;split at h1
  ·rename_i hk;simp only [AaE,AbS]at hk;rw [Ab6]at h1;have hfr:=(NfM.has_iff.1 hk.1.1);split at h1
   ·rename_i h2;injection h1 with h1
    subst h1;exact⟨he,hk.2,by show e'.fr=q;simp only at h2;omega,hk.1.2⟩
   ·cases h1
  ·simp at h1
 ·rintro⟨he,h1,rfl,h3⟩;refine⟨e,he,?_⟩;unfold I1 okE;rw [h,h3,h1];simp
noncomputable def AR(a:NfM)(l:List Int)(b:Nat):List Int:=Cu (goS a (·∈l) b)
theorem HM{a:NfM}{l:List Int}{b:Nat}:∀q∈AR a l b,a.has q=true:=fun q hq=>Np a _ b q ((Fi (Dk (Np a (·∈l) b)) q).1 hq)
theorem L1{S:Nat→Prop}{H H2 H3:Aa}{ps qs:List Pc}{ra:Option Addr}{rc:Nat}{row:List EdM}(h:SlD tEd S H2 ra rc row)(s2:St H H2 ps)(s3:St H H3 qs)(hS:∀k,S k→k<H.size):SlD tEd S H3 ra rc row:=
 h.frame fun k hk=>by rw [s3.old k (hS k hk),s2.old k (hS k hk)]
theorem WF{S:Nat→Prop}{H:Aa}{v:Value}{a:NfM}{l:List Int}{wb b:Nat}(hS:∀k,S k→k<H.size)(hwb:S wb)(hcell:Bi H wb 0 [v])(hv:Ko S H v a)(hel:a.edges.length≤33554432)(hl:∀q∈l,a.has q=true)(hll:l.length≤65536)(hb:b<256)(hpow:HX Tryz.prog H):
  Al Tryz.prog 90 #[.string (nmB l),.int .u8 (b:Int),.pointer (some ⟨wb,0,none⟩)] H fun r H'=>r= .string (nmB (AR a l b))∧Agr (Old H) H H':=by
 have hlr:∀q∈l,0≤q∧q<65536:=fun q hq=>by have:=NfM.has_iff.1 (hl q hq);omega
 have hv0:=hv;obtain⟨nb,sa,sc,ta,tc,hve,hnb,hcells,-,htak⟩:=hv;subst hve;refine Al.of_vc Tryz.func90 rfl (Tryz.call90 _) ?_;have st0:=(St.nil H).nils tIk 3;refine Ag.mk (Mz hlr hll H) ?_;rintro _ H1 ⟨ha1,ma,mc,rfl,hown1⟩;obtain⟨_,_,e1,st1⟩:=st0.got ha1 hown1;injection e1 with e11 e12 e13
 subst e11;subst e13;(conv=>whnf);refine A3.mk [6,14] (fun x:Nat×List Int×Option Addr×Nat=>match x with | (i,T,a5,c5)=>[.slice a5 T.length c5,.int .i64 (i:Int)])
  (fun x H2=>x.1≤l.length∧x.2.1.length≤x.1*33554432∧(∀p,p∈x.2.1↔Je a (·∈l.take x.1) b p)∧St H H2 [pS tIk 3 x.2.2.1 x.2.1.length x.2.2.2 x.2.1,pS tIk 3 ma l.length mc l]) (fun x _=>l.length - x.1) ?_ ?_
 ·(conv=>whnf);refine⟨(0,[],none,0),rfl,Aa8 _,Aa8 _,fun p=>⟨fun h=>(by cases h),fun h=>?_⟩,st1⟩;obtain⟨e,-,-,-,h,-⟩:=h;simp at h
 ·rintro⟨i,T,a5,c5⟩ H2 junk2 ⟨hi,hTl,hT,st2⟩;simp only at hi hTl hT st2;refine AB.mk (fun hz=>?_) (fun hz=>?_)<;>simp only [decide_eq_true_eq,decide_eq_false_iff_not]at hz
  ·obtain⟨q,hq⟩:=Ad (l:=l) (k:=i) (by omega);have hqh:=hl q (Aa5 hq);obtain⟨row,hrow,hrl,hrm⟩:=Py hqh;refine ixr (i:=i) AL (st2.view 1 rfl) hq rfl ?_;rintro b3 o3 c3 hS3 hc3 ⟨rfl,-⟩;refine ld1 ct3 hc3.one trivial (ld1 Mo ((hcell.eq (st2.old wb (hS wb hwb))).one) trivial (fa IV (ld1 (v:=.slice ta (AG a) tc) Ov ((hcells.eq (st2.old nb (hS nb hnb))) 1 _ rfl) trivial ?_)));refine JE (i:=q.toNat) Pp (htak.frame (st2.old.mono hS)) (CJ _ _ _).symm hrow (by have:=NfM.has_iff.1 hqh;omega) ?_;rintro b5 o5 cs5 hS5 hc5 ⟨ra,rc,rfl,hrd2⟩;have hrd:SlD tEd S H2 ra rc row:=hrd2;refine ld1 MY hc5.one trivial ?_;(conv=>whnf);refine A3.mk [6,26] (fun x:Nat×List Int×Option Addr×Nat=>match x with | (j,T',a5,c5)=>[.slice a5 T'.length c5,.int .i64 (j:Int)])
    (fun x H3=>x.1≤row.length∧x.2.1.length≤i*33554432+x.1∧(∀p,p∈x.2.1↔Je a (·∈l.take i) b p∨∃e∈row.take x.1,e.set.getLsbD b=true∧p=e.to)∧St H H3 [pS tIk 3 x.2.2.1 x.2.1.length x.2.2.2 x.2.1,pS tIk 3 ma l.length mc l]) (fun x _=>row.length - x.1) ?_ ?_
   ·(conv=>whnf);exact⟨(0,T,a5,c5),rfl,Aa8 _,AaJ hTl (AbV _ _),fun p=>by rw [hT p];simp,st2⟩
   ·rintro⟨j,T',a6,c6⟩ H3 junk3 ⟨hj,hTl',hT',st3⟩;simp only at hj hTl' hT' st3;have hrd3:SlD tEd S H3 ra rc row:=L1 hrd st2 st3 hS;refine AB.mk (fun hz2=>?_) (fun hz2=>?_)<;>simp only [decide_eq_true_eq,decide_eq_false_iff_not]at hz2
    ·obtain⟨e,he⟩:=Ad (l:=row) (k:=j) (by omega);obtain⟨hem,hes,hef,het⟩:=(hrm e).1 (Aa5 he);have htr:=NfM.has_iff.1 het;refine Am.run (ixr (i:=j) NK hrd3 he rfl ?_);rintro b6 o6 c7 hS6 hc6 ⟨rfl,hok⟩;refine ldN (cs:=edL e) QU hc6 trivial (Ak _ [.int .i64 0,.int .i64 0,.bool false,.int .u64 0,.int .u64 0,.int .u64 0,.int .u64 0] Lo rfl ?_);intro x H4 hx hs4 hb4 ha4;have st4:=st3.box hx hs4 hb4 ha4;refine AI (cs:=edL e) st4 2 rfl rfl (AaM _) rfl fun H5 st5=>?_;rw [Ax (show(edL e).length=7 from rfl)]at st5;refine fa Rx (ldN (cs:=Af e.set) AU ((st5.blk 2 rfl).cells fun j v hv=>Ro e j v hv) trivial (Ao (Us e.set b hb H5) fun H6 ha6=>?_));have st6:=st5.call ha6;cases hbit:e.set.getLsbD b with
     | false=>
       (conv=>whnf);rw [w64 (x:=(j:Int)+1) (by omega) (by omega)];refine⟨rfl,(j+1,T',a6,c6),by simp,⟨by simp only;omega,by simp only;omega,fun p=>?_,st6.pick [0,1] (by decide)⟩,by simp only;omega⟩;simp only;rw [hT' p,Ac he];constructor
       ·rintro(h | ⟨e',h1,h2,h3⟩)
        ·exact .inl h
        ·exact .inr ⟨e',AaC _ h1,h2,h3⟩
       ·rintro(h | ⟨e',h1,h2,h3⟩)
        ·exact .inl h
        ·rcases Aa2.1 h1 with h1 | h1
         ·exact .inr ⟨e',h1,h2,h3⟩
         ·rw [Aa0]at h1;subst h1;rw [hbit]at h2;cases h2
     | true=>
       refine fa Nl ?_;refine ld1 (v:=.int .i64 e.to) ct3 (by rw [(st6.blk 2 rfl).cell];rfl) trivial ?_;refine A2 AL [.int .i64 e.to] rfl rfl (by decide) (by decide) ?_;intro q11 H11 hq11 hs11 hb11 ha11;refine WU (ys:=[e.to]) (st6.skip hq11 ha11) 0 AL rfl (hb11.cells (o:=0) (cs:=[.int .i64 e.to]) fun j v hv=>by rw [AaA];exact hv) (Ty.reps_one ⟨rfl,hok.2⟩) rfl (fun u hu=>by cases Aa0.1 hu;rfl) (by simp only [Aa3,Aa6];omega) (by decide) fun a12 c12 H12 st12 _=>?_;have el:T'.length+[e.to].length=(T'++[e.to]).length:=by simp
       rw [el]at st12 ⊢;(conv=>whnf);rw [w64 (x:=(j:Int)+1) (by omega) (by omega)];refine⟨rfl,(j+1,T'++[e.to],a12,c12),by simp,⟨by simp only;omega,by simp only [Aa1,Aa3,Aa6];omega,fun p=>?_,st12.pick [0,1] (by decide)⟩,by simp only;omega⟩;simp only;rw [Aa2,hT' p,Ac he,Aa0];constructor
       ·rintro((h | ⟨e',h1,h2,h3⟩) | h)
        ·exact .inl h
        ·exact .inr ⟨e',AaC _ h1,h2,h3⟩
        ·exact .inr ⟨e,by simp,hbit,h⟩
       ·rintro(h | ⟨e',h1,h2,h3⟩)
        ·exact .inl (.inl h)
        ·rcases Aa2.1 h1 with h1 | h1
         ·exact .inl (.inr ⟨e',h1,h2,h3⟩)
         ·rw [Aa0]at h1;subst h1;exact .inr h3
    ·obtain rfl:j=row.length:=by omega
     rw [Aa4]at hT';(conv=>whnf);rw [w64 (x:=(i:Int)+1) (by omega) (by omega)];refine⟨rfl,(i+1,T',a6,c6),by simp,⟨by simp only;omega,by simp only;omega,fun p=>?_,st3⟩,by simp only;omega⟩;simp only;rw [hT' p,Ac hq];unfold Je;constructor
     ·rintro(⟨e,h1,h2,h3,h4,h5,h6⟩ | ⟨e,h1,h2,h3⟩)
      ·exact⟨e,h1,h2,h3,AaC _ h4,h5,h6⟩
      ·obtain⟨g1,g2,g3,g4⟩:=(hrm e).1 h1;exact⟨e,g1,g2,h2,by rw [g3];simp,g4,h3⟩
     ·rintro⟨e,h1,h2,h3,h4,h5,h6⟩;rcases Aa2.1 h4 with h4 | h4
      ·exact .inl ⟨e,h1,h2,h3,h4,h5,h6⟩
      ·rw [Aa0]at h4;exact .inr ⟨e,(hrm e).2 ⟨h1,h2,h4,h5⟩,h3,h6⟩
  ·obtain rfl:i=l.length:=by omega
   rw [Aa4]at hT;have hTh:∀q∈T,a.has q=true:=fun q hq=>by
    obtain⟨e,-,-,-,-,h5,rfl⟩:=(hT q).1 hq;exact h5
   have hTeq:(fun q=>q∈T)=Je a (·∈l) b:=funext fun q=>propext (hT q);refine ld1 Mo ((hcell.eq (st2.old wb (hS wb hwb))).one) trivial ?_;have st9:St H H2 [pS tIk 3 a5 T.length c5 T]:=st2.pick [0] (by decide);have hmul:T.length≤2199023255552:=AaJ hTl (by have:=AaR 33554432 hll;omega);refine Ag.mk (QZ st9 hS hv0 hTh hmul hel hpow) ?_;rintro _ H3 ⟨rfl,ha3⟩;(conv=>whnf);refine⟨?_,ha3⟩;rw [hTeq];rfl
end Go.Proofs.YtfbghcpdinlmcaaGreatDoor
namespace Go.VC
section
variable{B:Nat→Prop}{H0 H:Aa}{ps qs:List Pc}{p q:Pc}
theorem StB.pre(st:StB B H0 H (ps++[p])):StB B H0 H (p::ps):=st.perm (List.perm_append_singleton p ps)
end
end Go.VC
namespace Go.Proofs.YtfbghcpdinlmcaaGreatDoor
open Go.VC
def mkM(n:Nat)(A:List Int):List Bool:=(AaL n).map fun(j:Nat)=>decide ((j:Int)∈A)
theorem EO(n:Nat)(A:List Int):(mkM n A).length=n:=by simp [mkM]
theorem Jf{n j:Nat}(A:List Int)(h:j<n):(mkM n A)[j]? =some (decide ((j:Int)∈A)):=by
 unfold mkM;rw [AaI,List.getElem?_range h];rfl
theorem N1{n:Nat}{A A':List Int}(h:∀j:Nat,j<n→((j:Int)∈A↔(j:Int)∈A')):mkM n A=mkM n A':=by
 unfold mkM;exact AbQ fun j hj=>decide_eq_decide.2 (h j (AaN.1 hj))
theorem Wq(n:Nat):mkM n []=List.replicate n false:=by
 unfold mkM;simp [List.map_const']
theorem RE{n:Nat}{A:List Int}{q:Nat}{b:Bool}{A':List Int}(h:q<n)(hb:b=decide ((q:Int)∈A'))(ho:∀j:Nat,j<n→j≠q→((j:Int)∈A↔(j:Int)∈A')):(mkM n A).set q b=mkM n A':=by
 apply List.ext_getElem?;intro j;by_cases hj:j<n
 ·rw [Jf _ hj,List.getElem?_set,EO];by_cases hjq:q=j
  ·subst hjq;rw [if_pos rfl,if_pos hj,hb]
  ·rw [if_neg hjq,Jf _ hj];exact congrArg some (decide_eq_decide.2 (ho j hj (Ne.symm hjq)))
 ·rw [AbN (by rw [AbW,EO];omega),AbN (by rw [EO];omega)]
theorem OO{n q:Nat}(A:List Int)(h:q<n):(mkM n A).set q true=mkM n (A++[(q:Int)]):=
 RE h (by simp) fun j hj hne=>by
  rw [Aa2,Aa0];constructor
  ·exact .inl
  ·rintro(h | h)
   ·exact h
   ·omega
def WJ(nb tb n:Nat)(ma:Option Addr)(mc:Nat)(vt:List Value)(rows:List (List EdM))(OM:List Bool)(rest:List Pc):List Pc:=
 pB tTb nb (tbL n (.slice (some ⟨tb,0,none⟩) n n) (.slice ma n mc))::pT Cz 185 79 tb vt rows::pS A1 4 ma n mc OM::rest
abbrev FP(a:NfM):List (List EdM):=grp (AG a) (He a) a.edges
theorem OU{a:NfM}{q:Int}(h:a.has q=true):∃row,(FP a)[q.toNat]? =some row∧row.length≤a.edges.length∧∀e,e∈row↔e∈a.edges∧e.fr=q∧a.has e.to=true:=by
 have hn:0≤q∧q<(AG a:Int):=by
  have:=Hb a q;rw [h]at this;simpa using this.symm
 refine⟨_,EN _ _ (by omega),AaU _ _,fun e=>?_⟩;rw [AbD];constructor
 ·rintro⟨e',he,h1⟩;unfold He okE at h1;split at h1
  ·rename_i hk;simp only [AaE]at hk;rw [Ab6]at h1;have hfr:=(NfM.has_iff.1 hk.1);split at h1
   ·rename_i h2;injection h1 with h1
    have h1:e'=e:=h1;subst h1;have h2:e'.fr.toNat=q.toNat:=h2;exact⟨he,by omega,hk.2⟩
   ·cases h1
  ·simp at h1
 ·rintro⟨h1,rfl,h3⟩;refine⟨e,h1,?_⟩;unfold He okE;rw [h,h3];simp
structure NV(a:NfM)(X all:List Int):Prop where
 nd:all.Nodup
 cl:∀q∈all,clS a (·∈X) q
theorem NV.snoc{a:NfM}{X all:List Int}{q:Int}(h:NV a X all)(hq:q∉all)(hc:clS a (·∈X) q):NV a X (all++[q]):=
 ⟨AbU.2 ⟨h.nd,by simp,fun x hx y hy e=>by rw [Aa0]at hy;subst hy;subst e;exact hq hx⟩,fun x hx=>by
  rcases Aa2.1 hx with hx | hx
  ·exact h.cl x hx
  ·rw [Aa0]at hx;subst hx;exact hc⟩
theorem NV.len{a:NfM}{X all:List Int}(h:NV a X all)(hX:∀q∈X,a.has q=true):all.length≤65536:=
 Fl 65536 all h.nd fun q hq=>Dk (F1 (X:=(·∈X)) hX) q (h.cl q hq)
section
variable{B:Nat→Prop}{H0 H:Aa}{rest:List Pc}{nb tb mc lc:Nat}{ma la:Option Addr}{vt:List Value}{a:NfM}{X:List Int}
theorem MC{K:Value→Aa→Prop}(st:StB B H0 H (WJ nb tb (AG a) ma mc vt (FP a) (mkM (AG a) []) (pS tIk 3 la X.length lc X::rest)))(hX:∀q∈X,a.has q=true)(hXl:X.length≤2199023255552)(hel:a.edges.length≤33554432)
  (kK:∀ra rc H',StB B H0 H' (WJ nb tb (AG a) ma mc vt (FP a) (mkM (AG a) []) (pS tIk 3 ra (Cu (clS a (·∈X))).length rc (Cu (clS a (·∈X)))::rest))→K (.slice ra (Cu (clS a (·∈X))).length rc) H'):
  Ag Tryz.prog 98 #[.pointer (some ⟨nb,0,none⟩),.slice la X.length lc] H K:=by
 refine Ag.mk (R:=fun r H'=>∃ra rc,r= .slice ra (Cu (clS a (·∈X))).length rc∧StB B H0 H' (WJ nb tb (AG a) ma mc vt (FP a) (mkM (AG a) []) (pS tIk 3 ra (Cu (clS a (·∈X))).length rc (Cu (clS a (·∈X)))::rest))) ?_ fun r H' h=>by
  obtain⟨ra,rc,rfl,h1⟩:=h;exact kK ra rc H' h1
 unfold WJ at st ⊢;have hnle:=HK a;have hclh:∀q,clS a (·∈X) q→a.has q=true:=F1 (X:=(·∈X)) hX;have hhn:∀q:Int,a.has q=true→0≤q∧q<(AG a:Int)∧q<65536:=fun q hq=>by
  have h1:=Hb a q;rw [hq]at h1;have h2:=h1.symm;simp only [AaE,decide_eq_true_eq]at h2;omega
 refine Al.of_vc Tryz.func98 rfl (Tryz.call98 _) ?_;have st0:=(st.nils tIk 3).pre;obtain⟨n,hn⟩:∃n,n=AG a:=⟨_,rfl⟩;rw [←hn]at st0 hnle;have hhn:∀q:Int,a.has q=true→0≤q∧q<(n:Int)∧q<65536:=fun q hq=>by rw [hn];exact hhn q hq
 (conv=>whnf);refine A3.mk [5,6] (fun x:Nat×List Int×Option Addr×Nat=>match x with | (i,all,aa,ac)=>[.slice aa all.length ac,.int .i64 (i:Int)])
  (fun x H2=>match x with | (i,all,aa,ac)=>i≤X.length∧NV a X all∧(∀x∈X.take i,x∈all)∧StB B H0 H2 (pS tIk 3 aa all.length ac all::pB tTb nb (tbL n (.slice (some ⟨tb,0,none⟩) n n) (.slice ma n mc))::pT Cz 185 79 tb vt (FP a)::pS A1 4 ma n mc (mkM n all)::pS tIk 3 la X.length lc X::rest)) (fun x _=>X.length - x.1) ?_ ?_
 ·(conv=>whnf);exact⟨(0,[],none,0),rfl,Aa8 _,⟨by simp,(fun q h=>by cases h)⟩,(fun x h=>by cases h),st0⟩
 ·rintro⟨i,all,aa,ac⟩ H2 junk2 ⟨hi,hI,hin,st2⟩;have hal:=hI.len hX;refine AB.mk (fun hz=>?_) (fun hz=>?_)<;>simp only [decide_eq_true_eq,decide_eq_false_iff_not]at hz
  ·obtain⟨q,hq⟩:=Ad (l:=X) (k:=i) (by omega);have hqX:=Aa5 hq;obtain⟨hq0,hq1,hq2⟩:=hhn q (hX q hqX);obtain⟨y,rfl⟩:=AbJ hq0;have hyn:y<n:=by omega
   obtain⟨mb,rfl⟩:=st2.adr 3 rfl (by rw [EO];omega);have htk:=Ac hq;refine Am.run (Ar.lex rfl (by kernel_rfl) (fa Gq ?_));refine ld1 (v:=.slice (some ⟨mb,0,none⟩) n mc) FM (by rw [(st2.blk 1 rfl).cell];rfl) trivial ?_;refine ixO AL st2 4 rfl hq rfl ?_;rintro b3 o3 c3 hS3 hc3 ⟨rfl,-⟩;refine ld1 ct3 hc3.one trivial (ixO (j:=y) Cs st2 3 rfl (Jf all hyn) rfl ?_);rintro b4 o4 c4 hS4 hc4 rfl;refine ld1 ct4 hc4.one trivial ?_;by_cases hm:(y:Int)∈all
   ·have d1:decide ((y:Int)∈all)=true:=decide_eq_true hm;(conv=>whnf);rw [d1];(conv=>whnf);rw [w64 (x:=(i:Int)+1) (by omega) (by omega)];refine⟨rfl,(i+1,all,aa,ac),by simp,⟨by omega,hI,fun x hx=>?_,st2⟩,by simp only;omega⟩;rw [htk,Aa2,Aa0]at hx;rcases hx with hx | rfl
    ·exact hin x hx
    ·exact hm
   ·have d1:decide ((y:Int)∈all)=false:=decide_eq_false hm;(conv=>whnf);rw [d1];refine Ar.heldZ (Old H2) [9] (sq [0,1,2,3,4,5,6,7,8] (.f 9 .e)) rfl (by kernel_rfl) (fa Gq ?_);refine ld1 (v:=.slice (some ⟨mb,0,none⟩) n mc) FM (by rw [(st2.blk 1 rfl).cell];rfl) (st2.in_ 1 rfl rfl).2 ?_;refine ixO AL st2 4 rfl hq rfl ?_;rintro b5 o5 c5 hS5 hc5 ⟨rfl,-⟩;refine ld1 ct3 hc5.one hS5 (ix Cs (by omega) (by omega) ?_);refine GS (j:=y) (x:=true) st2 3 ct4 rfl rfl (by omega) (by rw [EO];exact hyn) rfl (fun H' _=>rfl) fun H3 st3=>?_;rw [OO all hyn]at st3;replace st3:=st3;refine ixO AL st3 4 rfl hq rfl ?_;rintro b6 o6 c6 hS6 hc6 ⟨rfl,-⟩;refine ld1 ct3 hc6.one trivial (A2 AL [.int .i64 (y:Int)] rfl rfl (by decide) (by decide) ?_);intro q7 H7 hq7 hs7 hb7 ha7;refine KY (x:=(y:Int)) (st3.skip hq7 ha7) 0 AL rfl hb7 ⟨rfl,L2 ⟨by omega,hq2⟩⟩ rfl (by omega) (by decide) fun a8 c8 H8 st8 _=>?_;(conv=>whnf);rw [w64 (x:=(i:Int)+1) (by omega) (by omega)];refine⟨rfl,(i+1,all++[(y:Int)],a8,c8),by simp,⟨by omega,hI.snoc hm (PN hqX),fun x hx=>?_,by simpa using st8⟩,by simp only;omega⟩;rw [htk,Aa2,Aa0]at hx;rcases hx with hx | rfl
    ·exact AaC _ (hin x hx)
    ·exact Ab8 _ (Aa0.2 rfl)
  ·obtain rfl:i=X.length:=by omega
   rw [Aa4]at hin;(conv=>whnf);refine A3.mk [5,7] (fun x:Nat×List Int×Option Addr×Nat=>match x with | (i,all,aa,ac)=>[.slice aa all.length ac,.int .i64 (i:Int)])
    (fun x H2=>match x with | (i,all,aa,ac)=>i≤all.length∧NV a X all∧(∀x∈X,x∈all)∧(∀p∈all.take i,∀e∈a.edges,e.sil=true→e.fr=p→a.has e.to=true→e.to∈all)∧StB B H0 H2 (pS tIk 3 aa all.length ac all::pB tTb nb (tbL n (.slice (some ⟨tb,0,none⟩) n n) (.slice ma n mc))::pT Cz 185 79 tb vt (FP a)::pS A1 4 ma n mc (mkM n all)::pS tIk 3 la X.length lc X::rest)) (fun x _=>65536 - x.1) ?_ ?_
   ·(conv=>whnf);exact⟨(0,all,aa,ac),rfl,Aa8 _,hI,hin,(fun p hp=>by cases hp),st2⟩
   ·clear hin hz hal hI hi st2;rintro⟨i,all,aa,ac⟩ H3 junk3 ⟨hi,hI,hin,hcl,st3⟩;have hal:=hI.len hX;refine AB.mk (fun hz=>?_) (fun hz=>?_)<;>simp only [decide_eq_true_eq,decide_eq_false_iff_not]at hz
    ·obtain⟨q,hq⟩:=Ad (l:=all) (k:=i) (by omega);have hqh:=hclh q (hI.cl q (Aa5 hq));obtain⟨row,hrow,hrl,hrm⟩:=OU hqh;obtain⟨hq0,hq1,hq2⟩:=hhn q hqh;obtain⟨ra,rc,hvr,-⟩:=st3.row 2 rfl hrow;refine Ar.lex rfl (by kernel_rfl) (fa IY ?_);refine ld1 (v:=.slice (some ⟨tb,0,none⟩) n n) Ow (by rw [(st3.blk 1 rfl).cell];rfl) trivial ?_;refine ixO AL st3 0 rfl hq rfl ?_;rintro b3 o3 c3 hS3 hc3 ⟨rfl,-⟩;refine ld1 ct3 hc3.one trivial (ix Pq (by omega) (by omega) (ld1 J6 (st3.tcell 2 rfl hvr (by rw [AaA,Nat.mul_one])) trivial ?_));(conv=>whnf);refine A3.mk [5,9] (fun x:Nat×List Int×Option Addr×Nat=>match x with | (k,all2,aa,ac)=>[.slice aa all2.length ac,.int .i64 (k:Int)])
      (fun x H2=>match x with | (k,all2,aa,ac)=>k≤row.length∧NV a X all2∧all <+: all2∧(∀e∈row.take k,e.sil=true→e.to∈all2)∧StB B H0 H2 (pS tIk 3 aa all2.length ac all2::pB tTb nb (tbL n (.slice (some ⟨tb,0,none⟩) n n) (.slice ma n mc))::pT Cz 185 79 tb vt (FP a)::pS A1 4 ma n mc (mkM n all2)::pS tIk 3 la X.length lc X::rest)) (fun x _=>row.length - x.1) ?_ ?_
     ·(conv=>whnf);exact⟨(0,all,aa,ac),rfl,Aa8 _,hI,AaS _,(fun e h=>by cases h),st3⟩
     ·rintro⟨k,all2,aa2,ac2⟩ H4 junk4 ⟨hk,hI2,hpre,hrk,st4⟩;have hal2:=hI2.len hX;obtain⟨ra',rc',hvr',hrd⟩:=st4.row 2 rfl hrow;rw [hvr]at hvr';injection hvr' with e0
      injection e0 with e1 e2 e3
      subst e1;subst e3;have hx2:=Eu hpre hq;refine AB.mk (fun hz2=>?_) (fun hz2=>?_)<;>simp only [decide_eq_true_eq,decide_eq_false_iff_not]at hz2
      ·obtain⟨e,he⟩:=Ad (l:=row) (k:=k) (by omega);have heR:=(hrm e).1 (Aa5 he);obtain⟨ht0,ht1,ht2⟩:=hhn e.to heR.2.2;obtain⟨y,hy⟩:∃y:Nat,e.to=(y:Int):=⟨e.to.toNat,by omega⟩;have hyn:y<n:=by omega
       obtain⟨mb,rfl⟩:=st4.adr 3 rfl (by rw [EO];omega);have htk:=Ac he;have done:∀all3:List Int,all2 <+: all3→(e.sil=true→e.to∈all3)→∀e'∈row.take (k+1),e'.sil=true→e'.to∈all3:=fun all3 h1 h2 e' he' hs=>by
        rw [htk,Aa2,Aa0]at he';rcases he' with he' | rfl
        ·exact h1.subset (hrk e' he' hs)
        ·exact h2 hs
       refine Am.run (Ar.lex rfl (by kernel_rfl) (ixr (i:=k) HS hrd he rfl ?_));rintro b5 o5 c5 hS5 hc5 ⟨rfl,-⟩;refine fa Nm (ld1 (v:=.bool e.sil) ct4 (hc5 2 _ rfl) trivial ?_);cases hsil:e.sil with
       | false=>
         (conv=>whnf);rw [w64 (x:=(k:Int)+1) (by omega) (by omega)];exact⟨rfl,(k+1,all2,aa2,ac2),by simp,⟨by omega,hI2,hpre,done all2 (AaS _) fun h=>(by rw [hsil]at h;cases h),st4⟩,by simp only;omega⟩
       | true=>
         refine fa Gq ?_;refine ld1 (v:=.slice (some ⟨mb,0,none⟩) n mc) FM (by rw [(st4.blk 1 rfl).cell];rfl) trivial ?_;refine ixr (i:=k) HS hrd he rfl ?_;rintro b6 o6 c6 hS6 hc6 ⟨rfl,-⟩;refine fa HD (ld1 (v:=.int .i64 e.to) ct3 (hc6 1 _ rfl) trivial (ixO (j:=y) Cs st4 3 rfl (Jf all2 hyn) hy ?_));rintro b7 o7 c7 hS7 hc7 rfl;refine ld1 ct4 hc7.one trivial ?_;by_cases hm:(y:Int)∈all2
         ·have d1:decide ((y:Int)∈all2)=true:=decide_eq_true hm;(conv=>whnf);rw [d1];(conv=>whnf);rw [w64 (x:=(k:Int)+1) (by omega) (by omega)];exact⟨rfl,(k+1,all2,aa2,ac2),by simp,⟨by omega,hI2,hpre,done all2 (AaS _) fun _=>hy ▸ hm,st4⟩,by simp only;omega⟩
         ·have d1:decide ((y:Int)∈all2)=false:=decide_eq_false hm;(conv=>whnf);rw [d1];refine Ar.heldZ (Old H4) [10] (sq [0,1,2,3,4,5,6,7,8,9] (.f 10 .e)) rfl (by kernel_rfl) (fa Gq ?_);refine ld1 (v:=.slice (some ⟨mb,0,none⟩) n mc) FM (by rw [(st4.blk 1 rfl).cell];rfl) (st4.in_ 1 rfl rfl).2 ?_;refine ixr (i:=k) HS hrd he rfl ?_;rintro b8 o8 c8 hS8 hc8 ⟨rfl,-⟩;refine fa HD (ld1 (v:=.int .i64 e.to) ct3 (hc8 1 _ rfl) hS8 (ix Cs (by omega) (by omega) ?_));refine GS (j:=y) (x:=true) st4 3 ct4 rfl rfl (by omega) (by rw [EO];exact hyn) rfl (fun H' _=>rfl) fun H9 st9=>?_;rw [OO all2 hyn]at st9;obtain⟨ra',rc',hvr',hrd9⟩:=st9.row 2 rfl hrow;rw [hvr]at hvr';injection hvr' with e0
          injection e0 with e1 e2 e3
          subst e1;subst e3;refine ixr (i:=k) HS hrd9 he rfl ?_;rintro b10 o10 c10 hS10 hc10 ⟨rfl,-⟩;refine fa HD (ld1 (v:=.int .i64 e.to) ct3 (hc10 1 _ rfl) trivial (A2 AL [.int .i64 e.to] rfl rfl (by decide) (by decide) ?_));intro q11 H11 hq11 hs11 hb11 ha11;refine KY (x:=(y:Int)) (st9.skip hq11 ha11) 0 AL rfl hb11 ⟨by rw [hy],L2 ⟨by omega,by omega⟩⟩ rfl (by omega) (by decide) fun a12 c12 H12 st12 _=>?_;(conv=>whnf);rw [w64 (x:=(k:Int)+1) (by omega) (by omega)];refine⟨rfl,(k+1,all2++[(y:Int)],a12,c12),by simp,⟨by omega,hI2.snoc hm (hy ▸ IK a _ e heR.1 hsil heR.2.2 (by rw [heR.2.1];exact hI2.cl q (Aa5 hx2))),hpre.trans (AbE _ _),done _ (AbE _ _) fun _=>hy ▸ Ab8 _ (Aa0.2 rfl),by simpa using st12⟩,by simp only;omega⟩
      ·obtain rfl:k=row.length:=by omega
       rw [Aa4]at hrk;have hle2:=hpre.length_le;have htk2:all2.take (i+1)=all.take i++[q]:=by
        rw [Ac hx2];obtain⟨t,rfl⟩:=hpre;rw [AbB hi]
       (conv=>whnf);rw [w64 (x:=(i:Int)+1) (by omega) (by omega)];refine⟨rfl,(i+1,all2,aa2,ac2),by simp,⟨by omega,hI2,fun x hx=>hpre.subset (hin x hx),fun p hp e he h1 h2 h3=>?_,st4⟩,by simp only;omega⟩;rw [htk2,Aa2,Aa0]at hp;rcases hp with hp | rfl
       ·exact hpre.subset (hcl p hp e he h1 h2 h3)
       ·exact hrk e ((hrm e).2 ⟨he,h2,h3⟩) h1
    ·obtain rfl:i=all.length:=by omega
     rw [Aa4]at hcl;have hall:∀q,q∈all↔clS a (·∈X) q:=fun q=>⟨hI.cl q,FX (Y:=(·∈all)) hin (fun e he h1 h2 h3=>hcl e.fr h3 e he h1 rfl h2) q⟩;have hrngA:∀q∈all,0≤q∧q<(n:Int)∧q<65536:=fun q hq=>hhn q (hclh q (hI.cl q hq));refine fa Gp ?_;refine ld1 (v:=.int .i64 (n:Int)) ct3 (by rw [(st3.blk 1 rfl).cell];rfl) trivial ?_;(conv=>whnf);refine A3.mk [10,11,12] (fun x:Nat×Int×Int=>match x with | (i,lo,hi)=>[.int .i64 lo,.int .i64 hi,.int .i64 (i:Int)])
      (fun x H2=>match x with | (i,lo,hi)=>i≤all.length∧0≤lo∧lo≤(n:Int)∧ -1≤hi∧hi<(n:Int)∧(∀x∈all.take i,lo≤x∧x≤hi)∧StB B H0 H2 (pS tIk 3 aa all.length ac all::pB tTb nb (tbL n (.slice (some ⟨tb,0,none⟩) n n) (.slice ma n mc))::pT Cz 185 79 tb vt (FP a)::pS A1 4 ma n mc (mkM n all)::pS tIk 3 la X.length lc X::rest)) (fun x _=>all.length - x.1) ?_ ?_
     ·(conv=>whnf);exact⟨(0,(n:Int),-1),rfl,Aa8 _,by omega,by omega,by omega,by omega,(fun x h=>by cases h),st3⟩
     ·rintro⟨i,lo,hi⟩ H4 junk4 ⟨hil,hlo0,hlo1,hhi0,hhi1,hbd,st4⟩;refine AB.mk (fun hz2=>?_) (fun hz2=>?_)<;>simp only [decide_eq_true_eq,decide_eq_false_iff_not]at hz2
      ·obtain⟨q,hq⟩:=Ad (l:=all) (k:=i) (by omega);have hqr:=hrngA q (Aa5 hq);refine ixO AL st4 0 rfl hq rfl ?_;rintro b5 o5 c5 hS5 hc5 ⟨rfl,-⟩;refine ld1 ct3 hc5.one trivial (Xm (ixO AL st4 0 rfl hq rfl ?_));rintro b6 o6 c6 hS6 hc6 ⟨rfl,-⟩;refine ld1 ct3 hc6.one trivial (Xl ?_);(conv=>whnf);rw [w64 (x:=(i:Int)+1) (by omega) (by omega)];refine⟨rfl,(i+1,(if q<lo then q else lo),(if hi<q then q else hi)),by simp,⟨by omega,?_,?_,?_,?_,fun x hx=>?_,st4⟩,by simp only;omega⟩
       ·split<;>omega
       ·split<;>omega
       ·split<;>omega
       ·split<;>omega
       ·rw [Ac hq,Aa2,Aa0]at hx;rcases hx with hx | rfl
        ·have:=hbd x hx;constructor<;>split<;>omega
        ·constructor<;>split<;>omega
      ·obtain rfl:i=all.length:=by omega
       rw [Aa4]at hbd;have st5:=(st4.nils tIk 3).pre;have hm0:mkM n all=mkM n (all.filter fun x=>decide (lo≤x)):=N1 fun j hj=>by
        rw [Aa9,decide_eq_true_eq];exact⟨fun h=>⟨h,(hbd _ h).1⟩,fun h=>h.1⟩
       rw [hm0]at st5;(conv=>whnf);refine A3.mk [13,14] (fun x:Int×List Int×Option Addr×Nat=>match x with | (q,out,oa,oc)=>[.slice oa out.length oc,.int .i64 q])
        (fun x H2=>match x with | (q,out,oa,oc)=>lo≤q∧(q≤hi+1∨q=lo)∧out.Pairwise (·<·)∧(∀x,x∈out↔x∈all∧x<q)∧StB B H0 H2 (pS tIk 3 oa out.length oc out::pS tIk 3 aa all.length ac all::pB tTb nb (tbL n (.slice (some ⟨tb,0,none⟩) n n) (.slice ma n mc))::pT Cz 185 79 tb vt (FP a)::pS A1 4 ma n mc (mkM n (all.filter fun x=>decide (q≤x)))::pS tIk 3 la X.length lc X::rest)) (fun x _=>(hi+1 - x.1).toNat) ?_ ?_
       ·(conv=>whnf);exact⟨(lo,[],none,0),rfl,Int.le_refl _,.inr rfl,List.Pairwise.nil,fun x=>⟨fun h=>(by cases h),fun h=>by have:=(hbd x h.1).1;omega⟩,st5⟩
       ·rintro⟨q,out,oa,oc⟩ H6 junk6 ⟨hq0,hq1,hsrt,hmem,st6⟩;refine AB.mk (fun hz3=>?_) (fun hz3=>?_)<;>simp only [decide_eq_true_eq,decide_eq_false_iff_not]at hz3
        ·obtain⟨y,rfl⟩:=AbJ (show 0≤q by omega);have hyn:y<n:=by omega
         obtain⟨mb,rfl⟩:=st6.adr 4 rfl (by rw [EO];omega);have hol:out.length≤65536:=Fl 65536 out (hsrt.imp fun h=>by omega) fun x hx=>by have:=hrngA x ((hmem x).1 hx).1;omega
         refine Am.run (fa Gq ?_);refine ld1 (v:=.slice (some ⟨mb,0,none⟩) n mc) FM (by rw [(st6.blk 2 rfl).cell];rfl) trivial ?_;refine ixO (j:=y) Cs st6 4 rfl (Jf _ hyn) rfl ?_;rintro b7 o7 c7 hS7 hc7 rfl;refine ld1 ct4 hc7.one trivial ?_;by_cases hm:(y:Int)∈all
         ·have d1:decide ((y:Int)∈all.filter fun x=>decide ((y:Int)≤x))=true:=decide_eq_true (by rw [Aa9,decide_eq_true_eq];exact⟨hm,Int.le_refl _⟩);(conv=>whnf);rw [d1];refine A2 AL [.int .i64 (y:Int)] rfl rfl (by decide) (by decide) ?_;intro q8 H8 hq8 hs8 hb8 ha8;refine KY (x:=(y:Int)) (st6.skip hq8 ha8) 0 AL rfl hb8 ⟨rfl,L2 ⟨by omega,by omega⟩⟩ rfl (by omega) (by decide) fun a9 c9 H9 st9 _=>(fa Gq ?_);refine ld1 (v:=.slice (some ⟨mb,0,none⟩) n mc) FM (by rw [(st9.blk 2 rfl).cell];rfl) trivial ?_;refine ix Cs (by omega) (by omega) ?_;refine GS (j:=y) (x:=false) st9 4 ct4 rfl rfl (by omega) (by rw [EO];exact hyn) rfl (fun H' _=>rfl) fun H10 st10=>?_;have hm1:(mkM n (all.filter fun x=>decide ((y:Int)≤x))).set y false=mkM n (all.filter fun x=>decide ((y:Int)+1≤x)):=RE hyn (decide_eq_false fun h=>by rw [Aa9,decide_eq_true_eq]at h;have:=h.2;omega).symm fun j hj hne=>by
           rw [Aa9,Aa9,decide_eq_true_eq,decide_eq_true_eq];constructor
           ·rintro⟨h1,h2⟩;exact⟨h1,by omega⟩
           ·rintro⟨h1,h2⟩;exact⟨h1,by omega⟩
          rw [hm1]at st10;(conv=>whnf);rw [w64 (x:=(y:Int)+1) (by omega) (by omega)];refine⟨rfl,((y:Int)+1,out++[(y:Int)],a9,c9),by simp,⟨by omega,.inl (by omega),?_,fun x=>?_,by simpa using st10⟩,by simp only;omega⟩
          ·rw [List.pairwise_append];exact⟨hsrt,List.pairwise_singleton _ _,fun x hx z hz=>by rw [Aa0]at hz;subst hz;exact((hmem x).1 hx).2⟩
          ·rw [Aa2,Aa0,hmem x];constructor
           ·rintro(⟨h1,h2⟩ | rfl)
            ·exact⟨h1,by omega⟩
            ·exact⟨hm,by omega⟩
           ·rintro⟨h1,h2⟩;by_cases hxy:x=(y:Int)
            ·exact .inr hxy
            ·exact .inl ⟨h1,by omega⟩
         ·have d1:decide ((y:Int)∈all.filter fun x=>decide ((y:Int)≤x))=false:=decide_eq_false (by rw [Aa9];exact fun h=>hm h.1);(conv=>whnf);rw [d1];have hm1:mkM n (all.filter fun x=>decide ((y:Int)≤x))=mkM n (all.filter fun x=>decide ((y:Int)+1≤x)):=N1 fun j hj=>by
           rw [Aa9,Aa9,decide_eq_true_eq,decide_eq_true_eq];constructor
           ·rintro⟨h1,h2⟩;refine⟨h1,?_⟩;by_cases hjy:(j:Int)=(y:Int)
            ·rw [hjy]at h1;exact absurd h1 hm
            ·omega
           ·rintro⟨h1,h2⟩;exact⟨h1,by omega⟩
          rw [hm1]at st6;(conv=>whnf);rw [w64 (x:=(y:Int)+1) (by omega) (by omega)];refine⟨rfl,((y:Int)+1,out,oa,oc),by simp,⟨by omega,.inl (by omega),hsrt,fun x=>?_,st6⟩,by simp only;omega⟩;rw [hmem x];constructor
          ·rintro⟨h1,h2⟩;exact⟨h1,by omega⟩
          ·rintro⟨h1,h2⟩;refine⟨h1,?_⟩;by_cases hxy:x=(y:Int)
           ·rw [hxy]at h1;exact absurd h1 hm
           ·omega
        ·have hout:out=Cu (clS a (·∈X)):=HG (fun q hq=>Dk hclh q hq) hsrt fun x=>by
          rw [hmem x,←hall x];exact⟨fun h=>h.1,fun h=>⟨h,by have:=hbd x h;omega⟩⟩
         have hmz:mkM n (all.filter fun x=>decide (q≤x))=mkM n []:=N1 fun j hj=>by
          rw [Aa9,decide_eq_true_eq];exact⟨fun h=>by have:=hbd _ h.1;omega,fun h=>by cases h⟩
         rw [hmz]at st6;subst hout;(conv=>whnf);refine⟨oa,oc,rfl,?_⟩;rw [←hn];refine(st6.sub ?_).perm (List.perm_middle (l₁:=[_,_,_])).symm;exact((((((List.Sublist.refl rest).cons _).cons_cons _).cons_cons _).cons_cons _).cons _).cons_cons _
end
end Go.Proofs.YtfbghcpdinlmcaaGreatDoor
namespace Go.VC
section
variable{α:Type}{T:Ty α}{e e2:TypeId}{a ra:Option Addr}{n cap rn rc:Nat}{xs:List (List α)}{row:List α}{B S:Nat→Prop}{H0 H:Aa}{ps rest:List Pc}
theorem StB.absorb(st:StB B H0 H (pN (tSl T) S e a n cap xs::pS T e2 ra rn rc row::rest)):StB B H0 H (pN (tSl T) (fun k=>S k∨slB (.slice ra rn rc) k) e a n cap xs::rest):=by
 have hap:=st.apart2 (i:=0) (j:=1) rfl rfl (by decide);have h0:=st.at_ 0 rfl;refine(st.join 0 1 rfl rfl (by decide)).say 0 rfl _ ⟨h0.1.mono fun k hk=>.inl hk,fun k hk=>?_⟩ fun k hk=>?_
 ·rcases hk with hk | hk
  ·exact h0.2 k hk
  ·exact fun h=>hap k (.inl h) (.inl hk)
 ·rcases hk with hk | hk | hk
  ·exact .inl (.inl hk)
  ·exact .inl (.inr hk)
  ·exact .inr (.inl hk)
theorem T7{P:Program}{t ty q by_ m cap2:Nat}{z:Value}{ds:List Value}{K:Value→Aa→Prop}(st:StB B H0 H (pN (tSl T) S e a n cap xs::rest))(ht:SlT P t e (tSl T).size by_ z)
  (hd:Bi H q 0 ds) (hy:(tSl T).rep S H ds row) (hm:m=1) (h1:∀u∈ds,u.oneCell'=true) (h63:xs.length+1≤34359738368) (hby:by_≤1024)
  (k:∀a' cap' H',StB B H0 H' (pN (tSl T) S e a' (xs.length+1) cap' (xs++[row])::rest)→K (.slice a' (xs.length+1) cap') H'):
  By P (Builtin.append_ #[t,t] ty [.slice a n cap,.slice (some ⟨q,0,none⟩) m cap2].toArray) H K:=by
 subst hm;have h0:=st.at_ 0 rfl;refine BZ (T:=tSl T) (S:=S) (lo:=0) (ys:=[row]) ht h0.1 (Aa8 _) (fun k hk=>⟨(st.in_ 0 rfl (.inr hk)).2,h0.2 k hk⟩) hd (Ty.reps_one hy) rfl h1 (by unfold maxLen;simp only [AaB];omega) (by have:=AbM h63 hby;simp only [AaB];omega) ?_;intro v' H' hown hagr hsz hfr;obtain⟨a',cap',rfl⟩:=hown.hull;rw [Aa1,AaB]at hown hfr ⊢;refine k a' cap' H' (st.upd 0 rfl (hagr.mono fun k hk=>⟨hk.1,fun hb=>hk.2 (.inl hb)⟩) _ ⟨hown,fun k hk hb=>?_⟩ (fun k hk=>?_) (fun k hk=>?_) hsz)
 ·rcases hfr k hb with h | h
  ·exact h0.2 k hk h
  ·have:=(st.in_ 0 rfl (.inr hk)).2;omega
 ·rcases hk with hk | hk
  ·rcases hfr k hk with h | h
   ·exact .inl (.inl h)
   ·exact .inr h
  ·exact .inl (.inr hk)
 ·rcases hk with hk | hk
  ·exact(hown.lt hk).2
  ·have:=(st.in_ 0 rfl (.inr hk)).2;omega
end
end Go.VC
namespace Go.Proofs.YtfbghcpdinlmcaaGreatDoor
open Go.VC
theorem Ug{S:Nat→Prop}{H:Aa}{a:NfM}{l:List Int}{nb:Nat}{sv:Value}(hS:∀k,S k→k<H.size)(hnb:S nb)(hc:Bi H nb 0 (nfL a sv))(hl:∀q∈l,0≤q∧q<65536)(hll:l.length≤65536):
  B8 Tryz.prog 93 #[.string (nmB l),.pointer (some ⟨nb,0,none⟩)] H (.bool (decide (a.fin∈l))):=by
 refine Al.of_vc Tryz.func93 rfl (Tryz.call93 _) ?_;have st0:=St.nil H;refine Ar.heldZ (Old H) [] (sq [0,2,3] (.f 1 (.f 4 (.f 5 .e)))) rfl (by kernel_rfl) (fa Uj (ld1 (v:=.int .i64 a.fin) ct3 (hc 2 _ rfl) (hS nb hnb) (Ag.mk (Mz hl hll H) ?_)));rintro _ H1 ⟨ha1,ma,mc,rfl,hown1⟩;obtain⟨_,_,e1,st1⟩:=st0.got ha1 hown1;injection e1 with e11 e12 e13
 subst e11;subst e13;refine⟨ha1,?_⟩;refine Ao (Ot (q:=a.fin) (fun k hk=>hk) (st1.view 0 rfl)) fun H2 ha2=>?_;have st2:=st1.call ha2;have g2:Agr (Old H) H H2:=ha1.trans (ha2.mono fun k hk=>As ha1 hk);refine⟨g2,?_⟩;(conv=>whnf);refine⟨g2,?_⟩;(conv=>whnf);exact⟨rfl,st2.old⟩
abbrev tEx:TypeId:=259
def exL(mb:Nat)(fv:Value)(most:Nat):List Value:=[.map (some mb),fv,.int .i64 (most:Int)]
def exM(F:List (List Int))(s:ByteArray):Option Value:=(F.findIdx? fun k=>decide (nmB k=s)).map fun(i:Nat)=>.int .i64 (i:Int)
theorem Xh:IE Tryz.prog 256 9 3 (.int .i64 0):=⟨rfl,rfl⟩
theorem Xf:KR Tryz.prog 9 (KX (α:=ByteArray)) Value.string:=KR.ofE Tryz.underlying9 Go.VC.keyS
def V4(F:List (List Int)):Prop:=∀l∈F,(∀q∈l,0≤q∧q<65536)∧l.length≤65536
theorem Mu{F:List (List Int)}(hF:V4 F){k:List Int}(hk:∀q∈k,0≤q∧q<65536):(F.findIdx? fun l=>decide (nmB l=nmB k))=F.findIdx? (·=k):=by
 induction F with
 | nil=>rfl
 | cons l F ih=>
   have h1:decide (nmB l=nmB k)=decide (l=k):=decide_eq_decide.2 ⟨fun h=>Ws (hF l (by simp)).1 hk h,fun h=>by rw [h]⟩;rw [AaV,AaV,h1,ih fun m hm=>hF m (Ab9 _ hm)]
theorem VT{F:List (List Int)}{k:List Int}(hno:(F.findIdx? fun l=>decide (nmB l=nmB k))=none):put (exM F) (nmB k) (some (.int .i64 (F.length:Int)))=exM (F++[k]):=by
 funext s;unfold put exM;rw [List.findIdx?_append];by_cases hs:s=nmB k
 ·subst hs;rw [if_pos rfl,hno];simp [AaV]
 ·rw [if_neg hs];cases h:F.findIdx? fun l=>decide (nmB l=s)with
  | some i=>simp
  | none=>
    have:nmB k≠s:=fun e=>hs e.symm;simp [AaV,this]
theorem VS{F:List (List Int)}(hF:V4 F){k:List Int}(hk:∀q∈k,0≤q∧q<65536):exM F (nmB k)=(F.findIdx? (·=k)).map fun(i:Nat)=>.int .i64 (i:Int):=by
 unfold exM;rw [Mu hF hk]
theorem Wt{l:List Int}(h:∀q∈l,0≤q∧q<65536)(hl:l.length≤65536):(nmB l).size≤maxLen:=by
 rw [OS h];have:=HI h;unfold maxLen;omega
section
variable{B:Nat→Prop}{H0 H:Aa}{rest:List Pc}{xb mb fc most:Nat}{fa:Option Addr}{F:List (List Int)}{k:List Int}
def exS(xb mb:Nat)(fa:Option Addr)(fc most:Nat)(F:List (List Int))(rest:List Pc):List Pc:=
 pB tEx xb (exL mb (.slice fa F.length fc) most)::pMW KX Value.string mb (exM F)::pS Yf 9 fa F.length fc (F.map nmB)::rest
theorem WY{K:Value→Aa→Prop}(st:StB B H0 H (exS xb mb fa fc most F rest))(hF:V4 F)(hk:∀q∈k,0≤q∧q<65536)(hkl:k.length≤65536)(hm:most≤4096)(hFl:F.length≤most)
  (k1:∀F' i fa' fc' H',atF most F k=some (F',i)→StB B H0 H' (exS xb mb fa' fc' most F' rest)→K (.tuple #[.int .i64 (i:Int),.bool true]) H')
  (k2:∀H',atF most F k=none→StB B H0 H' (exS xb mb fa fc most F rest)→K (.tuple #[.int .i64 0,.bool false]) H'):
  Ag Tryz.prog 143 #[.pointer (some ⟨xb,0,none⟩),.string (nmB k)] H K:=by
 refine Ag.mk (R:=fun r H'=>(∃(F':List (List Int)) (i:Nat) (fa':Option Addr) (fc':Nat),r= .tuple #[.int .i64 (i:Int),.bool true]∧atF most F k=some (F',i)∧StB B H0 H' (exS xb mb fa' fc' most F' rest))∨(r= .tuple #[.int .i64 0,.bool false]∧atF most F k=none∧StB B H0 H' (exS xb mb fa fc most F rest))) ?_ fun r H' h=>by
  rcases h with⟨F',i,fa',fc',rfl,h1,h2⟩ | ⟨rfl,h1,h2⟩
  ·exact k1 F' i fa' fc' H' h1 h2
  ·exact k2 H' h1 h2
 unfold exS at st;have hb0:=st.blk 0 rfl;refine Al.of_vc Tryz.func143 rfl (Tryz.call143 _) (VC.fa Rz ?_);refine ld1 (v:=.map (some mb)) Xb (by rw [hb0.cell];rfl) trivial ?_;refine U6 (a:=nmB k) Xh Xf trivial (st.mapW 1 rfl) trivial ?_;rw [VS hF hk];cases hf:F.findIdx? (·=k)with
 | some i=>
   (conv=>whnf);exact .inl ⟨F,i,fa,fc,rfl,by unfold atF;rw [hf],st⟩
 | none=>
   refine Ar.lex rfl (by kernel_rfl) (VC.fa F8 ?_);refine ld1 (v:=.slice fa F.length fc) JV (by rw [hb0.cell];rfl) trivial ?_;refine VC.fa VZ ?_;refine ld1 (v:=.int .i64 (most:Int)) ct3 (by rw [hb0.cell];rfl) trivial ?_;by_cases hlt:F.length<most
   ·have d1:decide ((most:Int)≤(F.length:Int))=false:=decide_eq_false (by omega);(conv=>whnf);rw [d1];refine Ar.heldZ (Old H) [10] (sq [0,1,2,3,4,5,6,7,8,9] (.f 10 .e)) rfl (by kernel_rfl) (VC.fa Rz ?_);refine ld1 (v:=.map (some mb)) Xb (by rw [hb0.cell];rfl) hb0.lt ?_;refine VC.fa F8 ?_;refine ld1 (v:=.slice fa F.length fc) JV (by rw [hb0.cell];rfl) hb0.lt ?_;refine U8 (a:=nmB k) st 1 Xh Xf trivial rfl (VT (by rw [Mu hF hk];exact hf)) fun H1 st1=>?_;have hb1:=st1.blk 0 rfl;refine VC.fa F8 ?_;refine ld1 (v:=.slice fa F.length fc) JV (by rw [hb1.cell];rfl) trivial ?_;refine A2 RX [.string (nmB k)] rfl rfl (by decide) (by decide) ?_;intro q11 H11 hq11 hs11 hb11 ha11;refine KY (x:=nmB k) (st1.skip hq11 ha11) 2 RX rfl hb11 ⟨rfl,Wt hk hkl⟩ rfl (by rw [Aa7];omega) (by decide) fun a12 c12 H12 st12 _=>?_;rw [show(F.map nmB).length+1=(F++[k]).length by simp,show F.map nmB++[nmB k]=(F++[k]).map nmB by simp]at st12;rw [show(F.map nmB).length+1=(F++[k]).length by simp];refine VC.fa F8 (AT st12 0 JV rfl (show 1<3 by decide) rfl fun H13 st13=>?_);replace st13:StB B H0 H13 (exS xb mb a12 c12 most (F++[k]) rest):=st13;refine VC.fa F8 ?_;refine ld1 (v:=.slice a12 (F++[k]).length c12) JV (by rw [(st13.blk 0 rfl).cell];rfl) trivial ?_;have w1:IntKind.wrap .i64 (((F++[k]).length:Int) - 1)=(F.length:Int):=by
     rw [show(F++[k]).length=F.length+1 by simp,w64 (by omega) (by omega)];omega
    (conv=>whnf);rw [w1];(conv=>whnf);exact .inl ⟨F++[k],F.length,a12,c12,rfl,by unfold atF;rw [hf];simp only;rw [if_pos hlt],st13⟩
   ·have d1:decide ((most:Int)≤(F.length:Int))=true:=decide_eq_true (by omega);(conv=>whnf);rw [d1];(conv=>whnf);exact .inr ⟨rfl,by unfold atF;rw [hf];simp only;rw [if_neg hlt],st⟩
end
def DQ(F:List (List Int))(h:Nat):List Nat:=(AaL F.length).filter fun i=>decide ((F[i]?.map BU)=some h)
theorem Mw(F:List (List Int))(x:List Int)(h:Nat):DQ (F++[x]) h=if BU x=h then DQ F h++[F.length]else DQ F h:=by
 unfold DQ;rw [Aa1,AaB,AbA,AaP];have e1:(AaL F.length).filter (fun i=>decide (((F++[x])[i]?.map BU)=some h))=(AaL F.length).filter (fun i=>decide ((F[i]?.map BU)=some h)):=List.filter_congr fun i hi=>by
  rw [AbF (AaN.1 hi)]
 rw [e1];have e2:(F++[x])[F.length]? =some x:=by simp
 by_cases hh:BU x=h
 ·rw [if_pos hh,AaO (by rw [e2];simp [hh])];rfl
 ·rw [if_neg hh,AaX (by rw [e2];simp [hh])];simp
theorem OF{F:List (List Int)}{h i:Nat}:i∈DQ F h↔∃x,F[i]? =some x∧BU x=h:=by
 unfold DQ;rw [Aa9,AaN,decide_eq_true_eq];constructor
 ·rintro⟨h1,h2⟩;obtain⟨x,hx⟩:=Ad h1;rw [hx]at h2;exact⟨x,hx,by simpa using h2⟩
 ·rintro⟨x,hx,rfl⟩;exact⟨(AaF.1 hx).1,by rw [hx];rfl⟩
theorem OE(F:List (List Int))(h:Nat):(DQ F h).length≤F.length:=by
 unfold DQ;exact AaJ (Ab7 _ _) (by simp)
theorem R8(l:List Int):BU l<1024:=Nat.mod_lt _ (by decide)
def Jg(l:List Nat):List Int:=l.map fun(i:Nat)=>(i:Int)
def Gj(F:List (List Int)):Nat→HZ:=fun h=>Mi tIk 3 (Jg (DQ F h))
abbrev Fv:TypeId:=190
def bkS(b:Nat)(sa:Option Addr)(sc:Nat)(vs:List Value)(S:Nat→Prop)(F:List (List Int))(rest:List Pc):List Pc:=
 pN (tSl tIk) S 41 sa F.length sc F::pG Fv b (.slice sa F.length sc) vs (Gj F)::rest
theorem PX{F:List (List Int)}{l:List Int}{i:Nat}(hn:F.Nodup)(h:F[i]? =some l):F.findIdx? (·=l)=some i:=by
 rw [Ab0];obtain⟨hi,e⟩:=AaF.1 h;refine⟨hi,by simpa using e,fun j hj=>?_⟩;have:=(AbG.1 hn) j i (by omega) hi hj;rw [e]at this;simpa using this
theorem PW{F:List (List Int)}{l:List Int}(h:l∉F):F.findIdx? (·=l)=none:=by
 rw [List.findIdx?_eq_none_iff];intro x hx;simp only [decide_eq_false_iff_not];rintro rfl;exact h hx
def Mc(F:List (List Int))(l:List Int):Int:=match F.findIdx? (·=l)with
 | some i=>(i:Int)
 | none=> -1
section
variable{B:Nat→Prop}{H0 H:Aa}{rest:List Pc}{b sc lc:Nat}{sa la:Option Addr}{vs:List Value}{S:Nat→Prop}{F:List (List Int)}{l:List Int}
theorem X3(st:StB B H0 H (bkS b sa sc vs S F rest))(hvl:vs.length=1024)(hnd:F.Nodup)(hFl:F.length≤4096)(hFr:∀x∈F,x.length≤65536)(hld:SlD tIk (Old H) H la lc l)(hl:∀q∈l,0≤q∧q<65536)(hll:l.length≤65536):
  B8 Tryz.prog 100 #[.pointer (some ⟨b,0,none⟩),.slice la l.length lc] H (.int .i64 (Mc F l)):=by
 unfold bkS at st;have hh:=R8 l;obtain⟨vh,hvh⟩:=Ad (l:=vs) (k:=BU l) (by omega);obtain⟨ah,ch,rfl,-⟩:=st.gview 1 rfl hvh (xs:=Jg (DQ F (BU l))) (T:=tIk) (e:=3) rfl;have hnl:(Jg (DQ F (BU l))).length=(DQ F (BU l)).length:=Aa7 _;rw [hnl]at hvh;have hmaxi:=OE F (BU l);have hcell:∀{H':Aa},Agr (Old H) H H'→VC.cell H' b (0+1+BU l)=some (.slice ah (DQ F (BU l)).length ch):=fun{H'} ha=>by
  rw [((st.call ha).gblk 1 rfl).cell,show 0+1+BU l=BU l+1 by omega,AaY];exact hvh
 have hcell0:∀{H':Aa},Agr (Old H) H H'→VC.cell H' b (0+0)=some (.slice sa F.length sc):=fun{H'} ha=>by
  rw [((st.call ha).gblk 1 rfl).cell];rfl
 have hibS:∀(H2:Aa) (S0:Nat→Prop) (K:Value→Prop),K (.pointer (some ⟨b,0+1+BU l,none⟩))→AH Tryz.prog (Instr.indexAt 125 (.pointer (some ⟨b,0+1,none⟩)) (.int .i64 (BU l:Int))) S0 H2 K:=fun H2 S0 K hK=>by
  refine ixa WW (by omega) (by omega) ?_;rw [show 0+1+((BU l:Nat):Int).toNat*1=0+1+BU l by omega];exact hK
 refine Al.of_vc Tryz.func100 rfl (Tryz.call100 _) (Ao (Ut (fun k hk=>hk) hld hl) fun H1 ha1=>?_);(conv=>whnf);refine A3.mk [6] (fun k:Nat=>[.int .i64 (k:Int)]) (fun k H2=>k≤(DQ F (BU l)).length∧(∀i∈(DQ F (BU l)).take k,∀x,F[i]? =some x→x≠l)∧Agr (Old H) H H2) (fun k _=>(DQ F (BU l)).length - k) ?_ ?_
 ·(conv=>whnf);exact⟨0,rfl,Aa8 _,by simp,ha1⟩
 ·rintro k H2 junk2 ⟨hk,hno,ha2⟩;have st2:=st.call ha2;refine fa IX (hibS _ _ _ (ld1 CW (hcell ha2) trivial ?_));refine AB.mk (fun hz=>?_) (fun hz=>?_)<;>simp only [decide_eq_true_eq,decide_eq_false_iff_not]at hz
  ·obtain⟨i,hi⟩:=Ad (l:=DQ F (BU l)) (k:=k) (by omega);obtain⟨s,hs,hsh⟩:=OF.1 (Aa5 hi);have hsl:=hFr s (Aa5 hs);have hil:=(AaF.1 hs).1;obtain⟨ah',ch',e1,hvi⟩:=st2.gview 1 rfl hvh (xs:=Jg (DQ F (BU l))) (T:=tIk) (e:=3) rfl;injection e1 with e2 e3 e4
   subst e2;subst e4;have hgi:(Jg (DQ F (BU l)))[k]? =some (i:Int):=by unfold Jg;rw [AaI,hi];rfl
   refine Ar.lex rfl (by kernel_rfl) (fa DN (ld1 DZ (hcell0 ha2) trivial (fa IX (hibS _ _ _ (ld1 CW (hcell ha2) trivial (JE (i:=k) (x:=(i:Int)) AL hvi hnl.symm hgi rfl ?_))))));rintro b3 o3 cs3 hS3 hc3 ⟨rfl,-⟩;refine ld1 ct3 hc3.one trivial (ixO (j:=i) DH st2 0 rfl hs rfl ?_);rintro b4 o4 cs4 hS4 hc4 ⟨ra,rc,rfl,hrd⟩;refine ld1 CW hc4.one trivial ?_;(conv=>whnf);refine A3.mk [8,9] (fun x:Bool×Nat=>match x with | (sm,j)=>[.bool sm,.int .i64 (j:Int)]) (fun x H3=>match x with | (sm,j)=>j≤l.length∧(sm=true→s.length=l.length∧s.take j=l.take j)∧(sm=false→s≠l)∧Agr (Old H2) H2 H3) (fun x _=>l.length - x.2) ?_ ?_
   ·(conv=>whnf);refine⟨((s.length:Int)==(l.length:Int),0),rfl,Aa8 _,fun h=>⟨?_,rfl⟩,fun h e=>?_,Agr.refl _ _⟩
    ·have:=eq_of_beq h;omega
    ·rw [e]at h;simp at h
   ·rintro⟨sm,j⟩ H3 junk3 ⟨hj,hsm1,hsm0,ha3⟩;have ha03:Agr (Old H) H H3:=ha2.trans (ha3.mono fun k hk=>As ha2 hk);have wrap:∀{sm':Bool},(sm'=true→s=l)→(sm'=false→s≠l)→True:=fun _ _=>trivial;have fin_t:s=l→Mc F l=(i:Int):=fun e=>by
     subst e;unfold Mc;rw [PX hnd hs]
    have fin_f:s≠l→∀i'∈(DQ F (BU l)).take (k+1),∀x',F[i']? =some x'→x'≠l:=fun he i' hi' x' hx'=>by
     rw [Ac hi,Aa2,Aa0]at hi';rcases hi' with hi' | rfl
     ·exact hno i' hi' x' hx'
     ·rw [hs]at hx';cases hx';exact he
    (conv=>whnf);by_cases hjl:j<l.length
    ·have d1:decide ((j:Int)<(l.length:Int))=true:=decide_eq_true (by omega);(conv=>whnf);rw [d1];cases sm with
     | true=>
       obtain⟨hlen,htk⟩:=hsm1 rfl;obtain⟨x,hx⟩:=Ad (l:=s) (k:=j) (by omega);obtain⟨y,hy⟩:=Ad (l:=l) (k:=j) hjl;refine Ar.lex rfl (by kernel_rfl) (ixr (i:=j) AL (hrd.frame ha3) hx rfl ?_);rintro b5 o5 cs5 hS5 hc5 ⟨rfl,-⟩;refine ld1 ct3 hc5.one trivial (ixr (i:=j) AL (hld.frame ha03) hy rfl ?_);rintro b6 o6 cs6 hS6 hc6 ⟨rfl,-⟩;refine ld1 ct3 hc6.one trivial ?_;(conv=>whnf);rw [w64 (x:=(j:Int)+1) (by omega) (by omega)];refine⟨rfl,(x==y,j+1),by simp,⟨by omega,fun h=>⟨hlen,?_⟩,fun h e=>?_,ha3⟩,by simp only;omega⟩
       ·have:=eq_of_beq h;subst this;rw [Ac hx,Ac hy,htk]
       ·subst e;rw [hx]at hy;injection hy with hy
        subst hy;simp at h
     | false=>
       have hne:=hsm0 rfl;(conv=>whnf);rw [w64 (x:=(k:Int)+1) (by omega) (by omega)];exact⟨rfl,k+1,by simp,⟨by omega,fin_f hne,ha03⟩,by omega⟩
    ·have d1:decide ((j:Int)<(l.length:Int))=false:=decide_eq_false (by omega);obtain rfl:j=l.length:=by omega
     (conv=>whnf);rw [d1];cases sm with
     | true=>
       obtain⟨hlen,htk⟩:=hsm1 rfl;have e:s=l:=by rw [←hlen,Aa4,hlen,Aa4]at htk;exact htk
       refine fa IX (hibS _ _ _ (ld1 CW (hcell ha03) trivial (JE (i:=k) (x:=(i:Int)) AL (hvi.frame ha3) hnl.symm hgi rfl ?_)));rintro b7 o7 cs7 hS7 hc7 ⟨rfl,-⟩;refine ld1 ct3 hc7.one trivial ?_;(conv=>whnf);exact⟨by rw [fin_t e],ha03⟩
     | false=>
       have hne:=hsm0 rfl;(conv=>whnf);rw [w64 (x:=(k:Int)+1) (by omega) (by omega)];exact⟨rfl,k+1,by simp,⟨by omega,fin_f hne,ha03⟩,by omega⟩
  ·obtain rfl:k=(DQ F (BU l)).length:=by omega
   rw [Aa4]at hno;have hnew:l∉F:=fun hx=>by
    obtain⟨i,hi⟩:=AbP hx;exact hno i (OF.2 ⟨l,hi,rfl⟩) l hi rfl
   (conv=>whnf);refine⟨?_,ha2⟩;unfold Mc;rw [PW hnew]
end
theorem TC(F:List (List Int))(l:List Int):Vo (Gj F) (BU l) (Mi tIk 3 (Jg (DQ F (BU l))++[(F.length:Int)]))=Gj (F++[l]):=by
 funext h;by_cases hh:h=BU l
 ·subst hh;rw [MG];show Mi _ _ _=Mi _ _ _;rw [Mw,if_pos rfl];unfold Jg;rw [AaK];rfl
 ·rw [Sf hh];show Mi _ _ _=Mi _ _ _;rw [Mw,if_neg (Ne.symm hh)]
section
variable{B:Nat→Prop}{H0 H:Aa}{rest:List Pc}{b sc lc:Nat}{sa la:Option Addr}{vs:List Value}{S:Nat→Prop}{F:List (List Int)}{l:List Int}
theorem WR{K:Value→Aa→Prop}(st:StB B H0 H (pS tIk 3 la l.length lc l::bkS b sa sc vs S F rest))(hvl:vs.length=1024)(hFl:F.length≤4096)(hl:∀q∈l,0≤q∧q<65536)
  (kK:∀sa' sc' vs' S' H',vs'.length=1024→StB B H0 H' (bkS b sa' sc' vs' S' (F++[l]) rest)→K (.int .i64 (F.length:Int)) H'):
  Ag Tryz.prog 99 #[.pointer (some ⟨b,0,none⟩),.slice la l.length lc] H K:=by
 refine Ag.mk (R:=fun r H'=>r= .int .i64 (F.length:Int)∧∃sa' sc' vs' S',vs'.length=1024∧StB B H0 H' (bkS b sa' sc' vs' S' (F++[l]) rest)) ?_ fun r H' h=>by
  obtain⟨rfl,sa',sc',vs',S',h1,h2⟩:=h;exact kK sa' sc' vs' S' H' h1 h2
 unfold bkS at st ⊢;have hh:=R8 l;obtain⟨vh,hvh⟩:=Ad (l:=vs) (k:=BU l) (by omega);obtain⟨ah,ch,rfl,-⟩:=st.gview 2 rfl hvh (xs:=Jg (DQ F (BU l))) (T:=tIk) (e:=3) rfl;have hnl:(Jg (DQ F (BU l))).length=(DQ F (BU l)).length:=Aa7 _;have hmaxi:=OE F (BU l);have hcell:∀{H':Aa},Agr (Old H) H H'→VC.cell H' b (0+1+BU l)=some (.slice ah (Jg (DQ F (BU l))).length ch):=fun{H'} ha=>by
  rw [((st.call ha).gblk 2 rfl).cell,show 0+1+BU l=BU l+1 by omega,AaY];exact hvh
 have hcell0:∀{H':Aa},Agr (Old H) H H'→VC.cell H' b (0+0)=some (.slice sa F.length sc):=fun{H'} ha=>by
  rw [((st.call ha).gblk 2 rfl).cell];rfl
 have hibS:∀(H2:Aa) (S0:Nat→Prop) (K:Value→Prop),K (.pointer (some ⟨b,0+1+BU l,none⟩))→AH Tryz.prog (Instr.indexAt 125 (.pointer (some ⟨b,0+1,none⟩)) (.int .i64 (BU l:Int))) S0 H2 K:=fun H2 S0 K hK=>by
  refine ixa WW (by omega) (by omega) ?_;rw [show 0+1+((BU l:Nat):Int).toNat*1=0+1+BU l by omega];exact hK
 refine Al.of_vc Tryz.func99 rfl (Tryz.call99 _) (Ao (Ut (fun k hk=>hk) (st.view 0 rfl) hl) fun H1 ha1=>?_);have st1:=st.call ha1;have hself:¬slB (.slice ah (Jg (DQ F (BU l))).length ch) b:=(st1.at_ 2 rfl).2.2.2 _ _ hvh;have hbb:=(st1.in_ 2 rfl (.inl rfl):_∧b<H1.size).2;refine Ar.heldZ (fun k=>k<H1.size∧¬slB (.slice ah (Jg (DQ F (BU l))).length ch) k) [18] (sq [0,1,2,3,4,5,6,7,8,9,10,11,12,15,16] (.f 13 (.f 14 (sq [17] (.f 18 .e))))) rfl (by kernel_rfl) (fa IX (hibS _ _ _ (ld1 CW (hcell ha1) ⟨hbb,hself⟩ (fa DN (ld1 DZ (hcell0 ha1) ⟨hbb,hself⟩ (fa IX (A2 AL [.int .i64 (F.length:Int)] rfl rfl (by decide) (by decide) ?_)))))));intro q3 H3 hq3 hs3 hb3 ha3;have st3:=st1.skip hq3 ha3;refine⟨ha3.mono fun k hk=>by have:=hk.1;omega,?_⟩;refine Y6 (ys:=[(F.length:Int)]) (ds:=[.int .i64 (F.length:Int)]) st3 2 AL rfl hvh (xs:=Jg (DQ F (BU l))) (T:=tIk) (e:=3) rfl (hb3.cells fun j v hv=>by rw [AaA];exact hv) (Ty.reps_one ⟨rfl,L2 ⟨by omega,by omega⟩⟩) rfl (by simp [Value.oneCell']) (by simp only [AaB,maxLen];omega) (by simp only [AaB];omega) fun v4 H4 st4 ha4 h14=>?_;refine⟨(ha3.mono fun k hk=>by have:=hk.1;omega).trans (ha4.mono fun k hk=>⟨by have:=hk.1;omega,hk.2⟩),?_⟩;refine hibS _ _ _ (stGB (j:=BU l) st4 2 CW rfl (by omega) h14 fun H5 st5=>?_);rw [TC]at st5;have hwl:(vs.set (BU l) v4).length=1024:=by rw [AbW];exact hvl
 generalize vs.set (BU l) v4=ws at*;replace st5:StB B H0 H5 (pS tIk 3 la l.length lc l::pN (tSl tIk) S 41 sa F.length sc F::pG Fv b (.slice sa F.length sc) ws (Gj (F++[l]))::rest):=st5;refine fa DN ?_;refine ld1 (v:=.slice sa F.length sc) DZ (by rw [(st5.gblk 2 rfl).cell];rfl) trivial ?_;refine A2 DH [.slice la l.length lc] rfl rfl (by decide) (by decide) ?_;intro q6 H6 hq6 hs6 hb6 ha6;obtain⟨la',lc',er,hrow5,-⟩:=(st5.at_ 0 rfl).1.view (S':=slB (.slice la l.length lc)) (fun b hb=>hb) (fun b hb=>hb.elim);injection er with er1 er2 er3
 subst er1;subst er3;have st6:StB B H0 H6 (pN (tSl tIk) (fun k=>S k∨slB (.slice la l.length lc) k) 41 sa F.length sc F::pG Fv b (.slice sa F.length sc) ws (Gj (F++[l]))::rest):=(StB.absorb (st5.perm (List.Perm.swap _ _ _))).skip hq6 ha6;have hrow6:SlD tIk (fun k=>S k∨slB (.slice la l.length lc) k) H6 la lc l:=(hrow5.frame (ha6.mono fun k hk=>by
  have:=(st5.in_ 0 rfl (.inl hk)).2;omega)).mono fun k hk=>.inr hk
 refine T7 (row:=l) st6 DH (hb6.cells fun j v hv=>by rw [AaA];exact hv) ⟨la,lc,rfl,hrow6⟩ rfl (fun u hu=>by cases Aa0.1 hu;rfl) (by omega) (by decide) fun a7 c7 H7 st7=>?_;refine fa DN (stG0 st7 1 DZ rfl rfl fun H8 st8=>(fa DN ?_));refine ld1 (v:=.slice a7 (F.length+1) c7) DZ (by rw [(st8.gblk 1 rfl).cell];rfl) trivial ?_;(conv=>whnf);rw [w64 (x:=((F.length+1:Nat):Int) - 1) (by omega) (by omega)];refine⟨by rw [show((F.length+1:Nat):Int) - 1=(F.length:Int) by omega],a7,c7,ws,fun k=>S k∨slB (.slice la l.length lc) k,hwl,?_⟩;rw [Aa1,AaB];exact st8
end
def Kn(a:NfM)(F:List (List Int)):Prop:=∀l∈F,(∀q∈l,a.has q=true)∧l.length≤65536
theorem Kn.rng{a:NfM}{F:List (List Int)}(h:Kn a F):V4 F:=fun l hl=>⟨fun q hq=>by have:=NfM.has_iff.1 ((h l hl).1 q hq);omega,(h l hl).2⟩
theorem JR{a:NfM}{l:List Int}{b:Nat}:(AR a l b).length≤65536:=Hi _
theorem V9{most:Nat}{F F':List (List Int)}{k:List Int}{i:Nat}(h:atF most F k=some (F',i)):∀x∈F',x∈F∨x=k:=by
 intro x hx;unfold atF at h;split at h
 ·injection h with h;injection h with h1 h2;subst h1;exact .inl hx
 ·split at h
  ·injection h with h;injection h with h1 h2;subst h1
   rcases Aa2.1 hx with hx | hx
   ·exact .inl hx
   ·rw [Aa0]at hx;exact .inr hx
  ·cases h
theorem QW{most:Nat}{F F':List (List Int)}{k:List Int}{i:Nat}(h:atF most F k=some (F',i))(hl:F.length≤most):F'.length≤most∧i<most:=by
 unfold atF at h;split at h
 ·rename_i j hj;injection h with h;injection h with h1 h2;subst h1;subst h2
  have:=(Ab0.1 hj).1;omega
 ·split at h
  ·injection h with h;injection h with h1 h2;subst h1;subst h2
   simp only [Aa1,Aa3,Aa6];omega
  ·cases h
theorem Kn.at_{a:NfM}{most:Nat}{F F':List (List Int)}{x:List Int}{b i:Nat}(h:Kn a F)(hx:atF most F (AR a x b)=some (F',i)):Kn a F':=fun l hl=>by
 rcases V9 hx l hl with h1 | rfl
 ·exact h l h1
 ·exact⟨HM,JR⟩
def Bg(r:List Nat):List Int:=r.map fun(x:Nat)=>(x:Int)
def IJ(cs:List (BitVec 256)):List Nat:=cs.map fun c=>(Bt c 0).1
theorem TH{cs:List (BitVec 256)}{j:Nat}{c:BitVec 256}(h:cs[j]? =some c):(IJ cs)[j]? =some (Bt c 0).1:=by
 unfold IJ;rw [AaI,h];rfl
noncomputable def Z2(a:NfM)(most:Nat)(cs:List (BitVec 256))(l0:List Int)(H H':Aa)(r:Value):Prop:=Agr (Old H) H H'∧
 match FN most (AR a) (IJ cs) l0 with
 | none=>r= .tuple #[.pointer none,.bool false]
 | some (F,rows)=>∃v,r= .tuple #[v,.bool true]∧Db (fun k=>H.size≤k∧k<H'.size) H' v (if BK cs (rows.map Bg) F.length then some (Dp cs (rows.map Bg) (F.map fun l=>decide (a.fin∈l)))else none)
theorem S9{S:Nat→Prop}{H:Aa}{a:NfM}{nv sv:Value}{wb pb:Nat}{ca:Option Addr}{cc most:Nat}{cs:List (BitVec 256)}{l0:List Int}(hS:∀k,S k→k<H.size)(hwb:S wb)(hwc:Bi H wb 0 [nv])(hnv:Ko S H nv a)(hpb:S pb)(hpc:Bi H pb 0 (nfL a sv))(hel:a.edges.length≤33554432)(hpow:HX Tryz.prog H)
  (hcs:SlD Dz S H ca cc cs) (hcl:cs.length≤256) (hl0:∀q∈l0,a.has q=true) (hl0l:l0.length≤65536) (hm1:1≤most) (hm:most≤4096):
  Al Tryz.prog 95 #[.string (nmB l0),.slice ca cs.length cc,.func (.func 90) #[] #[.pointer (some ⟨wb,0,none⟩)],.func (.func 93) #[] #[.pointer (some ⟨pb,0,none⟩)],.int .i64 (most:Int)] H fun r H'=>Z2 a most cs l0 H H' r:=by
 have hF0:Kn a [l0]:=fun l hl=>by rw [Aa0]at hl;subst hl;exact⟨hl0,hl0l⟩
 refine Al.of_vc Tryz.func95 rfl (Tryz.call95 _) (U7 (Ok:=KX) (enc:=Value.string) fun mb H1 hb1 hs1 hm1' ha1=>?_);have st1:=(St.nil H).mapNewW hb1 hs1 hm1' ha1;refine A6 Tryz.underlying259 rfl (.agg #[.map none,.slice none 0 0,.int .i64 0]) rfl (exL mb (.slice none 0 0) most) rfl (B0 (exL mb (.slice none 0 0) most) rfl ?_);intro xb H2 hxb hs2 hb2 ha2;have st2:St H H2 (exS xb mb none 0 most [] []):=((st1.box hxb hs2 hb2 ha2).nils Yf 9).pick [1,0,2] (by decide);have hat0:atF most ([]:List (List Int)) l0=some ([l0],0):=by
  unfold atF;rw [List.findIdx?_nil];simp only;rw [if_pos (by simp only [Aa6];omega)];rfl
 refine WY st2 (fun l hl=>by cases hl) (fun q hq=>(hF0.rng l0 (by simp)).1 q hq) hl0l hm (Aa8 _) (fun F' i fa' fc' H3 h1 st3=>?_) (fun H3 h1 _=>?_)
 ·rw [hat0]at h1;injection h1 with h1
  injection h1 with h1 h2
  subst h1;subst h2;have st4:St H H3 (exS xb mb fa' fc' most [l0] [pN (tSl tIk) none_ 41 none 0 0 [],pS A1 4 none 0 0 []]):=(st3.nils (tSl tIk) 41).nils A1 4;(conv=>whnf);refine A3.mk [15,16,17] (fun x:Nat×List (List Int)×List (List Nat)×Option Addr×Nat×Option Addr×Nat=>match x with | (i,F,rows,na,nc,ba,bc)=>[.slice na i nc,.slice ba i bc,.int .i64 (i:Int)])
   (fun x H4=>match x with | (i,F,rows,na,nc,ba,bc)=>i≤F.length∧F.length≤most∧Kn a F∧rows.length=i∧BI most (AR a) (IJ cs) l0 i=some (F,rows)∧∃Sx fa fc,St H H4 (exS xb mb fa fc most F [pN (tSl tIk) Sx 41 na i nc (rows.map Bg),pS A1 4 ba i bc ((F.take i).map fun l=>decide (a.fin∈l))])) (fun x _=>most - x.1) ?_ ?_
  ·(conv=>whnf);exact⟨(0,[l0],[],none,0,none,0),rfl,Aa8 _,by simp only [Aa3,Aa6];omega,hF0,rfl,rfl,none_,fa',fc',st4⟩
  ·rintro⟨i,F,rows,na,nc,ba,bc⟩ H4 junk4 ⟨hiF,hFm,hHF,hrl,hrun,Sx,fa,fc,st5⟩;have hb5:=st5.blk 0 rfl;refine VC.fa F8 ?_;refine ld1 (v:=.slice fa F.length fc) JV (by rw [hb5.cell];rfl) trivial ?_;refine AB.mk (fun hz=>?_) (fun hz=>?_)<;>simp only [decide_eq_true_eq,decide_eq_false_iff_not]at hz
   ·obtain⟨x,hx⟩:=Ad (l:=F) (k:=i) (by omega);obtain⟨hxh,hxl⟩:=hHF x (Aa5 hx);have hnext:BI most (AR a) (IJ cs) l0 (i+1)=((IJ cs).foldl (DG most (AR a) x) (some (F,[]))).map fun r=>(r.1,rows++[r.2]):=by
     show(BI most (AR a) (IJ cs) l0 i).bind _=_;rw [hrun];simp only [Ab6,hx]
    refine Eo AL rfl (by omega) (by omega) (by omega) (by omega) ?_;intro rb H6 hrb hs6 hb6 ha6;rw [AaH]at hb6;rw [AaH,show(0:Int).toNat=0 from rfl];have st6:=st5.newCap (T:=tIk) (cap:=cs.length) hrb hs6 hb6 ha6 (by simp [HT]) (by unfold maxLen;omega);(conv=>whnf);refine A3.mk [18,51] (fun y:Nat×List (List Int)×List Nat×Option Addr×Nat=>match y with | (j,F',row,ra,rc)=>[.slice ra row.length rc,.int .i64 (j:Int)])
     (fun y H7=>match y with | (j,F',row,ra,rc)=>j≤cs.length∧F'.length≤most∧Kn a F'∧F <+: F'∧row.length=j∧((IJ cs).take j).foldl (DG most (AR a) x) (some (F,[]))=some (F',row)∧∃fa fc,St H H7 (exS xb mb fa fc most F' [pN (tSl tIk) Sx 41 na i nc (rows.map Bg),pS A1 4 ba i bc ((F.take i).map fun l=>decide (a.fin∈l)),pS tIk 3 ra row.length rc (Bg row)])) (fun y _=>cs.length - y.1) ?_ ?_
    ·(conv=>whnf);exact⟨(0,F,[],some ⟨rb,0,none⟩,cs.length),rfl,Aa8 _,hFm,hHF,AaS _,rfl,rfl,fa,fc,st6⟩
    ·rintro⟨j,F',row,ra,rc⟩ H7 junk7 ⟨hj,hF'm,hHF',hpre,hrowl,hfold,fa7,fc7,st7⟩;refine AB.mk (fun hz2=>?_) (fun hz2=>?_)<;>simp only [decide_eq_true_eq,decide_eq_false_iff_not]at hz2
     ·obtain⟨c,hc⟩:=Ad (l:=cs) (k:=j) (by omega);have hbs:=TH hc;have hblt:=Hl c 0;have hxF':=Eu hpre hx;refine ixr (i:=j) DU (hcs.frame (st7.old.mono hS)) hc rfl ?_;rintro b8 o8 cs8 hS8 hc8 rfl;refine ldN (cs:=Af c) AU hc8 trivial (Ak (Bm 0) (Af 0) rfl rfl ?_);intro sx H8 hsx hs8 hb8 ha8;have st8:=st7.box hsx hs8 hb8 ha8;refine AI (cs:=Af c) st8 6 rfl rfl (AaM _) rfl fun H9 st9=>?_;rw [Ax (show(Af c).length=(Af 0).length from rfl)]at st9;refine ldN (cs:=Af c) AU ((st9.blk 6 rfl).cells fun j v hv=>by rw [AaA];exact hv) trivial ?_;refine Ao (UB c 0 (by decide) H9) fun H10 ha10=>?_;have st10:=st9.call ha10;have hb10:=st10.blk 0 rfl;refine VC.fa F8 ?_;refine ld1 (v:=.slice fa7 F'.length fc7) JV (by rw [hb10.cell];rfl) trivial ?_;have hview:=st10.view 2 rfl;have hgx:(F'.map nmB)[i]? =some (nmB x):=by rw [AaI,hxF'];rfl
      refine JE (i:=i) RX hview (Aa7 _).symm hgx rfl ?_;rintro b11 o11 c11 hS11 hc11 ⟨rfl,-⟩;refine ld1 ct9 hc11.one trivial ?_;have up10:∀k,S k→k<H10.size:=fun k hk=>st10.up (hS k hk);refine Ag.mk (WF (S:=S) up10 hwb (hwc.eq (st10.old wb (hS wb hwb))) (hnv.frame (st10.old.mono hS)) hel hxh hxl hblt (hpow.agr st10.old)) ?_;rintro _ H11 ⟨rfl,ha11⟩;have st11:=st10.call ha11;replace st11:St H H11 (exS xb mb fa7 fc7 most F' [pN (tSl tIk) Sx 41 na i nc (rows.map Bg),pS A1 4 ba i bc ((F.take i).map fun l=>decide (a.fin∈l)),pS tIk 3 ra row.length rc (Bg row)]):=st11.pick [0,1,2,3,4,5] (by decide);have hstep:((IJ cs).take (j+1)).foldl (DG most (AR a) x) (some (F,[]))=(atF most F' (AR a x (Bt c 0).1)).map fun r=>(r.1,row++[r.2]):=by
       rw [Ac hbs,AaZ,hfold];rfl
      refine WY st11 hHF'.rng (fun q hq=>by have:=NfM.has_iff.1 (HM q hq);omega) JR hm hF'm (fun F2 t fa12 fc12 H12 h12 st12=>?_) (fun H12 h12 st12=>?_)
      ·obtain⟨hl2,htm⟩:=QW h12 hF'm;rw [h12]at hstep;refine A2 AL [.int .i64 (t:Int)] rfl rfl (by decide) (by decide) ?_;intro q13 H13 hq13 hs13 hb13 ha13;refine KY (x:=(t:Int)) (st12.skip hq13 ha13) 5 AL rfl hb13 ⟨rfl,L2 ⟨by omega,by omega⟩⟩ rfl (by unfold Bg;rw [Aa7];omega) (by decide) fun a14 c14 H14 st14 _=>?_;have e1:(Bg row).length+1=(row++[t]).length:=by unfold Bg;simp
       have e2:Bg row++[(t:Int)]=Bg (row++[t]):=by unfold Bg;simp
       rw [e1,e2]at st14;rw [e1];(conv=>whnf);rw [w64 (x:=(j:Int)+1) (by omega) (by omega)];exact⟨rfl,(j+1,F2,row++[t],a14,c14),by simp,⟨by omega,hl2,hHF'.at_ h12,hpre.trans (by
        unfold atF at h12;split at h12
        ·injection h12 with h;injection h with h1 h2;subst h1;exact AaS _
        ·split at h12
         ·injection h12 with h;injection h with h1 h2;subst h1;exact AbE _ _
         ·cases h12),by simp [hrowl],hstep,fa12,fc12,st14⟩,by simp only;omega⟩
      ·rw [h12]at hstep;have hnone:(IJ cs).foldl (DG most (AR a) x) (some (F,[]))=none:=by
        have h3:=(AbO (j+1) (IJ cs)).symm;rw [h3,AaZ,hstep];exact Gf x _
       have hdet:FN most (AR a) (IJ cs) l0=none:=Mq (n:=i) (by rw [hnext,hnone];rfl) (by omega);(conv=>whnf);refine⟨st12.old,?_⟩;rw [hdet]
     ·obtain rfl:j=cs.length:=by omega
      have hfull:(IJ cs).foldl (DG most (AR a) x) (some (F,[]))=some (F',row):=by
       rw [←hfold,List.take_of_length_le (by unfold IJ;rw [Aa7];exact AaM _)]
      rw [hfull]at hnext;simp only [Option.map_some]at hnext;have hxF':=Eu hpre hx;have hri:(Bg row).length=row.length:=by unfold Bg;rw [Aa7]
      have hrl2:(rows.map Bg).length=i:=by rw [Aa7];exact hrl
      have hend:((F'.take (i+1)).map fun l=>decide (a.fin∈l))=((F.take i).map fun l=>decide (a.fin∈l))++[decide (a.fin∈x)]:=by
       obtain⟨t,rfl⟩:=hpre;rw [AbB (by omega),Ac hx,AaK];rfl
      have hel7:((F.take i).map fun l=>decide (a.fin∈l)).length=i:=by rw [Aa7,AaQ];omega
      obtain⟨ra',rc',er,hrow7,-⟩:=(st7.at_ 5 rfl).1.view (S':=slB (.slice ra row.length rc)) (fun b hb=>hb) (fun b hb=>hb.elim);injection er with er1 er2 er3
      subst er1;subst er3;have st8:St H H7 (pN (tSl tIk) (fun k=>Sx k∨slB (.slice ra row.length rc) k) 41 na i nc (rows.map Bg)::[pB tEx xb (exL mb (.slice fa7 F'.length fc7) most),pMW KX Value.string mb (exM F'),pS Yf 9 fa7 F'.length fc7 (F'.map nmB),pS A1 4 ba i bc ((F.take i).map fun l=>decide (a.fin∈l))]):=StB.absorb (st7.pick [3,5,0,1,2,4] (by decide));refine A2 DH [.slice ra row.length rc] rfl rfl (by decide) (by decide) ?_;intro q13 H13 hq13 hs13 hb13 ha13;have st13:=st8.skip hq13 ha13;have hrow13:SlD tIk (fun k=>Sx k∨slB (.slice ra row.length rc) k) H13 ra rc (Bg row):=(hrow7.frame (ha13.mono fun k hk=>by
       have:=(st7.in_ 5 rfl (.inl hk)).2;omega)).mono fun k hk=>.inr hk
      refine T7 (row:=Bg row) st13 DH (hb13.cells fun j v hv=>by rw [AaA];exact hv) ⟨ra,rc,by rw [hri],hrow13⟩ rfl (fun u hu=>by cases Aa0.1 hu;rfl) (by rw [hrl2];omega) (by decide) fun a14 c14 H14 st14=>?_;rw [hrl2]at st14 ⊢;have hb14:=st14.blk 1 rfl;refine VC.fa F8 ?_;refine ld1 (v:=.slice fa7 F'.length fc7) JV (by rw [hb14.cell];rfl) trivial ?_;have hgx:(F'.map nmB)[i]? =some (nmB x):=by rw [AaI,hxF'];rfl
      refine JE (i:=i) RX (st14.view 3 rfl) (Aa7 _).symm hgx rfl ?_;rintro b11 o11 c11 hS11 hc11 ⟨rfl,-⟩;refine ld1 ct9 hc11.one trivial ?_;have up14:∀k,S k→k<H14.size:=fun k hk=>st14.up (hS k hk);refine Ao (Ug (S:=S) up14 hpb (hpc.eq (st14.old pb (hS pb hpb))) (hHF.rng x (Aa5 hx)).1 hxl) fun H15 ha15=>?_;have st15:=st14.call ha15;refine A2 Cs [.bool (decide (a.fin∈x))] rfl rfl (by decide) (by decide) ?_;intro q16 H16 hq16 hs16 hb16 ha16;refine KY (x:=decide (a.fin∈x)) (st15.skip hq16 ha16) 4 Cs rfl hb16 rfl rfl (by rw [hel7];omega) (by decide) fun a17 c17 H17 st17 _=>?_;rw [hel7,←hend]at st17;rw [hel7];(conv=>whnf);rw [w64 (x:=(i:Int)+1) (by omega) (by omega)];refine⟨rfl,(i+1,F',rows++[row],a14,c14,a17,c17),by simp,⟨?_,hF'm,hHF',by simp [hrl],hnext,(fun k=>Sx k∨slB (.slice ra row.length rc) k),fa7,fc7,?_⟩,by simp only;omega⟩
      ·have:=(AaF.1 hxF').1;omega
      ·have e5:rows.map Bg++[Bg row]=(rows++[row]).map Bg:=by simp
       rw [e5]at st17;exact st17.pick [1,2,3,0,4] (by decide)
   ·obtain rfl:i=F.length:=by omega
    rw [Aa4]at st5;have hrl2:(rows.map Bg).length=F.length:=by rw [Aa7];exact hrl
    have hdet:=Mp hrun rfl hFm;have hnew:=Xi ca na ba cc nc bc cs (rows.map Bg) (F.map fun l=>decide (a.fin∈l)) (Old H4) H4 (fun k hk=>hk) ((hcs.frame (st5.old.mono hS)).mono fun k hk=>st5.up (hS k hk)) (st5.view 3 rfl) (st5.view 4 rfl);rw [hrl2,Aa7]at hnew;refine Ag.mk hnew ?_;rintro v H6 ⟨ha6,hs6,hv6⟩;have st6:=st5.call ha6;(conv=>whnf);refine⟨st6.old,?_⟩;rw [hdet];exact⟨v,rfl,hv6.mono fun k hk=>⟨AaJ (Bx st5.old) hk.1,hk.2⟩⟩
 ·rw [hat0]at h1;cases h1
theorem RZ{β:Type}:∀(xs:List (List β)) (q:Nat) (row z:List β),xs[q]? =some row→((xs.set q z).map Ab1).sum+row.length=(xs.map Ab1).sum+z.length
 | [],q,row,z,h=>by simp at h
 | x::xs,0,row,z,h=>by
   simp only [AbI,Option.some.injEq]at h;subst h;simp only [List.set_cons_zero,Ab2,Ab3];omega
 | x::xs,q+1,row,z,h=>by
   rw [AaY]at h;have:=RZ xs q row z h;simp only [List.set_cons_succ,Ab2,Ab3];omega
theorem Wd{β:Type}{n q:Nat}{key:EdM→Option (Nat×β)}{l:List EdM}{e:EdM}{y:β}(h:key e=some (q,y))(hq:n≤q):grp n key (l++[e])=grp n key l:=by
 unfold grp;refine AbQ fun j hj=>?_;rw [List.filterMap_append];have hjq:q≠j:=by have:=AaN.1 hj;omega
 simp [h,hjq]
theorem We{β:Type}(n:Nat)(key:EdM→Option (Nat×β))(l:List EdM):∀k,k≤l.length→((grp n key (l.take k)).map Ab1).sum≤k:=by
 intro k
 induction k with
 | zero=>
   intro _;rw [AbX,KG,List.map_replicate];simp
 | succ k ih=>
   intro hk;obtain⟨e,he⟩:=Ad (l:=l) (k:=k) (by omega);have:=ih (by omega);rw [Ac he];cases hke:key e with
   | none=>rw [Dd hke];omega
   | some p=>
     obtain⟨q,y⟩:=p;by_cases hq:q<n
     ·obtain⟨row,hrow⟩:=Ad (l:=grp n key (l.take k)) (k:=q) (by rw [CJ];exact hq);rw [Jb hke hrow];have h2:=RZ _ _ _ (row++[y]) hrow;simp only [Aa1,Aa3,Aa6]at h2;omega
     ·rw [Wd hke (by omega)];omega
def CY(a:NfM):List (BitVec 256):=(LU a).flatMap fun r=>r.map fun e=>e.set
theorem OA{β γ:Type}(f:β→γ):∀xs:List (List β),(xs.flatMap fun r=>r.map f).length=(xs.map Ab1).sum
 | []=>rfl
 | x::xs=>by rw [AaG,Aa1,Aa7,OA f xs,Ab2,Ab3]
def CN(a:NfM)(i:Nat):List (BitVec 256):=((LU a).take i).flatMap fun r=>r.map fun e=>e.set
theorem Q9(a:NfM)(i:Nat):(CN a i).length≤a.edges.length:=by
 unfold CN;rw [OA];have h1:=We (AG a) (I1 a) a.edges a.edges.length (AaM _);rw [Aa4]at h1;have h2:(((LU a).take i).map Ab1).sum≤((LU a).map Ab1).sum:=by
  conv=>rhs;rw [←AbO i (LU a)]
  rw [AaK,AbK];omega
 unfold LU at h2 ⊢;omega
noncomputable def Zy(a:NfM)(budget:Nat)(H H':Aa)(r:Value):Prop:=Agr (Old H) H H'∧
 match FN budget (AR a) (Hs (CY a)) (Cu (EI a))with
 | none=>r= .tuple #[.pointer none,.int .i64 40]
 | some (F,rows)=>∃v,r= .tuple #[v,.int .i64 0]∧Db (fun k=>H.size≤k∧k<H'.size) H' v (if BK (Cg (CY a)) (rows.map Bg) F.length then some (Dp (Cg (CY a)) (rows.map Bg) (F.map fun l=>decide (a.fin∈l)))else none)
theorem Mb{S:Nat→Prop}{H:Aa}{v:Value}{a:NfM}{budget:Nat}(hS:∀k,S k→k<H.size)(h:NfV S H v a)(hpow:HX Tryz.prog H)(hb1:1≤budget)(hb2:budget≤4096):
  Al Tryz.prog 38 #[v,.int .i64 (budget:Int)] H fun r H'=>Zy a budget H H' r:=by
 have hr:=h.1;have hl:=h.2.1;have d1:decide ((budget:Int)<1)=false:=decide_eq_false (by omega);have d2:decide ((4096:Int)<(budget:Int))=false:=decide_eq_false (by omega);have hnle:=HK a;refine Al.of_vc Tryz.func38 rfl (Tryz.call38 _) (Qt h fun ea ec he0 h1=>?_);subst he0;intro p H1 hp hs1 hbb1 ha1;have st1:=(St.nil H).box hp hs1 hbb1 ha1;(conv=>whnf);rw [d1];(conv=>whnf);rw [d2];refine N4 hr hl (st1.blk 0 rfl) NY trivial (h1.frame (st1.old.mono hS)) fun v2 hv2=>(Ag.mk (W2 (fun k hk=>st1.up (hS k hk)) hv2) ?_);rintro nv H3 ⟨ha3,hnv⟩;have st3:=st1.call ha3;have hnv0:=hnv;obtain⟨nb,sa,sc,ta,tc,hne,hnb,hncells,hnsil,hntak⟩:=hnv;subst hne;refine Ak _ [.pointer none] rfl rfl ?_;intro wb H4 hwb hs4 hb4 ha4;have u4:St H3 H4 [pB 168 wb [.pointer none]]:=(St.nil H3).box hwb hs4 hb4 ha4;refine AT u4 0 Mo rfl (show 0<1 by decide) rfl fun H5 u5=>?_;replace u5:St H3 H5 [pB 168 wb [.pointer (some ⟨nb,0,none⟩)]]:=u5;have u6:St H3 H5 [pB 168 wb [.pointer (some ⟨nb,0,none⟩)],pS Dz 101 none 0 0 []]:=u5.nils Dz 101;have htl:(LU a).length=AG a:=CJ _ _ _;have hT:∀i,(CN a i).length≤a.edges.length:=fun i=>Q9 a i;refine ld1 (v:=.pointer (some ⟨nb,0,none⟩)) Mo (by rw [(u6.blk 0 rfl).cell];rfl) trivial ?_;refine VC.fa IV (ld1 (v:=.slice ta (AG a) tc) Ov ((hncells.eq (u6.old nb hnb)) 1 _ rfl) trivial ?_);(conv=>whnf);refine A3.mk [7,30] (fun x:Nat×Option Addr×Nat=>match x with | (i,a5,c5)=>[.slice a5 (CN a i).length c5,.int .i64 (i:Int)])
  (fun x H6=>x.1≤AG a∧St H3 H6 [pB 168 wb [.pointer (some ⟨nb,0,none⟩)],pS Dz 101 x.2.1 (CN a x.1).length x.2.2 (CN a x.1)]) (fun x _=>AG a - x.1) ?_ ?_
 ·(conv=>whnf);exact⟨(0,none,0),rfl,Aa8 _,u6⟩
 ·rintro⟨i,a5,c5⟩ H6 junk6 ⟨hi,u7⟩;simp only at hi u7;refine AB.mk (fun hz=>?_) (fun hz=>?_)<;>simp only [decide_eq_true_eq,decide_eq_false_iff_not]at hz
  ·obtain⟨row,hrow⟩:=Ad (l:=LU a) (k:=i) (by omega);have hsucc:CN a (i+1)=CN a i++row.map fun e=>e.set:=by
    unfold CN;rw [Ac hrow,AaT];simp
   have hTi:=hT (i+1);rw [hsucc,Aa1,Aa7]at hTi;refine JE (i:=i) Pp (hntak.frame u7.old) htl.symm hrow rfl ?_;rintro b8 o8 c8 hS8 hc8 ⟨ra,rc,rfl,hrd2⟩;have hrd:SlD tEd (Old H3) H6 ra rc row:=hrd2;refine ld1 MY hc8.one trivial ?_;(conv=>whnf);refine A3.mk [7,36] (fun x:Nat×Option Addr×Nat=>match x with | (j,a6,c6)=>[.slice a6 (CN a i++(row.take j).map fun e=>e.set).length c6,.int .i64 (j:Int)])
    (fun x H7=>x.1≤row.length∧St H3 H7 [pB 168 wb [.pointer (some ⟨nb,0,none⟩)],pS Dz 101 x.2.1 (CN a i++(row.take x.1).map fun e=>e.set).length x.2.2 (CN a i++(row.take x.1).map fun e=>e.set)]) (fun x _=>row.length - x.1) ?_ ?_
   ·(conv=>whnf);refine⟨(0,a5,c5),by simp,Aa8 _,?_⟩;simpa using u7
   ·rintro⟨j,a6,c6⟩ H7 junk7 ⟨hj,u8⟩;simp only at hj u8;have hrd7:SlD tEd (Old H3) H7 ra rc row:=L1 hrd u7 u8 (fun k hk=>hk);refine AB.mk (fun hz2=>?_) (fun hz2=>?_)<;>simp only [decide_eq_true_eq,decide_eq_false_iff_not]at hz2
    ·obtain⟨e,he⟩:=Ad (l:=row) (k:=j) (by omega);have hlen8:(CN a i++(row.take j).map fun e=>e.set).length≤33554432:=by
      rw [Aa1,Aa7,AaQ];omega
     refine ixr (i:=j) NK hrd7 he rfl ?_;rintro b6 o6 c7 hS6 hc6 ⟨rfl,hok⟩;refine ldN (cs:=edL e) QU hc6 trivial (Ak _ [.int .i64 0,.int .i64 0,.bool false,.int .u64 0,.int .u64 0,.int .u64 0,.int .u64 0] Lo rfl ?_);intro x H8 hx hs8 hb8 ha8;have u9:=u8.box hx hs8 hb8 ha8;refine AI (cs:=edL e) u9 2 rfl rfl (AaM _) rfl fun H9 u10=>?_;rw [Ax (show(edL e).length=7 from rfl)]at u10;refine VC.fa Rx (ldN (cs:=Af e.set) AU ((u10.blk 2 rfl).cells fun j v hv=>Ro e j v hv) trivial (A2 DU (Af e.set) rfl rfl (by decide) (by decide) ?_));intro q11 H11 hq11 hs11 hb11 ha11;refine MO (ys:=[e.set]) (u10.skip hq11 ha11) 1 DU rfl (hb11.cells (o:=0) (cs:=Af e.set) fun j v hv=>by rw [AaA];exact hv) (Ty.reps_one rfl) rfl (fun u hu=>List.all_eq_true.1 (show(Af e.set).all (·.oneCell')=true from rfl) u hu) (by unfold maxLen;simp only [Aa3,Aa6];omega) (by simp only [Aa3,Aa6];omega) fun a12 c12 H12 u12 _=>?_;have e1:(CN a i++(row.take j).map fun e=>e.set)++[e.set]=CN a i++(row.take (j+1)).map fun e=>e.set:=by rw [Ac he];simp
     have e2:(CN a i++(row.take j).map fun e=>e.set).length+[e.set].length=(CN a i++(row.take (j+1)).map fun e=>e.set).length:=by rw [←e1];exact Aa1.symm
     rw [e1,e2]at u12;rw [e2];(conv=>whnf);rw [w64 (x:=(j:Int)+1) (by omega) (by omega)];exact⟨rfl,(j+1,a12,c12),by simp,⟨by simp only;omega,u12.pick [0,1] (by decide)⟩,by simp only;omega⟩
    ·obtain rfl:j=row.length:=by omega
     rw [Aa4,←hsucc]at u8;rw [Aa4,←hsucc];(conv=>whnf);rw [w64 (x:=(i:Int)+1) (by omega) (by omega)];exact⟨rfl,(i+1,a6,c6),by simp,⟨by simp only;omega,u8⟩,by simp only;omega⟩
  ·obtain rfl:i=AG a:=by omega
   have hall:CN a (AG a)=CY a:=by unfold CN CY;rw [←htl,Aa4]
   have hTl:=hT (AG a);rw [hall]at u7 hTl;rw [hall];have st7:St H H6 [pB 76 p (nfL a (.slice ea a.edges.length ec))]:=st3.call u7.old;have hp7:=st7.blk 0 rfl;have hw7:=u7.blk 0 rfl;have hbeg:∀q∈Cu (EI a),a.has q=true:=fun q hq=>DK a q ((Fi (Dk (DK a)) q).1 hq);have hpow3:HX Tryz.prog H3:=hpow.agr st3.old;have hnv6:Ko (Old H6) H6 (.pointer (some ⟨nb,0,none⟩)) a:=(hnv0.frame u7.old).mono fun k hk=>u7.up hk;(conv=>whnf);refine Am.cut (α:=Unit) [12] (fun _=>[.string (nmB (Cu (EI a)))]) (fun _ H8=>Agr (Old H6) H6 H8) ?_ ?_
   ·refine ld1 (v:=.pointer (some ⟨nb,0,none⟩)) Mo (by rw [hw7.cell];rfl) trivial ?_;refine VC.fa Qa ?_;refine ld1 (v:=.int .i64 a.start) ct3 (by rw [hp7.cell];rfl) trivial ?_;refine Ao (Qu (hncells.eq (u7.old nb hnb))) fun H8 ha8=>?_;have st8:=st7.call ha8;have u8:=u7.call ha8;cases hst:a.has a.start with
    | false=>
      have e:Cu (EI a)=[]:=by
       rw [HG (X:=EI a) (l:=[]) (Dk (DK a)) List.Pairwise.nil fun q=>⟨fun h=>(by cases h),fun h=>by
        obtain⟨r,⟨-,h2⟩,-⟩:=h;rw [hst]at h2;cases h2⟩]
      (conv=>whnf);refine⟨rfl,(),?_,ha8⟩;rw [e];rfl
    | true=>
      have hsr:=NfM.has_iff.1 hst;refine ld1 (v:=.pointer (some ⟨nb,0,none⟩)) Mo (by rw [(u8.blk 0 rfl).cell];rfl) trivial ?_;refine VC.fa Qa ?_;refine ld1 (v:=.int .i64 a.start) ct3 (by rw [(st8.blk 0 rfl).cell];rfl) trivial ?_;refine A2 AL [.int .i64 a.start] rfl rfl (by decide) (by decide) ?_;intro y H9 hy hs9 hb9 ha9;have w9:St H8 H9 [pS tIk 3 (some ⟨y,0,none⟩) 1 1 [a.start]]:=(St.nil H8).new (T:=tIk) (n:=1) (xs:=[a.start]) hy hs9 hb9 ha9 (Ty.reps_one ⟨rfl,L2 ⟨hsr.1,by omega⟩⟩) rfl (by unfold maxLen;omega);refine Ag.mk (QZ (X:=[a.start]) w9 (fun k hk=>hk) ((hnv6.frame ha8).mono fun k hk=>As ha8 hk) (fun q hq=>by rw [Aa0]at hq;subst hq;exact hst) (by simp only [Aa3,Aa6];omega) hl (hpow3.agr (u8.old))) ?_;rintro _ H10 ⟨rfl,ha10⟩;have e:(fun q=>q∈[a.start])=fun q=>q=a.start∧a.has a.start=true:=funext fun q=>propext (by simp [hst]);(conv=>whnf);refine⟨rfl,(),?_,ha8.trans (ha10.mono fun k hk=>As ha8 hk)⟩;rw [e];rfl
   ·rintro⟨⟩ H8 junk8 ha8;have st8:=st7.call ha8;have u8:=u7.call ha8;have hcs8:SlD Dz (Old H8) H8 a5 c5 (CY a):=u8.view 1 rfl;refine Ag.mk (PO (fun k hk=>hk) hcs8 (AaJ hTl hl)) ?_;rintro _ H9 ⟨ha9,ca,cc,rfl,hat⟩;have st9:=st8.call ha9;have u9:=u8.call ha9;have hnv9:Ko (Old H9) H9 (.pointer (some ⟨nb,0,none⟩)) a:=(hnv0.frame u9.old).mono fun k hk=>u9.up hk;refine Ag.mk (S9 (S:=Old H9) (l0:=Cu (EI a)) (fun k hk=>hk) (u9.in_ 0 rfl rfl).2 ((u9.blk 0 rfl).cells fun j v hv=>by rw [AaA];exact hv) hnv9 (st9.in_ 0 rfl rfl).2 ((st9.blk 0 rfl).cells fun j v hv=>by rw [AaA];exact hv) hl (hpow.agr st9.old) hat (reps_len _) hbeg (Hi _) hb1 hb2) ?_;rintro r H10 ⟨ha10,hres⟩;have st10:=st9.call ha10;change match FN budget (AR a) (Hs (CY a)) (Cu (EI a))with | none=>_ | some (F,rows)=>_ at hres
    cases hd:FN budget (AR a) (Hs (CY a)) (Cu (EI a))with
    | none=>
      rw [hd]at hres;simp only at hres;subst hres;(conv=>whnf);refine⟨st10.old,?_⟩;rw [hd]
    | some q=>
      obtain⟨F,rows⟩:=q;rw [hd]at hres;obtain⟨v,rfl,hv⟩:=hres;(conv=>whnf);refine⟨st10.old,?_⟩;rw [hd];exact⟨v,rfl,hv.mono fun k hk=>⟨AaJ (Bx st9.old) hk.1,hk.2⟩⟩
end Go.Proofs.YtfbghcpdinlmcaaGreatDoor
namespace Go.Proofs.YtfbghcpdinlmcaaGreatDoor
open Go.VC
attribute [local irreducible] Cp
end Go.Proofs.YtfbghcpdinlmcaaGreatDoor
