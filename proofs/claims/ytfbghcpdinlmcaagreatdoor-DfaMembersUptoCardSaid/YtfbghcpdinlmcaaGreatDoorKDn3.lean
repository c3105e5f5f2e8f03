/- Parts of the proof: PBld, VHeldG, PNfa3, PNfa4, PNfa5, PNfa6, PTxt, PTre, PIdx, PShw1, PShw2, VPan, VDef, VList, PRd1 -/
import Derived.Test.YtfbghcpdinlmcaaGreatDoorKDn2
import Derived.Test.YtfbghcpdinlmcaaGreatDoorKDn1
import Derived.Shelf.Small.Strs
import Derived.Shelf.LaysM
import Derived.Recover
set_option maxHeartbeats 64000000
open Array renaming replicate → AaD, getElem?_eq_getElem → AaJ, toList_map → Ab1, map → Ab6
open Bool renaming and_eq_true → Aa7, not_eq_true' → AaS, or_eq_true → Ab4
open List renaming length_cons → Aa0, length_append → Aa1, getElem?_eq_some_iff → Aa2, getElem?_append_right → Aa3, replicate → Aa4, length_nil → Aa6, filter_cons_of_pos → Aa9, perm_append_singleton → AaA, mem_append_left → AaB, filter_cons_of_neg → AaC, size_toArray → AaE, getElem?_append_left → AaF, all_eq_true → AaG, getElem?_set_ne → AaH, toList_toArray → AaI, set_set → AaK, sublist_cons_self → AaL, getElem?_set_self → AaM, getElem?_eq_none → AaN, pairwise_append → AaO, drop_length_add_append → AaP, getD_eq_getElem?_getD → AaQ, ext_getElem? → AaR, length_replicate → AaU, set_append_right → AaV, mem_cons_of_mem → AaW, set_append_left → AaX, mem_cons_self → AaZ, all_append → Ab3, mapM_cons → Ab5, mem_cons → Ab7
open Nat renaming zero_add → Aa5, le_refl → Aa8, sub_self → AaT, lt_or_eq_of_le → AaY, le_of_lt_succ → Ab0, le_add_right → Ab2
set_option linter.unusedVariables false
set_option linter.unusedSimpArgs false
set_option maxRecDepth 100000
namespace Go.Proofs.YtfbghcpdinlmcaaGreatDoor
open Go.VC
def stM:ReM→Nat
 | .eps=>2
 | .cls _=>2
 | .cat a b=>stM a+stM b
 | .alt a b=>stM a+stM b+2
 | .star a=>stM a+2
 | .and_ _ _=>0
 | .minus _ _=>0
def Bk(p q:Nat):EdM:=⟨p,q,true,0#256⟩
def Ft(p q:Nat)(s:BitVec 256):EdM:=⟨p,q,false,s⟩
def Ay:ReM→Nat→Nat×Nat×List EdM
 | .eps,n=>(n,n+1,[Bk n (n+1)])
 | .cls s,n=>(n,n+1,[Ft n (n+1) s])
 | .cat a b,n=>((Ay a n).1,(Ay b (n+stM a)).2.1,(Ay a n).2.2++(Ay b (n+stM a)).2.2++[Bk (Ay a n).2.1 (Ay b (n+stM a)).1])
 | .alt a b,n=>(n,n+1+stM a+stM b,(Ay a (n+1)).2.2++(Ay b (n+1+stM a)).2.2++
   [Bk n (Ay a (n+1)).1,Bk n (Ay b (n+1+stM a)).1,Bk (Ay a (n+1)).2.1 (n+1+stM a+stM b),Bk (Ay b (n+1+stM a)).2.1 (n+1+stM a+stM b)])
 | .star a,n=>(n,n+1+stM a,(Ay a (n+1)).2.2++[Bk n (Ay a (n+1)).1,Bk n (n+1+stM a),Bk (Ay a (n+1)).2.1 (Ay a (n+1)).1,Bk (Ay a (n+1)).2.1 (n+1+stM a)])
 | .and_ _ _,n=>(n,n,[])
 | .minus _ _,n=>(n,n,[])
theorem BX:∀(r:ReM),r.plain=true→∀n,(Ay r n).2.2.length+1≤2*stM r
 | .eps,_,n=>by simp [Ay,stM]
 | .cls _,_,n=>by simp [Ay,stM]
 | .cat a b,h,n=>by
   simp only [ReM.plain,Aa7]at h;have h1:=BX a h.1 n;have h2:=BX b h.2 (n+stM a);simp only [Ay,stM,Aa1,Aa0,Aa6];omega
 | .alt a b,h,n=>by
   simp only [ReM.plain,Aa7]at h;have h1:=BX a h.1 (n+1);have h2:=BX b h.2 (n+1+stM a);simp only [Ay,stM,Aa1,Aa0,Aa6];omega
 | .star a,h,n=>by
   have h1:=BX a h (n+1);simp only [Ay,stM,Aa1,Aa0,Aa6];omega
 | .and_ _ _,h,_=>by cases h
 | .minus _ _,h,_=>by cases h
theorem Bn:∀(r:ReM),r.plain=true→∀n,n≤(Ay r n).1∧(Ay r n).1<n+stM r∧n≤(Ay r n).2.1∧(Ay r n).2.1<n+stM r
 | .eps,_,n=>by simp only [Ay,stM];omega
 | .cls _,_,n=>by simp only [Ay,stM];omega
 | .cat a b,h,n=>by
   simp only [ReM.plain,Aa7]at h;have h1:=Bn a h.1 n;have h2:=Bn b h.2 (n+stM a);simp only [Ay,stM];omega
 | .alt a b,h,n=>by simp only [Ay,stM];omega
 | .star a,h,n=>by simp only [Ay,stM];omega
 | .and_ _ _,h,_=>by cases h
 | .minus _ _,h,_=>by cases h
def bdL(n:Nat)(v sub:Value):List Value:=[.int .i64 (n:Int),.int .i64 0,.int .i64 0,v,sub,.int .i64 0]
abbrev tBd:TypeId:=246
section
variable{B:Nat→Prop}{H0 H:Aa}{rest:List Pc}{bb n:Nat}{v sub:Value}
theorem Ex{K:Value→Aa→Prop}(st:StB B H0 H (pB tBd bb (bdL n v sub)::rest))(hn:n≤2000000)(k:∀H',StB B H0 H' (pB tBd bb (bdL (n+1) v sub)::rest)→K (.int .i64 (n:Int)) H'):
  Ag Tryz.prog 175 #[.pointer (some ⟨bb,0,none⟩)] H K:=by
 refine Ag.mk (R:=fun r H'=>r= .int .i64 (n:Int)∧StB B H0 H' (pB tBd bb (bdL (n+1) v sub)::rest)) ?_ fun r H' ⟨h1,h2⟩=>by rw [h1];exact k H' h2
 refine Al.of_vc Tryz.func175 rfl (Tryz.call175 _) (fa DO (fa Ix ?_));refine ld1 (v:=.int .i64 (n:Int)) ct3 (by rw [(st.blk 0 rfl).cell];rfl) trivial ?_;(conv=>whnf);rw [w64 (x:=(n:Int)+1) (by omega) (by omega)];refine fa DO (fa Ix (AT st 0 ct3 rfl (show 0<6 by decide) rfl fun H1 st1=>(fa DO (fa Ix ?_))));refine ld1 (v:=.int .i64 ((n:Int)+1)) ct3 (by rw [(st1.blk 0 rfl).cell];rfl) trivial ?_;(conv=>whnf);rw [w64 (x:=(n:Int)+1 - 1) (by omega) (by omega),show(n:Int)+1 - 1=(n:Int) by omega];(conv=>whnf);exact⟨rfl,st1⟩
theorem K4{p q:Nat}(hp:p≤2000000)(hq:q≤2000000)(s:Bool)(t:BitVec 256):(EdM.mk p q s t).Ok:=⟨Bs (by omega),Bs (by omega)⟩
theorem Tf(p q:Nat){S:Nat→Prop}{H:Aa}{K:Value→Prop}(k:K (.agg (edL (Bk p q)).toArray)):
  AH Tryz.prog (Instr.build 174 [(0,.int .i64 (p:Int)),(1,.int .i64 (q:Int)),(2,.bool true)].toArray) S H K:=by
 have e:edL (Bk p q)=[.int .i64 (p:Int),.int .i64 (q:Int),.bool true,.int .u64 0,.int .u64 0,.int .u64 0,.int .u64 0]:=by
  have h:∀i,wd 0#256 i=0:=fun i=>by unfold wd;simp
  simp [edL,Bk,h]
 rw [e]at k;exact A6 Tryz.underlying174 rfl _ Lo _ (by kernel_rfl) k
theorem Vb(x y:Int)(w0 w1 w2 w3:Value){S:Nat→Prop}{H:Aa}{K:Value→Prop}(h0:w0.oneCell'=true)(h1:w1.oneCell'=true)(h2:w2.oneCell'=true)(h3:w3.oneCell'=true)(k:K (.agg [.int .i64 x,.int .i64 y,.bool false,w0,w1,w2,w3].toArray)):
  AH Tryz.prog (Instr.build 174 [(0,.int .i64 x),(1,.int .i64 y),(3,.agg [w0,w1,w2,w3].toArray)].toArray) S H K:=
 A6 Tryz.underlying174 rfl _ Lo [.int .i64 x,.int .i64 y,.bool false,w0,w1,w2,w3] (by kernel_rfl) k
theorem Te(p q:Nat)(s:BitVec 256){S:Nat→Prop}{H:Aa}{K:Value→Prop}(k:K (.agg (edL (Ft p q s)).toArray)):
  AH Tryz.prog (Instr.build 174 [(0,.int .i64 (p:Int)),(1,.int .i64 (q:Int)),(3,.agg (Af s).toArray)].toArray) S H K:=by
 unfold Ft edL at k;unfold Af;exact Vb _ _ _ _ _ _ rfl rfl rfl rfl k
theorem FL{K:Value→Aa→Prop}{a:Option Addr}{c p q:Nat}{es:List EdM}(st:StB B H0 H (pB tBd bb (bdL n (.slice a es.length c) sub)::pS tEd 174 a es.length c es::rest))(hp:p≤2000000)(hq:q≤2000000)(hl:es.length+1≤4194304)
  (k:∀a' c' H',StB B H0 H' (pB tBd bb (bdL n (.slice a' (es++[Bk p q]).length c') sub)::pS tEd 174 a' (es++[Bk p q]).length c' (es++[Bk p q])::rest)→K (.tuple #[]) H'):
  Ag Tryz.prog 176 #[.pointer (some ⟨bb,0,none⟩),.int .i64 (p:Int),.int .i64 (q:Int)] H K:=by
 refine Ag.mk (R:=fun r H'=>r= .tuple #[]∧∃a' c',StB B H0 H' (pB tBd bb (bdL n (.slice a' (es++[Bk p q]).length c') sub)::pS tEd 174 a' (es++[Bk p q]).length c' (es++[Bk p q])::rest)) ?_ fun r H' ⟨h1,a',c',h2⟩=>by rw [h1];exact k a' c' H' h2
 refine Al.of_vc Tryz.func176 rfl (Tryz.call176 _) (fa DO (fa Lx ?_));refine ld1 (v:=.slice a es.length c) MY (by rw [(st.blk 0 rfl).cell];rfl) trivial ?_;refine Tf p q (A2 NK (edL (Bk p q)) rfl rfl (by decide) (by decide) ?_);intro y H1 hy hs1 hb1 ha1;have st1:=st.skip hy ha1;refine KZ (ys:=[Bk p q]) st1 1 NK rfl (hb1.cells (o:=0) (cs:=edL (Bk p q)) fun j v hv=>by rw [Aa5];exact hv) (Ty.reps_one ⟨rfl,K4 hp hq _ _⟩) rfl (fun u hu=>AaG.1 (Ng _) u hu) (by simp only [Aa0,Aa6];omega) (by decide) fun a9 c9 H9 st9 _=>?_;refine fa DO (fa Lx (AT st9 0 MY rfl (show 3<6 by decide) rfl fun H10 st10=>?_));(conv=>whnf);have el:es.length+[Bk p q].length=(es++[Bk p q]).length:=by simp
 rw [el]at st10;exact⟨rfl,a9,c9,st10⟩
theorem VE{K:Value→Aa→Prop}{a:Option Addr}{c:Nat}{es:List EdM}{s:BitVec 256}(st:StB B H0 H (pB tBd bb (bdL n (.slice a es.length c) sub)::pS tEd 174 a es.length c es::rest))(hn:n≤1000000)(hl:es.length+1≤4194304)
  (k:∀a' c' H',StB B H0 H' (pB tBd bb (bdL (n+2) (.slice a' (es++[Ft n (n+1) s]).length c') sub)::pS tEd 174 a' (es++[Ft n (n+1) s]).length c' (es++[Ft n (n+1) s])::rest)→K (.tuple #[.int .i64 (n:Int),.int .i64 ((n+1:Nat):Int)]) H'):
  Ag Tryz.prog 177 #[.pointer (some ⟨bb,0,none⟩),Bm s] H K:=by
 refine Ag.mk (R:=fun r H'=>r= .tuple #[.int .i64 (n:Int),.int .i64 ((n+1:Nat):Int)]∧∃a' c',StB B H0 H' (pB tBd bb (bdL (n+2) (.slice a' (es++[Ft n (n+1) s]).length c') sub)::pS tEd 174 a' (es++[Ft n (n+1) s]).length c' (es++[Ft n (n+1) s])::rest)) ?_ fun r H' ⟨h1,a',c',h2⟩=>by rw [h1];exact k a' c' H' h2
 refine Al.of_vc Tryz.func177 rfl (Tryz.call177 _) (B0 (Af s) rfl ?_);intro x H1 hx hs1 hb1 ha1;have st1:=(st.box hx hs1 hb1 ha1).perm (AaA _ _);have st2:StB B H0 H1 (pB tBd bb (bdL n (.slice a es.length c) sub)::pB 101 x (Af s)::pS tEd 174 a es.length c es::rest):=st1.perm (List.Perm.swap _ _ _);refine Ex st2 (by omega) fun H3 st3=>(Ex st3 (by omega) fun H4 st4=>?_);have hdis:=st4.apart2 (i:=0) (j:=2) rfl rfl (by decide);have hdis2:=st4.apart2 (i:=1) (j:=2) rfl rfl (by decide);refine Ar.heldZ (fun k=>k<H4.size∧¬slB (.slice a es.length c) k) [15] (sq [0,1,2,3,4,5,6,7,8,9] (.f 10 (.f 11 (sq [12,13,14] (.f 15 .e))))) rfl (by kernel_rfl) ?_;have hb4:bb<H4.size∧¬slB (.slice a es.length c) bb:=⟨(st4.in_ 0 rfl rfl).2,fun h=>hdis bb rfl (.inl h)⟩;have hx4:x<H4.size∧¬slB (.slice a es.length c) x:=⟨(st4.in_ 1 rfl rfl).2,fun h=>hdis2 x rfl (.inl h)⟩;refine fa DO (fa Lx ?_);refine ld1 (v:=.slice a es.length c) MY (by rw [(st4.blk 0 rfl).cell];rfl) hb4 ?_;refine ldN (cs:=Af s) AU ((st4.blk 1 rfl).cells fun j v hv=>by rw [Aa5];exact hv) hx4 ?_;refine Te n (n+1) s (A2 NK (edL (Ft n (n+1) s)) rfl rfl (by decide) (by decide) ?_);intro y H5 hy hs5 hb5 ha5;have st5:=st4.skip hy ha5;refine⟨ha5.mono fun k hk=>by have:=hk.1;omega,?_⟩;refine KZ (ys:=[Ft n (n+1) s]) st5 2 NK rfl (hb5.cells (o:=0) (cs:=edL (Ft n (n+1) s)) fun j v hv=>by rw [Aa5];exact hv) (Ty.reps_one ⟨rfl,K4 (by omega) (by omega) _ _⟩) rfl (fun u hu=>AaG.1 (Ng _) u hu) (by simp only [Aa0,Aa6];omega) (by decide) fun a9 c9 H9 st9 ha9=>?_;refine⟨(ha5.mono fun k hk=>by have:=hk.1;omega).trans (ha9.mono fun k hk=>⟨by have:=hk.1;omega,hk.2⟩),?_⟩;refine fa DO (fa Lx (AT st9 0 MY rfl (show 3<6 by decide) rfl fun H10 st10=>?_));(conv=>whnf);have el:es.length+[Ft n (n+1) s].length=(es++[Ft n (n+1) s]).length:=by simp
 rw [el]at st10;exact⟨rfl,a9,c9,(st10.perm (List.Perm.swap _ _ _)).sub (AaL _ _)⟩
end
theorem KL:(Tryz.prog.info? 98).bind (·.zero)=some (.agg #[]):=rfl
theorem KM:(Tryz.prog.info? 104).bind (·.zero)=some (.agg #[.int .u64 0,.int .u64 0,.int .u64 0,.int .u64 0]):=rfl
theorem N5:(Tryz.prog.info? 105).bind (·.zero)=some (.agg #[.nilIface,.nilIface]):=rfl
theorem RH:(Tryz.prog.info? 305).bind (·.zero)=some (.agg #[.nilIface,.nilIface]):=rfl
theorem Wu:(Tryz.prog.info? 310).bind (·.zero)=some (.agg #[.nilIface]):=rfl
theorem XQ{B:Nat→Prop}{H0:Aa}{bb:Nat}{sub:Value}:∀(r:ReM),r.plain=true→∀{H:Aa} {rest:List Pc} {n:Nat} {a:Option Addr} {c:Nat} {es:List EdM} (st:StB B H0 H (pB tBd bb (bdL n (.slice a es.length c) sub)::pS tEd 174 a es.length c es::rest)),n+stM r≤1000000→es.length+2*stM r≤4000000→
  Al Tryz.prog 138 #[.pointer (some ⟨bb,0,none⟩),A5 r] H fun v H'=>v= .tuple #[.int .i64 ((Ay r n).1:Nat),.int .i64 ((Ay r n).2.1:Nat)]∧∃a' c',StB B H0 H' (pB tBd bb (bdL (n+stM r) (.slice a' (es++(Ay r n).2.2).length c') sub)::pS tEd 174 a' (es++(Ay r n).2.2).length c' (es++(Ay r n).2.2)::rest):=fun r=>by
 induction r with
 | eps=>
   intro hpl H rest n a c es st hn hl;simp only [stM]at hn hl;refine Al.of_vc Tryz.func138 rfl (Tryz.call138 _) (fa HE ?_);refine ld1 (v:=.int .i64 0) S3 (by rw [(st.blk 0 rfl).cell];rfl) trivial ?_;refine Jt Tryz.underlying98 (by intro ms h;cases h) ?_;refine Ak (.agg #[]) [] rfl rfl ?_;intro x H1 hx hs1 hb1 ha1;have st1:StB B H0 H1 (pB 98 x []::pB tBd bb (bdL n (.slice a es.length c) sub)::pS tEd 174 a es.length c es::rest):=(st.box hx hs1 hb1 ha1).perm (AaA _ _);refine AI (cs:=[]) st1 0 rfl rfl (Aa8 _) rfl fun H2 st2=>?_;have st3:StB B H0 H2 (pB tBd bb (bdL n (.slice a es.length c) sub)::pS tEd 174 a es.length c es::rest):=st2.sub (AaL _ _);refine Ex st3 (by omega) fun H4 st4=>(Ex st4 (by omega) fun H5 st5=>(FL st5 (by omega) (by omega) (by omega) fun a' c' H6 st6=>?_));(conv=>whnf);exact⟨rfl,a',c',st6⟩
 | cls s=>
   intro hpl H rest n a c es st hn hl;simp only [stM]at hn hl;refine Al.of_vc Tryz.func138 rfl (Tryz.call138 _) (fa HE ?_);refine ld1 (v:=.int .i64 0) S3 (by rw [(st.blk 0 rfl).cell];rfl) trivial ?_;refine FS Tryz.underlying98 (by intro ms h;cases h) KL (by decide) ?_;refine Jt Tryz.underlying104 (by intro ms h;cases h) ?_;refine Ak _ [.int .u64 0,.int .u64 0,.int .u64 0,.int .u64 0] KM rfl ?_;intro x H1 hx hs1 hb1 ha1;have st1:StB B H0 H1 (pB 104 x [.int .u64 0,.int .u64 0,.int .u64 0,.int .u64 0]::pB tBd bb (bdL n (.slice a es.length c) sub)::pS tEd 174 a es.length c es::rest):=(st.box hx hs1 hb1 ha1).perm (AaA _ _);refine AI (cs:=Af s) st1 0 rfl rfl (Aa8 _) rfl fun H2 st2=>?_;rw [Ax (show(Af s).length=4 from rfl)]at st2;refine fa VW (ldN (cs:=Af s) AU ((st2.blk 0 rfl).cells fun j v hv=>by simpa using hv) trivial ?_);have st3:StB B H0 H2 (pB tBd bb (bdL n (.slice a es.length c) sub)::pS tEd 174 a es.length c es::rest):=st2.sub (AaL _ _);refine VE st3 (by omega) (by omega) fun a' c' H4 st4=>?_;(conv=>whnf);exact⟨rfl,a',c',st4⟩
 | cat r1 r2 ih1 ih2=>
   intro hpl H rest n a c es st hn hl;simp only [ReM.plain,Aa7]at hpl;simp only [stM]at hn hl;have l1:=BX r1 hpl.1 n;have l2:=BX r2 hpl.2 (n+stM r1);have i1:=Bn r1 hpl.1 n;have i2:=Bn r2 hpl.2 (n+stM r1);refine Al.of_vc Tryz.func138 rfl (Tryz.call138 _) (fa HE ?_);refine ld1 (v:=.int .i64 0) S3 (by rw [(st.blk 0 rfl).cell];rfl) trivial ?_;refine FS Tryz.underlying98 (by intro ms h;cases h) KL (by decide) ?_;refine FS Tryz.underlying104 (by intro ms h;cases h) KM (by decide) ?_;refine Jt Tryz.underlying105 (by intro ms h;cases h) ?_;refine Ak _ [.nilIface,.nilIface] N5 rfl ?_;intro x H1 hx hs1 hb1 ha1;have st1:StB B H0 H1 (pB 105 x [.nilIface,.nilIface]::pB tBd bb (bdL n (.slice a es.length c) sub)::pS tEd 174 a es.length c es::rest):=(st.box hx hs1 hb1 ha1).perm (AaA _ _);refine AI (cs:=[A5 r1,A5 r2]) st1 0 rfl rfl (Aa8 _) (by simp [HJ]) fun H2 st2=>?_;rw [Ax (show [A5 r1,A5 r2].length=2 from rfl)]at st2;refine fa Rt ?_;refine ld1 (v:=A5 r1) EJ (by rw [(st2.blk 0 rfl).cell];rfl) trivial ?_;have st3:StB B H0 H2 (pB tBd bb (bdL n (.slice a es.length c) sub)::pS tEd 174 a es.length c es::pB 105 x [A5 r1,A5 r2]::rest):=st2.pickN 3 [1,2,0] (by decide);refine Ag.mk (ih1 hpl.1 st3 (by omega) (by omega)) ?_;rintro _ H4 ⟨rfl,a4,c4,st4⟩;refine fa Ru ?_;refine ld1 (v:=A5 r2) EJ (by rw [(st4.blk 2 rfl).cell];rfl) trivial ?_;refine Ag.mk (ih2 hpl.2 st4 (by omega) (by rw [Aa1];omega)) ?_;rintro _ H5 ⟨rfl,a5,c5,st5⟩;refine FL st5 (by omega) (by omega) (by rw [Aa1,Aa1];omega) fun a6 c6 H6 st6=>?_;(conv=>whnf);have e1:es++(Ay r1 n).2.2++(Ay r2 (n+stM r1)).2.2++[Bk (Ay r1 n).2.1 (Ay r2 (n+stM r1)).1]=es++(Ay (.cat r1 r2) n).2.2:=by simp [Ay]
   rw [e1,Nat.add_assoc]at st6;exact⟨rfl,a6,c6,st6.pickN 3 [0,1] (by decide)⟩
 | alt r1 r2 ih1 ih2=>
   intro hpl H rest n a c es st hn hl;simp only [ReM.plain,Aa7]at hpl;simp only [stM]at hn hl;have l1:=BX r1 hpl.1 (n+1);have l2:=BX r2 hpl.2 (n+1+stM r1);have i1:=Bn r1 hpl.1 (n+1);have i2:=Bn r2 hpl.2 (n+1+stM r1);refine Al.of_vc Tryz.func138 rfl (Tryz.call138 _) (fa HE ?_);refine ld1 (v:=.int .i64 0) S3 (by rw [(st.blk 0 rfl).cell];rfl) trivial ?_;refine FS Tryz.underlying98 (by intro ms h;cases h) KL (by decide) ?_;refine FS Tryz.underlying104 (by intro ms h;cases h) KM (by decide) ?_;refine FS Tryz.underlying105 (by intro ms h;cases h) N5 (by decide) ?_;refine Jt Tryz.underlying305 (by intro ms h;cases h) ?_;refine Ak _ [.nilIface,.nilIface] RH rfl ?_;intro x H1 hx hs1 hb1 ha1;have st1:StB B H0 H1 (pB 305 x [.nilIface,.nilIface]::pB tBd bb (bdL n (.slice a es.length c) sub)::pS tEd 174 a es.length c es::rest):=(st.box hx hs1 hb1 ha1).perm (AaA _ _);refine AI (cs:=[A5 r1,A5 r2]) st1 0 rfl rfl (Aa8 _) (by simp [HJ]) fun H2 st2=>?_;rw [Ax (show [A5 r1,A5 r2].length=2 from rfl)]at st2;have st3:StB B H0 H2 (pB tBd bb (bdL n (.slice a es.length c) sub)::pS tEd 174 a es.length c es::pB 305 x [A5 r1,A5 r2]::rest):=st2.pickN 3 [1,2,0] (by decide);refine Ex st3 (by omega) fun H4 st4=>(fa R0 ?_);refine ld1 (v:=A5 r1) EJ (by rw [(st4.blk 2 rfl).cell];rfl) trivial ?_;refine Ag.mk (ih1 hpl.1 st4 (by omega) (by omega)) ?_;rintro _ H5 ⟨rfl,a5,c5,st5⟩;refine fa R1 ?_;refine ld1 (v:=A5 r2) EJ (by rw [(st5.blk 2 rfl).cell];rfl) trivial ?_;refine Ag.mk (ih2 hpl.2 st5 (by omega) (by rw [Aa1];omega)) ?_;rintro _ H6 ⟨rfl,a6,c6,st6⟩;refine Ex st6 (by omega) fun H7 st7=>?_;refine FL st7 (by omega) (by omega) (by simp only [Aa1];omega) fun a8 c8 H8 st8=>?_;refine FL st8 (by omega) (by omega) (by simp only [Aa1,Aa0,Aa6];omega) fun a9 c9 H9 st9=>?_;refine FL st9 (by omega) (by omega) (by simp only [Aa1,Aa0,Aa6];omega) fun a10 c10 H10 st10=>?_;refine FL st10 (by omega) (by omega) (by simp only [Aa1,Aa0,Aa6];omega) fun a11 c11 H11 st11=>?_;(conv=>whnf);have e1:es++(Ay r1 (n+1)).2.2++(Ay r2 (n+1+stM r1)).2.2++[Bk n (Ay r1 (n+1)).1]++[Bk n (Ay r2 (n+1+stM r1)).1]++[Bk (Ay r1 (n+1)).2.1 (n+1+stM r1+stM r2)]++[Bk (Ay r2 (n+1+stM r1)).2.1 (n+1+stM r1+stM r2)]=es++(Ay (.alt r1 r2) n).2.2:=by simp [Ay]
   rw [e1,show n+1+stM r1+stM r2+1=n+stM (.alt r1 r2) by simp only [stM];omega]at st11;exact⟨rfl,a11,c11,st11.pickN 3 [0,1] (by decide)⟩
 | star r1 ih1=>
   intro hpl H rest n a c es st hn hl;have hpl1:r1.plain=true:=hpl;simp only [stM]at hn hl;have l1:=BX r1 hpl1 (n+1);have i1:=Bn r1 hpl1 (n+1);refine Al.of_vc Tryz.func138 rfl (Tryz.call138 _) (fa HE ?_);refine ld1 (v:=.int .i64 0) S3 (by rw [(st.blk 0 rfl).cell];rfl) trivial ?_;refine FS Tryz.underlying98 (by intro ms h;cases h) KL (by decide) ?_;refine FS Tryz.underlying104 (by intro ms h;cases h) KM (by decide) ?_;refine FS Tryz.underlying105 (by intro ms h;cases h) N5 (by decide) ?_;refine FS Tryz.underlying305 (by intro ms h;cases h) RH (by decide) ?_;refine Jt Tryz.underlying310 (by intro ms h;cases h) ?_;refine Ak _ [.nilIface] Wu rfl ?_;intro x H1 hx hs1 hb1 ha1;have st1:StB B H0 H1 (pB 310 x [.nilIface]::pB tBd bb (bdL n (.slice a es.length c) sub)::pS tEd 174 a es.length c es::rest):=(st.box hx hs1 hb1 ha1).perm (AaA _ _);refine AI (cs:=[A5 r1]) st1 0 rfl rfl (Aa8 _) (by simp [HJ]) fun H2 st2=>?_;rw [Ax (show [A5 r1].length=1 from rfl)]at st2;have st3:StB B H0 H2 (pB tBd bb (bdL n (.slice a es.length c) sub)::pS tEd 174 a es.length c es::pB 310 x [A5 r1]::rest):=st2.pickN 3 [1,2,0] (by decide);refine Ex st3 (by omega) fun H4 st4=>(fa R2 ?_);refine ld1 (v:=A5 r1) EJ (by rw [(st4.blk 2 rfl).cell];rfl) trivial ?_;refine Ag.mk (ih1 hpl1 st4 (by omega) (by omega)) ?_;rintro _ H5 ⟨rfl,a5,c5,st5⟩;refine Ex st5 (by omega) fun H7 st7=>?_;refine FL st7 (by omega) (by omega) (by simp only [Aa1];omega) fun a8 c8 H8 st8=>?_;refine FL st8 (by omega) (by omega) (by simp only [Aa1,Aa0,Aa6];omega) fun a9 c9 H9 st9=>?_;refine FL st9 (by omega) (by omega) (by simp only [Aa1,Aa0,Aa6];omega) fun a10 c10 H10 st10=>?_;refine FL st10 (by omega) (by omega) (by simp only [Aa1,Aa0,Aa6];omega) fun a11 c11 H11 st11=>?_;(conv=>whnf);have e1:es++(Ay r1 (n+1)).2.2++[Bk n (Ay r1 (n+1)).1]++[Bk n (n+1+stM r1)]++[Bk (Ay r1 (n+1)).2.1 (Ay r1 (n+1)).1]++[Bk (Ay r1 (n+1)).2.1 (n+1+stM r1)]=es++(Ay (.star r1) n).2.2:=by simp [Ay]
   rw [e1,show n+1+stM r1+1=n+stM (.star r1) by simp only [stM];omega]at st11;exact⟨rfl,a11,c11,st11.pickN 3 [0,1] (by decide)⟩
 | and_=>intro h;cases h
 | minus=>intro h;cases h
end Go.Proofs.YtfbghcpdinlmcaaGreatDoor
namespace Go.VC
def P1(all:List Oper)(o:Oper)(fr:Fr)(yes no:Fr→Prop):Prop:=
 match o.guard with
 | none=>yes fr
 | some (j,want)=>match(all[j]?).bind (·.dst)with
   | none=>False
   | some t=>rdK fr t fun v=>match v with
     | .bool b=>AB b
       (wrK fr t (.bool true) fun fr1=>match want with
        | true=>yes fr1
        | false=>no fr1)
       (wrK fr t (.bool false) fun fr1=>match want with
        | false=>yes fr1
        | true=>no fr1)
     | .tuple _=>no fr
     | _=>False
theorem Kl{all:List Oper}{o:Oper}{fr:Fr}{a:Act}{yes no:Fr→Prop}(hat:At fr a)(h:P1 all o fr yes no):
  (Region.wanted o (yielded all.toArray a.tmps)=true∧yes fr)∨(Region.wanted o (yielded all.toArray a.tmps)=false∧no fr):=by
 unfold P1 at h;split at h
 ·rename_i hg;exact .inl ⟨by simp [Region.wanted,hg],h⟩
 ·rename_i j want hg;split at h
  ·exact h.elim
  ·rename_i t ht;rw [Dx]at h;split at h
   ·rename_i b hb;have hy:=GI hat ht hb;have hs:fr.set t (.bool b)=fr:=DB hb (by simp [undef]);cases b<;>cases want<;>simp only [AB,EC,hs]at h
    ·exact .inl ⟨by simp [Region.wanted,hg,hy],h⟩
    ·exact .inr ⟨by simp [Region.wanted,hg,hy],h⟩
    ·exact .inr ⟨by simp [Region.wanted,hg,hy],h⟩
    ·exact .inl ⟨by simp [Region.wanted,hg,hy],h⟩
   ·rename_i vs hb;exact .inr ⟨by simp [Region.wanted,hg,GJ hat ht hb],h⟩
   ·exact h.elim
def Po(o:Oper)(H:Aa)(K:Fr→Aa→Prop)(fr:Fr):Prop:=C5 o.dst fr undef fun fr'=>apK K fr' H
def Q0(P:Program)(S:Nat→Prop)(o:Oper)(H:Aa)(K:Fr→Aa→Prop)(fr:Fr):Prop:=
 match JY o&&F4 P o with
 | true=>Ma P S o fr H fun v=>C5 o.dst fr v fun fr'=>apK K fr' H
 | false=>False
def doG(P:Program)(S:Nat→Prop)(z:Bool)(H0:Aa)(o:Oper)(H:Aa)(K:Fr→Aa→Prop)(fr:Fr):Prop:=
 match z with
 | true=>opK P false (fun _=>True) o fr H fun v H'=>C5 o.dst fr v fun fr'=>apK K fr' H'
 | false=>opK P false (fun _=>True) o fr H fun v H'=>Agr S H0 H'∧C5 o.dst fr v fun fr'=>apK K fr' H'
def Kk(P:Program)(S:Nat→Prop)(Z:List Nat)(H0:Aa)(all:List Oper)(i:Nat)(fr:Fr)(H:Aa)(next:Fr→Aa→Prop):Prop:=
 match all[i]? with
 | none=>False
 | some o=>P1 all o fr (doG P S (Z.contains i) H0 o H next) (Po o H next)
theorem DE{P:Program}{S:Nat→Prop}{Z:List Nat}{w0:World}{all:List Oper}{Q:Exit→Act→World→Prop}{i:Nat}{fr:Fr}{a:Act}{w:World}{next:Fr→Aa→Prop}{N:Act→World→Prop}
  (hat:At fr a) (hc:Env w0 w) (hcl:Z.contains i=false→Cls w0 S w) (h:Kk P S Z w0.heap all i fr w.heap next)
  (hn:∀fr' a' w',At fr' a'→Env w0 w'→(Z.contains i=false→Cls w0 S w')→next fr' w'.heap→N a' w'):wpOp P all.toArray Q i N a w:=by
 unfold Kk at h;split at h
 ·exact h.elim
 ·rename_i o ho;have ho':all.toArray[i]? =some o:=by simpa using ho
  rcases Kl hat h with⟨hwant,h⟩ | ⟨hwant,h⟩
  ·unfold wpOp;rw [ho'];dsimp only;rw [if_pos hwant];unfold doG at h;split at h
   ·rename_i hz;refine .inl (Oper.wp_mono ?_ (CR hat h _));rintro a' w' ⟨v,rfl,henv,hk⟩;rw [BR]at hk;exact hn _ _ _ (hat.put o.dst v) (hc.trans henv) (fun hne=>by rw [hz]at hne;cases hne) hk
   ·refine .inl (Oper.wp_mono ?_ (CR hat h _));rintro a' w' ⟨v,rfl,henv,hagr,hk⟩;rw [BR]at hk;exact hn _ _ _ (hat.put o.dst v) (hc.trans henv) (fun _=>⟨hc.trans henv,hagr⟩) hk
  ·unfold wpOp;rw [ho'];dsimp only;rw [if_neg (by rw [hwant];exact Bool.false_ne_true)];unfold Po at h;rw [BR]at h;exact hn _ _ _ (hat.put o.dst undef) hc hcl h
end Go.VC
namespace Go.Proofs.YtfbghcpdinlmcaaGreatDoor
open Go.VC
def ZS(a:NfM)(q:Int)(e:EdM):Bool:=a.has e.fr&&a.has e.to&&decide (e.fr=q)
def Za(a:NfM)(q:Int):List EdM:=a.edges.filter (ZS a q)
structure FromV(B:Nat→Prop)(H0:Aa)(mb:Nat)(a:NfM):Prop where
 ex:∃m,IF KX kI H0 mb m∧∀q,∃ad cap,W9 m q= .slice ad (Za a q).length cap∧SlD tEd B H0 ad cap (Za a q)
 at_:B mb
structure StlR(a:NfM)(X:PS)(q:Int)(Y:PS):Prop where
 sub:∀p,X p→Y p
 own:Y q
 new:∀p,Y p→X p∨Tv a q p
 shut:∀p,Y p→¬X p→∀e∈a.edges,e.sil=true→e.fr=p→a.has e.to=true→Y e.to
open Classical in
noncomputable def mss(X:PS):Nat:=(Cu fun p=>¬X p).length
theorem Ul{p q:Int→Bool}:∀(l:List Int),(∀x,p x=true→q x=true)→(l.filter p).length≤(l.filter q).length
 | [],_=>Aa8 _
 | x::l,h=>by
   have ih:=Ul l h;cases hp:p x with
   | true=>rw [Aa9 hp,Aa9 (h x hp),Aa0,Aa0];omega
   | false=>
     rw [AaC (by rw [hp];decide)];cases hq:q x with
     | true=>rw [Aa9 hq,Aa0];omega
     | false=>rw [AaC (by rw [hq];decide)];exact ih
theorem Um{p q:Int→Bool}{y:Int}:∀(l:List Int),(∀x,p x=true→q x=true)→y∈l→p y=false→q y=true→(l.filter p).length<(l.filter q).length
 | [],_,hy,_,_=>by cases hy
 | x::l,h,hy,h1,h2=>by
   have le:=Ul l h;by_cases hxy:x=y
   ·subst hxy;rw [AaC (by rw [h1];decide),Aa9 h2,Aa0];omega
   ·have hyl:y∈l:=by
     rcases Ab7.1 hy with e | e
     ·exact absurd e.symm hxy
     ·exact e
    have ih:=Um l h hyl h1 h2;cases hp:p x with
    | true=>rw [Aa9 hp,Aa9 (h x hp),Aa0,Aa0];omega
    | false=>
      rw [AaC (by rw [hp];decide)];cases hq:q x with
      | true=>rw [Aa9 hq,Aa0];omega
      | false=>rw [AaC (by rw [hq];decide)];exact ih
theorem XL{X Y:PS}{q:Int}(h:∀p,X p→Y p)(h0:0≤q)(h1:q<65536)(hx:¬X q)(hy:Y q):mss Y<mss X:=by
 unfold mss Cu;refine Um (y:=q) _ (fun p hp=>?_) (List.mem_map.2 ⟨q.toNat,List.mem_range.2 (by omega),by omega⟩) ?_ ?_
 ·simp only [decide_eq_true_eq]at hp ⊢;exact fun hx=>hp (h p hx)
 ·simp [hy]
 ·simp [hx]
theorem EK{mm:Int→Option Value}{q:Int}{v:Value}(p:Int):Dom (put mm q (some v)) p↔Dom mm p∨p=q:=by
 unfold Dom;by_cases h:p=q
 ·subst h;rw [Hp];simp
 ·rw [JJ h];simp [h]
end Go.Proofs.YtfbghcpdinlmcaaGreatDoor
namespace Go.VC
section
variable{α:Type}{T:Ty α}{e:TypeId}{a:Option Addr}{n cap:Nat}{xs ys:List α}{B S:Nat→Prop}{H0 H:Aa}{ps:List Pc}
end
end Go.VC
namespace Go.Proofs.YtfbghcpdinlmcaaGreatDoor
open Go.VC
structure GthR(a:NfM)(L out:List Int):Prop where
 nd:out.Nodup
 sub:∀q∈L,q∈out
 cl:∀q∈out,clS a (·∈L) q
def UD:ReM→TypeId
 | .eps=>98
 | .cls _=>104
 | .cat _ _=>105
 | .alt _ _=>305
 | .star _=>310
 | .and_ _ _=>64
 | .minus _ _=>65
def Fj:ReM→Value
 | .eps=>.agg #[]
 | .cls s=>Bm s
 | .cat a b=>.agg #[A5 a,A5 b]
 | .alt a b=>.agg #[A5 a,A5 b]
 | .star a=>.agg #[A5 a]
 | .and_ a b=>.agg #[A5 a,A5 b]
 | .minus a b=>.agg #[A5 a,A5 b]
theorem L5(r:ReM):A5 r= .iface (UD r) (Fj r):=by cases r<;>rfl
def GM:ReM→FuncId
 | .eps=>271
 | .cls _=>273
 | .cat _ _=>275
 | .alt _ _=>278
 | .star _=>280
 | .and_ _ _=>266
 | .minus _ _=>269
theorem FR(r:ReM)(w:World):(callMethod (.iface (UD r) (Fj r)) "Size" #[]).run Tryz.prog w= .ok (.enter (GM r) #[Fj r]) w:=by
 cases r with
 | eps=>exact Qn _ w
 | cls=>exact Qm _ w
 | cat=>exact Ql _ w
 | alt=>exact Qj _ w
 | star=>exact OL _ w
 | and_=>exact Qk _ w
 | minus=>exact Nx _ w
theorem GF(r:ReM)(H:Aa):B8 Tryz.prog 267 #[A5 r] H (.iface (UD r) (Fj r)):=by
 rw [L5];refine Al.of_vc Tryz.func267 rfl (Tryz.call267 _) (ZI Tryz.underlying28 ?_);(conv=>whnf);exact⟨rfl,Agr.refl _ _⟩
theorem XY:∀(r:ReM),r.nodes≤1000000000→∀(H:Aa),B8 Tryz.prog (GM r) #[Fj r] H (.int .i64 (r.nodes:Int)):=fun r=>by
 induction r with
 | eps=>
   intro hn H;refine Al.of_vc Tryz.func271 rfl (Tryz.call271 _) (B0 [] rfl ?_);intro x H1 hx hs1 hb1 ha1;have st1:=(St.nil H).box hx hs1 hb1 ha1;(conv=>whnf);exact⟨rfl,st1.old⟩
 | cls s=>
   intro hn H;refine Al.of_vc Tryz.func273 rfl (Tryz.call273 _) (B0 (Af s) rfl ?_);intro x H1 hx hs1 hb1 ha1;have st1:=(St.nil H).box hx hs1 hb1 ha1;(conv=>whnf);exact⟨rfl,st1.old⟩
 | cat a b iha ihb=>
   intro hn H;simp only [ReM.nodes]at hn;refine Al.of_vc Tryz.func275 rfl (Tryz.call275 _) (B0 [A5 a,A5 b] rfl ?_);intro x H1 hx hs1 hb1 ha1;have st1:=(St.nil H).box hx hs1 hb1 ha1;have hxl:=hb1.lt;refine Ar.heldZ (Old H1) [] (sq [0,1,5,6] (.f 2 (.f 3 (sq [4] (.f 7 (.f 8 (sq [9] (.f 10 .e)))))))) rfl (by kernel_rfl) (fa Rt ?_);refine ld1 (v:=A5 a) EJ (by rw [hb1.cell];rfl) hxl ?_;refine fa Ru ?_;refine ld1 (v:=A5 b) EJ (by rw [hb1.cell];rfl) hxl ?_;refine Ao (GF a H1) fun H2 ha2=>(⟨ha2,?_⟩);refine Ib.mk (GM a) #[Fj a] (FR a) (iha (by omega) H2) ?_;rintro _ H3 ⟨rfl,ha3⟩;have h13:=ha2.trans (ha3.mono fun k hk=>As ha2 hk);refine⟨h13,?_⟩;(conv=>whnf);rw [w64 (x:=1+(a.nodes:Int)) (by omega) (by omega)];refine Ao (GF b H3) fun H4 ha4=>?_;have h14:=h13.trans (ha4.mono fun k hk=>As h13 hk);refine⟨h14,?_⟩;refine Ib.mk (GM b) #[Fj b] (FR b) (ihb (by omega) H4) ?_;rintro _ H5 ⟨rfl,ha5⟩;have h15:=h14.trans (ha5.mono fun k hk=>As h14 hk);refine⟨h15,?_⟩;(conv=>whnf);rw [w64 (x:=1+(a.nodes:Int)+(b.nodes:Int)) (by omega) (by omega)];refine⟨h15,?_⟩;(conv=>whnf);exact⟨by simp only [ReM.nodes];simp,st1.old.trans (h15.mono fun k hk=>st1.up hk)⟩
 | alt a b iha ihb=>
   intro hn H;simp only [ReM.nodes]at hn;refine Al.of_vc Tryz.func278 rfl (Tryz.call278 _) (B0 [A5 a,A5 b] rfl ?_);intro x H1 hx hs1 hb1 ha1;have st1:=(St.nil H).box hx hs1 hb1 ha1;have hxl:=hb1.lt;refine Ar.heldZ (Old H1) [] (sq [0,1,5,6] (.f 2 (.f 3 (sq [4] (.f 7 (.f 8 (sq [9] (.f 10 .e)))))))) rfl (by kernel_rfl) (fa R0 ?_);refine ld1 (v:=A5 a) EJ (by rw [hb1.cell];rfl) hxl ?_;refine fa R1 ?_;refine ld1 (v:=A5 b) EJ (by rw [hb1.cell];rfl) hxl ?_;refine Ao (GF a H1) fun H2 ha2=>(⟨ha2,?_⟩);refine Ib.mk (GM a) #[Fj a] (FR a) (iha (by omega) H2) ?_;rintro _ H3 ⟨rfl,ha3⟩;have h13:=ha2.trans (ha3.mono fun k hk=>As ha2 hk);refine⟨h13,?_⟩;(conv=>whnf);rw [w64 (x:=1+(a.nodes:Int)) (by omega) (by omega)];refine Ao (GF b H3) fun H4 ha4=>?_;have h14:=h13.trans (ha4.mono fun k hk=>As h13 hk);refine⟨h14,?_⟩;refine Ib.mk (GM b) #[Fj b] (FR b) (ihb (by omega) H4) ?_;rintro _ H5 ⟨rfl,ha5⟩;have h15:=h14.trans (ha5.mono fun k hk=>As h14 hk);refine⟨h15,?_⟩;(conv=>whnf);rw [w64 (x:=1+(a.nodes:Int)+(b.nodes:Int)) (by omega) (by omega)];refine⟨h15,?_⟩;(conv=>whnf);exact⟨by simp only [ReM.nodes];simp,st1.old.trans (h15.mono fun k hk=>st1.up hk)⟩
 | star a iha=>
   intro hn H;simp only [ReM.nodes]at hn;refine Al.of_vc Tryz.func280 rfl (Tryz.call280 _) (B0 [A5 a] rfl ?_);intro x H1 hx hs1 hb1 ha1;have st1:=(St.nil H).box hx hs1 hb1 ha1;refine fa R2 ?_;refine ld1 (v:=A5 a) EJ (by rw [hb1.cell];rfl) trivial ?_;refine Ao (GF a H1) fun H2 ha2=>?_;have st2:=st1.call ha2;refine Ib.mk (GM a) #[Fj a] (FR a) (iha (by omega) H2) ?_;rintro _ H3 ⟨rfl,ha3⟩;have st3:=st2.call ha3;(conv=>whnf);rw [w64 (x:=1+(a.nodes:Int)) (by omega) (by omega)];(conv=>whnf);exact⟨by simp only [ReM.nodes];simp,st3.old⟩
 | and_ a b iha ihb=>
   intro hn H;simp only [ReM.nodes]at hn;refine Al.of_vc Tryz.func266 rfl (Tryz.call266 _) (B0 [A5 a,A5 b] rfl ?_);intro x H1 hx hs1 hb1 ha1;have st1:=(St.nil H).box hx hs1 hb1 ha1;have hxl:=hb1.lt;refine Ar.heldZ (Old H1) [] (sq [0,1,5,6] (.f 2 (.f 3 (sq [4] (.f 7 (.f 8 (sq [9] (.f 10 .e)))))))) rfl (by kernel_rfl) (fa X4 ?_);refine ld1 (v:=A5 a) EJ (by rw [hb1.cell];rfl) hxl ?_;refine fa X5 ?_;refine ld1 (v:=A5 b) EJ (by rw [hb1.cell];rfl) hxl ?_;refine Ao (GF a H1) fun H2 ha2=>(⟨ha2,?_⟩);refine Ib.mk (GM a) #[Fj a] (FR a) (iha (by omega) H2) ?_;rintro _ H3 ⟨rfl,ha3⟩;have h13:=ha2.trans (ha3.mono fun k hk=>As ha2 hk);refine⟨h13,?_⟩;(conv=>whnf);rw [w64 (x:=1+(a.nodes:Int)) (by omega) (by omega)];refine Ao (GF b H3) fun H4 ha4=>?_;have h14:=h13.trans (ha4.mono fun k hk=>As h13 hk);refine⟨h14,?_⟩;refine Ib.mk (GM b) #[Fj b] (FR b) (ihb (by omega) H4) ?_;rintro _ H5 ⟨rfl,ha5⟩;have h15:=h14.trans (ha5.mono fun k hk=>As h14 hk);refine⟨h15,?_⟩;(conv=>whnf);rw [w64 (x:=1+(a.nodes:Int)+(b.nodes:Int)) (by omega) (by omega)];refine⟨h15,?_⟩;(conv=>whnf);exact⟨by simp only [ReM.nodes];simp,st1.old.trans (h15.mono fun k hk=>st1.up hk)⟩
 | minus a b iha ihb=>
   intro hn H;simp only [ReM.nodes]at hn;refine Al.of_vc Tryz.func269 rfl (Tryz.call269 _) (B0 [A5 a,A5 b] rfl ?_);intro x H1 hx hs1 hb1 ha1;have st1:=(St.nil H).box hx hs1 hb1 ha1;have hxl:=hb1.lt;refine Ar.heldZ (Old H1) [] (sq [0,1,5,6] (.f 2 (.f 3 (sq [4] (.f 7 (.f 8 (sq [9] (.f 10 .e)))))))) rfl (by kernel_rfl) (fa X6 ?_);refine ld1 (v:=A5 a) EJ (by rw [hb1.cell];rfl) hxl ?_;refine fa X7 ?_;refine ld1 (v:=A5 b) EJ (by rw [hb1.cell];rfl) hxl ?_;refine Ao (GF a H1) fun H2 ha2=>(⟨ha2,?_⟩);refine Ib.mk (GM a) #[Fj a] (FR a) (iha (by omega) H2) ?_;rintro _ H3 ⟨rfl,ha3⟩;have h13:=ha2.trans (ha3.mono fun k hk=>As ha2 hk);refine⟨h13,?_⟩;(conv=>whnf);rw [w64 (x:=1+(a.nodes:Int)) (by omega) (by omega)];refine Ao (GF b H3) fun H4 ha4=>?_;have h14:=h13.trans (ha4.mono fun k hk=>As h13 hk);refine⟨h14,?_⟩;refine Ib.mk (GM b) #[Fj b] (FR b) (ihb (by omega) H4) ?_;rintro _ H5 ⟨rfl,ha5⟩;have h15:=h14.trans (ha5.mono fun k hk=>As h14 hk);refine⟨h15,?_⟩;(conv=>whnf);rw [w64 (x:=1+(a.nodes:Int)+(b.nodes:Int)) (by omega) (by omega)];refine⟨h15,?_⟩;(conv=>whnf);exact⟨by simp only [ReM.nodes];simp,st1.old.trans (h15.mono fun k hk=>st1.up hk)⟩
theorem Dm:∀r:ReM,stM r≤2*r.nodes
 | .eps=>by simp [stM,ReM.nodes]
 | .cls _=>by simp [stM,ReM.nodes]
 | .cat a b=>by have:=Dm a;have:=Dm b;simp only [stM,ReM.nodes];omega
 | .alt a b=>by have:=Dm a;have:=Dm b;simp only [stM,ReM.nodes];omega
 | .star a=>by have:=Dm a;simp only [stM,ReM.nodes];omega
 | .and_ a b=>by simp [stM]
 | .minus a b=>by simp [stM]
def AA(r:ReM):NfM:=⟨(stM r:Int),((Ay r 0).1:Int),((Ay r 0).2.1:Int),(Ay r 0).2.2⟩
def Ys:Value:=.agg #[.int .i64 0,.int .i64 0,.int .i64 0,.slice none 0 0]
def Yu(H H':Aa)(r:ReM)(v:Value):Prop:=Agr (Old H) H H'∧if 2000<r.nodes then v= .tuple #[Ys,.int .i64 24]else
 ∃ea ec,v= .tuple #[.agg (nfL (AA r) (.slice ea (AA r).edges.length ec)).toArray,.int .i64 0]∧SlO tEd none_ H' H.size 174 (.slice ea (AA r).edges.length ec) (AA r).edges
theorem ZD:(Tryz.prog.info? 246).bind (·.zero)=some (.agg #[.int .i64 0,.int .i64 0,.int .i64 0,.slice none 0 0,.nilFunc,.int .i64 0]):=rfl
theorem Ol(r:ReM)(hpl:r.plain=true)(hb:r.nodes≤1000000000)(H:Aa):Al Tryz.prog 84 #[A5 r,.nilFunc] H fun v H'=>Yu H H' r v:=by
 rw [L5];refine Al.of_vc Tryz.func84 rfl (Tryz.call84 _) (Ak _ [.int .i64 0,.int .i64 0,.int .i64 0,.slice none 0 0] OQ rfl ?_);intro y H1 hy hs1 hb1 ha1;have st1:=(St.nil H).box hy hs1 hb1 ha1;refine Uu Tryz.underlying28 (Ib.mk (GM r) #[Fj r] (FR r) (XY r hb H1) ?_);rintro _ H2 ⟨rfl,ha2⟩;have st2:=st1.call ha2;by_cases hbig:2000<r.nodes
 ·have d1:decide ((2000:Int)<(r.nodes:Int))=true:=decide_eq_true (by omega);(conv=>whnf);rw [d1];refine A6 Tryz.underlying76 rfl _ OQ [.int .i64 0,.int .i64 0,.int .i64 0,.slice none 0 0] rfl (AI (cs:=[.int .i64 0,.int .i64 0,.int .i64 0,.slice none 0 0]) st2 0 rfl rfl (Aa8 _) rfl fun H3 st3=>?_);refine ldN (cs:=[.int .i64 0,.int .i64 0,.int .i64 0,.slice none 0 0]) NY ((st3.blk 0 rfl).cells fun j v hv=>by rw [Aa5];exact hv) trivial ?_;(conv=>whnf);exact⟨st3.old,by rw [if_pos hbig];rfl⟩
 ·have d1:decide ((2000:Int)<(r.nodes:Int))=false:=decide_eq_false (by omega);have hst:=Dm r;have hin:=Bn r hpl 0;(conv=>whnf);rw [d1];refine A6 Tryz.underlying246 rfl _ ZD (bdL 0 (.slice none 0 0) .nilFunc) (by kernel_rfl) (B0 (bdL 0 (.slice none 0 0) .nilFunc) rfl ?_);intro bb H3 hbb hs3 hb3 ha3;have st3:St H H3 (pB tBd bb (bdL 0 (.slice none 0 0) .nilFunc)::pS tEd 174 none 0 0 []::[pB 76 y [.int .i64 0,.int .i64 0,.int .i64 0,.slice none 0 0]]):=((st2.box hbb hs3 hb3 ha3).nils tEd 174).pick [1,2,0] (by decide);have hp:=XQ (sub:=.nilFunc) (n:=0) (es:=[]) r hpl st3 (by omega) (by simp only [Aa6];omega);rw [L5]at hp;refine Ag.mk hp ?_;rintro _ H4 ⟨rfl,a4,c4,st4⟩;rw [List.nil_append,Aa5]at st4;refine fa DO (fa Qa (AT st4 0 ct3 rfl (show 1<6 by decide) rfl fun H5 st5=>(fa DO (fa Uj (AT st5 0 ct3 rfl (show 2<6 by decide) rfl fun H6 st6=>(fa HE ?_))))));refine ld1 (v:=.int .i64 0) S3 (by rw [(st6.blk 0 rfl).cell];rfl) trivial ?_;refine fa DO (fa Ix ?_);refine ld1 (v:=.int .i64 (stM r:Int)) ct3 (by rw [(st6.blk 0 rfl).cell];rfl) trivial ?_;have d2:decide ((65536:Int)<(stM r:Int))=false:=decide_eq_false (by omega);(conv=>whnf);rw [d2];refine fa DO ?_;have hc6:Bi H6 bb 0 (nfL (AA r) (.slice a4 (AA r).edges.length c4)):=(st6.blk 0 rfl).cells fun j v hv=>by
   rw [Aa5]
   match j,hv with
   | 0,hv=>exact hv
   | 1,hv=>exact hv
   | 2,hv=>exact hv
   | 3,hv=>exact hv
  refine ldN (cs:=nfL (AA r) (.slice a4 (AA r).edges.length c4)) NY hc6 trivial (AI (cs:=nfL (AA r) (.slice a4 (AA r).edges.length c4)) st6 2 rfl rfl (Aa8 _) rfl fun H7 st7=>?_);rw [Ax (show(nfL (AA r) (.slice a4 (AA r).edges.length c4)).length=4 from rfl)]at st7;refine ldN (cs:=nfL (AA r) (.slice a4 (AA r).edges.length c4)) NY ((st7.blk 2 rfl).cells fun j v hv=>by rw [Aa5];exact hv) trivial ?_;(conv=>whnf);exact⟨st7.old,by rw [if_neg hbig];exact⟨a4,c4,rfl,St.own st7 1 rfl⟩⟩
theorem QX(r:ReM)(hpl:r.plain=true)(hb:r.nodes≤1000000000)(H:Aa):Al Tryz.prog 36 #[A5 r] H fun v H'=>Yu H H' r v:=by
 refine Al.of_vc Tryz.func36 rfl (Tryz.call36 _) (Ak _ [.int .i64 0,.int .i64 0,.int .i64 0,.slice none 0 0] OQ rfl ?_);intro y H1 hy hs1 hb1 ha1;have st1:=(St.nil H).box hy hs1 hb1 ha1;refine Ag.mk (Ol r hpl hb H1) ?_;rintro v H2 ⟨ha2,hv⟩;have st2:=st1.call ha2;by_cases hbig:2000<r.nodes
 ·rw [if_pos hbig]at hv;subst hv;refine AI (cs:=[.int .i64 0,.int .i64 0,.int .i64 0,.slice none 0 0]) st2 0 rfl rfl (Aa8 _) rfl fun H3 st3=>?_;refine ldN (cs:=[.int .i64 0,.int .i64 0,.int .i64 0,.slice none 0 0]) NY ((st3.blk 0 rfl).cells fun j v hv=>by rw [Aa5];exact hv) trivial ?_;(conv=>whnf);exact⟨st3.old,by rw [if_pos hbig];rfl⟩
 ·rw [if_neg hbig]at hv;obtain⟨ea,ec,rfl,hown⟩:=hv;obtain⟨ea',ec',e3,st3⟩:=st1.got ha2 hown;injection e3 with e31 e32 e33
  subst e31;subst e33;refine AI (cs:=nfL (AA r) (.slice ea (AA r).edges.length ec)) st3 0 rfl rfl (Aa8 _) rfl fun H7 st7=>?_;rw [Ax (show(nfL (AA r) (.slice ea (AA r).edges.length ec)).length=4 from rfl)]at st7;refine ldN (cs:=nfL (AA r) (.slice ea (AA r).edges.length ec)) NY ((st7.blk 0 rfl).cells fun j v hv=>by rw [Aa5];exact hv) trivial ?_;(conv=>whnf);exact⟨st7.old,by rw [if_neg hbig];exact⟨ea,ec,rfl,St.own st7 1 rfl⟩⟩
structure RnM where
 op:Int
 set:BitVec 256
 l:Int
 r:Int
 m:Int
 n:Int
def AZ(op:Value)(bits:List Value)(a b m n:Value):List Value:=[op]++(bits++[a,b,m,n])
def rnL(d:RnM):List Value:=AZ (.int .i64 d.op) (Ap d.set) (.int .i64 d.l) (.int .i64 d.r) (.int .i64 d.m) (.int .i64 d.n)
theorem Ai(d:RnM):(rnL d).length=261:=by
 unfold rnL AZ;simp [Aq]
theorem BB(d:RnM):(rnL d)[0]? =some (.int .i64 d.op):=rfl
theorem ET(d:RnM):(rnL d)[257]? =some (.int .i64 d.l):=by
 unfold rnL AZ;rw [Aa3 (by simp),Aa3 (by simp [Aq])];simp [Aq]
theorem JO(d:RnM):(rnL d)[258]? =some (.int .i64 d.r):=by
 unfold rnL AZ;rw [Aa3 (by simp),Aa3 (by simp [Aq])];simp [Aq]
theorem ND(d:RnM):∀(j:Nat) (v:Value),(Ap d.set)[j]? =some v→(rnL d)[1+j]? =some v:=by
 intro j v h;have hj:j<256:=by have:=(Aa2.1 h).1;rwa [Aq]at this
 unfold rnL AZ;rw [Aa3 (by simp),AaF (by rw [Aq];simp;omega)];simpa using h
def RnM.Ok(d:RnM):Prop:=inK .i64 d.op∧inK .i64 d.l∧inK .i64 d.r∧inK .i64 d.m∧inK .i64 d.n
def tRn:Ty RnM where
 size:=261
 rep _ _ cs d:=cs=rnL d∧d.Ok
 len h:=by rw [h.1];exact Ai _
 frame h _:=h
 mono h _:=h
theorem Be(d:RnM):(rnL d).all (·.oneCell')=true:=by
 unfold rnL AZ;rw [Ab3,Ab3,Ap,EX];rfl
def rnZ:List Value:=AZ (.int .i64 0) (Aa4 256 (.bool false)) (.int .i64 0) (.int .i64 0) (.int .i64 0) (.int .i64 0)
theorem AK:rnZ.length=261:=by simp [rnZ,AZ]
theorem EU:(Tryz.prog.info? 159).bind (·.zero)=some (.agg rnZ.toArray):=by kernel_rfl
theorem Ih:Ap 0#256=Aa4 256 (.bool false):=by
 apply AaR;intro i;by_cases hi:i<256
 ·rw [FU _ hi,List.getElem?_replicate,if_pos hi];simp
 ·rw [AaN (by rw [Aq];omega),AaN (by simp;omega)]
section
variable{op op' a a' b b' m n:Value}{bits bits':List Value}
theorem UX:Ae (AZ op bits a b m n) 0 [op']=AZ op' bits a b m n:=rfl
theorem XU(h:bits.length=256)(h':bits'.length=256):Ae (AZ op bits a b m n) 1 bits'=AZ op bits' a b m n:=by
 unfold Ae AZ;rw [show([op]++(bits++[a,b,m,n])).take 1=[op]from rfl,h',show 1+256=256+1 by omega,show([op]++(bits++[a,b,m,n])).drop (256+1)=(bits++[a,b,m,n]).drop 256 from rfl,List.drop_left' h,List.append_assoc]
theorem Zg(h:bits.length=256):Ae (AZ op bits a b m n) 257 [a']=AZ op bits a' b m n:=by
 unfold Ae AZ;have e1:([op]++(bits++[a,b,m,n])).take 257=[op]++bits:=by
  rw [show([op]++(bits++[a,b,m,n])).take (256+1)=op::(bits++[a,b,m,n]).take 256 from rfl,List.take_left' h];rfl
 have e2:([op]++(bits++[a,b,m,n])).drop (257+1)=[b,m,n]:=by
  rw [show([op]++(bits++[a,b,m,n])).drop (257+1)=(bits++[a,b,m,n]).drop 257 from rfl,show(257:Nat)=bits.length+1 by omega,AaP];rfl
 rw [e1,show 257+[a'].length=257+1 from rfl,e2];simp
theorem ZX(h:bits.length=256):Ae (AZ op bits a b m n) 258 [b']=AZ op bits a b' m n:=by
 unfold Ae AZ;have e1:([op]++(bits++[a,b,m,n])).take 258=[op]++(bits++[a]):=by
  rw [show([op]++(bits++[a,b,m,n])).take (257+1)=op::(bits++[a,b,m,n]).take 257 from rfl,show(257:Nat)=bits.length+1 by omega,List.take_length_add_append];rfl
 have e2:([op]++(bits++[a,b,m,n])).drop (258+1)=[m,n]:=by
  rw [show([op]++(bits++[a,b,m,n])).drop (258+1)=(bits++[a,b,m,n]).drop 258 from rfl,show(258:Nat)=bits.length+2 by omega,AaP];rfl
 rw [e1,show 258+[b'].length=258+1 from rfl,e2];simp
theorem DC(h:bits.length=256):(AZ op bits a b m n).length=261:=by unfold AZ;simp [h]
end
theorem JN(x:Int)(s:BitVec 256){S:Nat→Prop}{H:Aa}{K:Value→Prop}(k:K (.agg (rnL ⟨x,s,0,0,0,0⟩).toArray)):
  AH Tryz.prog (Instr.build 159 [(0,.int .i64 x),(1,.agg (Ap s).toArray)].toArray) S H K:=by
 refine A6 Tryz.underlying159 rfl (.agg rnZ.toArray) EU (rnL ⟨x,s,0,0,0,0⟩) ?_ k;have hr:(Aa4 256 (Value.bool false)).length=256:=AaU;refine(Bq (i:=0) (off:=0) (size:=1) (by kernel_rfl) rfl (by show _≤rnZ.toArray.size;rw [AaE,AK];decide)).trans ?_;have e0:Ae (Value.agg rnZ.toArray).cells.toList 0 (Value.int .i64 x).cells.toList=AZ (.int .i64 x) (Aa4 256 (.bool false)) (.int .i64 0) (.int .i64 0) (.int .i64 0) (.int .i64 0):=UX;rw [e0];have ec:(Value.agg (Ap s).toArray).cells=(Ap s).toArray:=rfl;refine(Bq (i:=1) (off:=1) (size:=256) (by kernel_rfl) (by rw [ec,AaE,Aq]) (by rw [AaE,DC hr];decide)).trans ?_;rw [ec,AaI,AaI,XU hr (Aq s)];rfl
theorem MB(x y z:Int){S:Nat→Prop}{H:Aa}{K:Value→Prop}(k:K (.agg (rnL ⟨x,0#256,y,z,0,0⟩).toArray)):
  AH Tryz.prog (Instr.build 159 [(0,.int .i64 x),(2,.int .i64 y),(3,.int .i64 z)].toArray) S H K:=by
 refine A6 Tryz.underlying159 rfl (.agg rnZ.toArray) EU (rnL ⟨x,0#256,y,z,0,0⟩) ?_ k;have hr:(Aa4 256 (Value.bool false)).length=256:=AaU;refine(Bq (i:=0) (off:=0) (size:=1) (by kernel_rfl) rfl (by show _≤rnZ.toArray.size;rw [AaE,AK];decide)).trans ?_;have e0:Ae (Value.agg rnZ.toArray).cells.toList 0 (Value.int .i64 x).cells.toList=AZ (.int .i64 x) (Aa4 256 (.bool false)) (.int .i64 0) (.int .i64 0) (.int .i64 0) (.int .i64 0):=UX;rw [e0];refine(Bq (i:=2) (off:=257) (size:=1) (by kernel_rfl) rfl (by rw [AaE,DC hr];decide)).trans ?_;rw [AaI,show(Value.int IntKind.i64 y).cells.toList=[Value.int .i64 y]from rfl,Zg hr];refine(Bq (i:=3) (off:=258) (size:=1) (by kernel_rfl) rfl (by rw [AaE,DC hr];decide)).trans ?_;rw [AaI,show(Value.int IntKind.i64 z).cells.toList=[Value.int .i64 z]from rfl,ZX hr];unfold rnL;rw [show(RnM.mk x 0#256 y z 0 0).set=0#256 from rfl,Ih];rfl
def Ba(ns:List RnM):ReM→Nat→Prop
 | .eps,i=>∃d,ns[i]? =some d∧d.op=0
 | .cls s,i=>∃d,ns[i]? =some d∧d.op=1∧d.set=s
 | .cat a b,i=>∃d j k:_,ns[i]? =some d∧d.op=2∧d.l=((j:Nat):Int)∧d.r=((k:Nat):Int)∧Ba ns a j∧Ba ns b k
 | .alt a b,i=>∃d j k:_,ns[i]? =some d∧d.op=3∧d.l=((j:Nat):Int)∧d.r=((k:Nat):Int)∧Ba ns a j∧Ba ns b k
 | .star a,i=>∃d j:_,ns[i]? =some d∧d.op=4∧d.l=((j:Nat):Int)∧Ba ns a j
 | .and_ a b,i=>∃d j k:_,ns[i]? =some d∧d.op=5∧d.l=((j:Nat):Int)∧d.r=((k:Nat):Int)∧Ba ns a j∧Ba ns b k
 | .minus a b,i=>∃d j k:_,ns[i]? =some d∧d.op=6∧d.l=((j:Nat):Int)∧d.r=((k:Nat):Int)∧Ba ns a j∧Ba ns b k
def ZP:ReM→Int
 | .eps=>0
 | .cls _=>1
 | .cat _ _=>2
 | .alt _ _=>3
 | .star _=>4
 | .and_ _ _=>5
 | .minus _ _=>6
theorem Gc{α:Type}{l m:List α}{i:Nat}{x:α}(h:l[i]? =some x):(l++m)[i]? =some x:=by
 rw [AaF (Aa2.1 h).1];exact h
theorem Ba.more{ns ms:List RnM}:∀{r:ReM} {i:Nat},Ba ns r i→Ba (ns++ms) r i
 | .eps,_,⟨d,h1,h2⟩=>⟨d,Gc h1,h2⟩
 | .cls _,_,⟨d,h1,h2⟩=>⟨d,Gc h1,h2⟩
 | .cat a b,_,⟨d,j,k,h1,h2,h3,h4,h5,h6⟩=>⟨d,j,k,Gc h1,h2,h3,h4,h5.more,h6.more⟩
 | .alt a b,_,⟨d,j,k,h1,h2,h3,h4,h5,h6⟩=>⟨d,j,k,Gc h1,h2,h3,h4,h5.more,h6.more⟩
 | .star a,_,⟨d,j,h1,h2,h3,h5⟩=>⟨d,j,Gc h1,h2,h3,h5.more⟩
 | .and_ a b,_,⟨d,j,k,h1,h2,h3,h4,h5,h6⟩=>⟨d,j,k,Gc h1,h2,h3,h4,h5.more,h6.more⟩
 | .minus a b,_,⟨d,j,k,h1,h2,h3,h4,h5,h6⟩=>⟨d,j,k,Gc h1,h2,h3,h4,h5.more,h6.more⟩
def reL(v:Value)(Av:Int):List Value:=[v,.int .i64 Av]
def ReV(S:Nat→Prop)(H:Aa)(v:Value)(ns:List RnM)(Av:Int):Prop:=ns.length≤4194304∧∃na nc,v= .agg (reL (.slice na ns.length nc) Av).toArray∧SlD tRn S H na nc ns
section
variable{S S':Nat→Prop}{H H':Aa}{v:Value}{ns:List RnM}{Av:Int}
theorem ReV.frame(h:ReV S H v ns Av)(k:Agr S H H'):ReV S H' v ns Av:=by
 obtain⟨h1,na,nc,h2,h3⟩:=h;exact⟨h1,na,nc,h2,h3.frame k⟩
theorem Q2{K:Value→Aa→Prop}{t:TypeId}(h:ReV S H v ns Av)
  (k:∀na nc,v= .agg (reL (.slice na ns.length nc) Av).toArray→SlD tRn S H na nc ns→New H (fun b H'=>K (.pointer (some ⟨b,0,none⟩)) H') t (reL (.slice na ns.length nc) Av)):By Tryz.prog (Instr.box t v) H K:=by
 obtain⟨hl,na,nc,rfl,h1⟩:=h;exact B0 (reL (.slice na ns.length nc) Av) rfl (k na nc rfl h1)
theorem CB{S0:Nat→Prop}{pb:Nat}{na:Option Addr}{nc:Nat}{K:Value→Prop}{t:TypeId}(hl:ns.length≤4194304)(hb:Blk H pb t (reL (.slice na ns.length nc) Av))(hag:Fa Tryz.prog t 2)(hS:S0 pb)(h1:SlD tRn S H na nc ns)
  (k:∀v,ReV S H v ns Av→K v):AH Tryz.prog (Instr.loadAt t (.pointer (some ⟨pb,0,none⟩))) S0 H K:=
 ldN (cs:=reL (.slice na ns.length nc) Av) hag (hb.cells fun j v hv=>by rw [Aa5];exact hv) hS (k _ ⟨hl,na,nc,rfl,h1⟩)
end
theorem W6:∀(r:ReM),r.nodes≤1000000000→∀{S:Nat→Prop} {H:Aa} {v:Value} {ns:List RnM} {Av:Int} {i:Nat},(∀k,S k→k<H.size)→ReV S H v ns Av→Ba ns r i→
  B8 Tryz.prog 125 #[v,.int .i64 (i:Int)] H (.int .i64 (r.nodes:Int)):=fun r=>by
 induction r with
 | eps=>
   intro hn S H v ns Av i hS hv ht;obtain⟨d,hd,hop⟩:=ht;obtain⟨hl,na,nc,rfl,h1⟩:=hv;refine Al.of_vc Tryz.func125 rfl (Tryz.call125 _) (B0 (reL (.slice na ns.length nc) Av) rfl ?_);intro p H1 hp hs1 hb1 ha1;have st1:=(St.nil H).box hp hs1 hb1 ha1;refine fa BD ?_;refine ld1 (v:=.slice na ns.length nc) Cb (by rw [(st1.blk 0 rfl).cell];rfl) trivial ?_;refine ixr (i:=i) C6 (h1.frame (st1.old.mono hS)) hd rfl ?_;rintro b2 o2 c2 hS2 hc2 ⟨rfl,hok⟩;refine ldN (cs:=rnL d) (by rw [Ai];exact Do) hc2 trivial ?_;refine Ak _ rnZ EU rfl ?_;intro x H3 hx hs3 hb3 ha3;have st3:=st1.box hx hs3 hb3 ha3;refine AI (cs:=rnL d) st3 1 (by rw [Ai];rfl) rfl (by rw [Ai,AK];decide) (Be d) fun H4 st4=>?_;rw [Ax (show(rnL d).length=rnZ.length by rw [Ai,AK])]at st4;have hb4:=st4.blk 1 rfl;have hp4:=st4.blk 0 rfl;have hxl:=hb4.lt;have hpl:=hp4.lt;refine fa AN ?_;refine ld1 (v:=.int .i64 d.op) ct3 (by rw [hb4.cell];exact BB d) trivial ?_;(conv=>whnf);rw [hop];(conv=>whnf);exact⟨rfl,st4.old⟩
 | cls s=>
   intro hn S H v ns Av i hS hv ht;obtain⟨d,hd,hop,hset⟩:=ht;obtain⟨hl,na,nc,rfl,h1⟩:=hv;refine Al.of_vc Tryz.func125 rfl (Tryz.call125 _) (B0 (reL (.slice na ns.length nc) Av) rfl ?_);intro p H1 hp hs1 hb1 ha1;have st1:=(St.nil H).box hp hs1 hb1 ha1;refine fa BD ?_;refine ld1 (v:=.slice na ns.length nc) Cb (by rw [(st1.blk 0 rfl).cell];rfl) trivial ?_;refine ixr (i:=i) C6 (h1.frame (st1.old.mono hS)) hd rfl ?_;rintro b2 o2 c2 hS2 hc2 ⟨rfl,hok⟩;refine ldN (cs:=rnL d) (by rw [Ai];exact Do) hc2 trivial ?_;refine Ak _ rnZ EU rfl ?_;intro x H3 hx hs3 hb3 ha3;have st3:=st1.box hx hs3 hb3 ha3;refine AI (cs:=rnL d) st3 1 (by rw [Ai];rfl) rfl (by rw [Ai,AK];decide) (Be d) fun H4 st4=>?_;rw [Ax (show(rnL d).length=rnZ.length by rw [Ai,AK])]at st4;have hb4:=st4.blk 1 rfl;have hp4:=st4.blk 0 rfl;have hxl:=hb4.lt;have hpl:=hp4.lt;refine fa AN ?_;refine ld1 (v:=.int .i64 d.op) ct3 (by rw [hb4.cell];exact BB d) trivial ?_;(conv=>whnf);rw [hop];(conv=>whnf);exact⟨rfl,st4.old⟩
 | cat a b iha ihb | alt a b iha ihb | and_ a b iha ihb | minus a b iha ihb=>
   intro hn S H v ns Av i hS hv ht;simp only [ReM.nodes]at hn;obtain⟨d,j,k,hd,hop,hl1,hl2,hta,htb⟩:=ht;obtain⟨hl,na,nc,rfl,h1⟩:=hv;refine Al.of_vc Tryz.func125 rfl (Tryz.call125 _) (B0 (reL (.slice na ns.length nc) Av) rfl ?_);intro p H1 hp hs1 hb1 ha1;have st1:=(St.nil H).box hp hs1 hb1 ha1;refine fa BD ?_;refine ld1 (v:=.slice na ns.length nc) Cb (by rw [(st1.blk 0 rfl).cell];rfl) trivial ?_;refine ixr (i:=i) C6 (h1.frame (st1.old.mono hS)) hd rfl ?_;rintro b2 o2 c2 hS2 hc2 ⟨rfl,hok⟩;refine ldN (cs:=rnL d) (by rw [Ai];exact Do) hc2 trivial ?_;refine Ak _ rnZ EU rfl ?_;intro x H3 hx hs3 hb3 ha3;have st3:=st1.box hx hs3 hb3 ha3;refine AI (cs:=rnL d) st3 1 (by rw [Ai];rfl) rfl (by rw [Ai,AK];decide) (Be d) fun H4 st4=>?_;rw [Ax (show(rnL d).length=rnZ.length by rw [Ai,AK])]at st4;have hb4:=st4.blk 1 rfl;have hp4:=st4.blk 0 rfl;have hxl:=hb4.lt;have hpl:=hp4.lt;refine fa AN ?_;refine ld1 (v:=.int .i64 d.op) ct3 (by rw [hb4.cell];exact BB d) trivial ?_;(conv=>whnf);rw [hop];refine fa AN ?_;refine ld1 (v:=.int .i64 d.op) ct3 (by rw [hb4.cell];exact BB d) trivial ?_;(conv=>whnf);rw [hop];refine Ar.heldZ (Old H4) [] (sq [0,1,2,5,6,7] (.f 3 (sq [4] (.f 8 (sq [9] (.f 10 .e)))))) rfl (by kernel_rfl) (CB hl hp4 Dr hpl (h1.frame (st4.old.mono hS)) fun v5 hv5=>(fa Bh ?_));refine ld1 (v:=.int .i64 d.l) ct3 (by rw [hb4.cell,Aa5];exact ET d) hxl ?_;(conv=>whnf);rw [hl1];refine CB hl hp4 Dr hpl (h1.frame (st4.old.mono hS)) fun v6 hv6=>(fa CA ?_);refine ld1 (v:=.int .i64 d.r) ct3 (by rw [hb4.cell,Aa5];exact JO d) hxl ?_;(conv=>whnf);rw [hl2];refine Ao (iha (by omega) (fun k hk=>st4.up (hS k hk)) hv5 hta) fun H5 ha5=>?_;have st5:=st4.call ha5;refine⟨ha5,?_⟩;(conv=>whnf);rw [w64 (x:=1+(a.nodes:Int)) (by omega) (by omega)];refine Ao (ihb (by omega) (fun k hk=>st5.up (hS k hk)) (hv6.frame (ha5.mono fun k hk=>st4.up (hS k hk))) htb) fun H6 ha6=>?_;have st6:=st5.call ha6;have g6:Agr (Old H4) H4 H6:=ha5.trans (ha6.mono fun k hk=>As ha5 hk);refine⟨g6,?_⟩;(conv=>whnf);rw [w64 (x:=1+(a.nodes:Int)+(b.nodes:Int)) (by omega) (by omega)];refine⟨g6,?_⟩;(conv=>whnf);exact⟨by simp only [ReM.nodes];simp,st6.old⟩
 | star a iha=>
   intro hn S H v ns Av i hS hv ht;simp only [ReM.nodes]at hn;obtain⟨d,j,hd,hop,hl1,hta⟩:=ht;obtain⟨hl,na,nc,rfl,h1⟩:=hv;refine Al.of_vc Tryz.func125 rfl (Tryz.call125 _) (B0 (reL (.slice na ns.length nc) Av) rfl ?_);intro p H1 hp hs1 hb1 ha1;have st1:=(St.nil H).box hp hs1 hb1 ha1;refine fa BD ?_;refine ld1 (v:=.slice na ns.length nc) Cb (by rw [(st1.blk 0 rfl).cell];rfl) trivial ?_;refine ixr (i:=i) C6 (h1.frame (st1.old.mono hS)) hd rfl ?_;rintro b2 o2 c2 hS2 hc2 ⟨rfl,hok⟩;refine ldN (cs:=rnL d) (by rw [Ai];exact Do) hc2 trivial ?_;refine Ak _ rnZ EU rfl ?_;intro x H3 hx hs3 hb3 ha3;have st3:=st1.box hx hs3 hb3 ha3;refine AI (cs:=rnL d) st3 1 (by rw [Ai];rfl) rfl (by rw [Ai,AK];decide) (Be d) fun H4 st4=>?_;rw [Ax (show(rnL d).length=rnZ.length by rw [Ai,AK])]at st4;have hb4:=st4.blk 1 rfl;have hp4:=st4.blk 0 rfl;have hxl:=hb4.lt;have hpl:=hp4.lt;refine fa AN ?_;refine ld1 (v:=.int .i64 d.op) ct3 (by rw [hb4.cell];exact BB d) trivial ?_;(conv=>whnf);rw [hop];refine fa AN ?_;refine ld1 (v:=.int .i64 d.op) ct3 (by rw [hb4.cell];exact BB d) trivial ?_;(conv=>whnf);rw [hop];refine CB hl hp4 Dr trivial (h1.frame (st4.old.mono hS)) fun v5 hv5=>(fa Bh ?_);refine ld1 (v:=.int .i64 d.l) ct3 (by rw [hb4.cell,Aa5];exact ET d) trivial ?_;(conv=>whnf);rw [hl1];refine Ao (iha (by omega) (fun k hk=>st4.up (hS k hk)) hv5 hta) fun H5 ha5=>?_;have st5:=st4.call ha5;(conv=>whnf);rw [w64 (x:=1+(a.nodes:Int)) (by omega) (by omega)];(conv=>whnf);exact⟨by simp only [ReM.nodes];simp,st5.old⟩
theorem VD:∀(r:ReM),r.plain=true→∀{S:Nat→Prop} {H:Aa} {v:Value} {ns:List RnM} {Av:Int} {i:Nat},(∀k,S k→k<H.size)→ReV S H v ns Av→Ba ns r i→
  B8 Tryz.prog 85 #[v,.int .i64 (i:Int)] H (.bool true):=fun r=>by
 induction r with
 | eps=>
   intro hpl S H v ns Av i hS hv ht;obtain⟨d,hd,hop⟩:=ht;obtain⟨hl,na,nc,rfl,h1⟩:=hv;refine Al.of_vc Tryz.func85 rfl (Tryz.call85 _) (B0 (reL (.slice na ns.length nc) Av) rfl ?_);intro p H1 hp hs1 hb1 ha1;have st1:=(St.nil H).box hp hs1 hb1 ha1;refine fa BD ?_;refine ld1 (v:=.slice na ns.length nc) Cb (by rw [(st1.blk 0 rfl).cell];rfl) trivial ?_;refine ixr (i:=i) C6 (h1.frame (st1.old.mono hS)) hd rfl ?_;rintro b2 o2 c2 hS2 hc2 ⟨rfl,hok⟩;refine ldN (cs:=rnL d) (by rw [Ai];exact Do) hc2 trivial ?_;refine Ak _ rnZ EU rfl ?_;intro x H3 hx hs3 hb3 ha3;have st3:=st1.box hx hs3 hb3 ha3;refine AI (cs:=rnL d) st3 1 (by rw [Ai];rfl) rfl (by rw [Ai,AK];decide) (Be d) fun H4 st4=>?_;rw [Ax (show(rnL d).length=rnZ.length by rw [Ai,AK])]at st4;have hb4:=st4.blk 1 rfl;have hp4:=st4.blk 0 rfl;have hxl:=hb4.lt;have hpl:=hp4.lt;refine fa AN ?_;refine ld1 (v:=.int .i64 d.op) ct3 (by rw [hb4.cell];exact BB d) trivial ?_;(conv=>whnf);rw [hop];refine Am.run ?_;(conv=>whnf);exact⟨rfl,st4.old⟩
 | cls s=>
   intro hpl S H v ns Av i hS hv ht;obtain⟨d,hd,hop,hset⟩:=ht;obtain⟨hl,na,nc,rfl,h1⟩:=hv;refine Al.of_vc Tryz.func85 rfl (Tryz.call85 _) (B0 (reL (.slice na ns.length nc) Av) rfl ?_);intro p H1 hp hs1 hb1 ha1;have st1:=(St.nil H).box hp hs1 hb1 ha1;refine fa BD ?_;refine ld1 (v:=.slice na ns.length nc) Cb (by rw [(st1.blk 0 rfl).cell];rfl) trivial ?_;refine ixr (i:=i) C6 (h1.frame (st1.old.mono hS)) hd rfl ?_;rintro b2 o2 c2 hS2 hc2 ⟨rfl,hok⟩;refine ldN (cs:=rnL d) (by rw [Ai];exact Do) hc2 trivial ?_;refine Ak _ rnZ EU rfl ?_;intro x H3 hx hs3 hb3 ha3;have st3:=st1.box hx hs3 hb3 ha3;refine AI (cs:=rnL d) st3 1 (by rw [Ai];rfl) rfl (by rw [Ai,AK];decide) (Be d) fun H4 st4=>?_;rw [Ax (show(rnL d).length=rnZ.length by rw [Ai,AK])]at st4;have hb4:=st4.blk 1 rfl;have hp4:=st4.blk 0 rfl;have hxl:=hb4.lt;have hpl:=hp4.lt;refine fa AN ?_;refine ld1 (v:=.int .i64 d.op) ct3 (by rw [hb4.cell];exact BB d) trivial ?_;(conv=>whnf);rw [hop];refine Am.run ?_;(conv=>whnf);exact⟨rfl,st4.old⟩
 | cat a b iha ihb | alt a b iha ihb=>
   intro hpln S H v ns Av i hS hv ht;simp only [ReM.plain,Aa7]at hpln;obtain⟨d,j,k,hd,hop,hl1,hl2,hta,htb⟩:=ht;obtain⟨hl,na,nc,rfl,h1⟩:=hv;refine Al.of_vc Tryz.func85 rfl (Tryz.call85 _) (B0 (reL (.slice na ns.length nc) Av) rfl ?_);intro p H1 hp hs1 hb1 ha1;have st1:=(St.nil H).box hp hs1 hb1 ha1;refine fa BD ?_;refine ld1 (v:=.slice na ns.length nc) Cb (by rw [(st1.blk 0 rfl).cell];rfl) trivial ?_;refine ixr (i:=i) C6 (h1.frame (st1.old.mono hS)) hd rfl ?_;rintro b2 o2 c2 hS2 hc2 ⟨rfl,hok⟩;refine ldN (cs:=rnL d) (by rw [Ai];exact Do) hc2 trivial ?_;refine Ak _ rnZ EU rfl ?_;intro x H3 hx hs3 hb3 ha3;have st3:=st1.box hx hs3 hb3 ha3;refine AI (cs:=rnL d) st3 1 (by rw [Ai];rfl) rfl (by rw [Ai,AK];decide) (Be d) fun H4 st4=>?_;rw [Ax (show(rnL d).length=rnZ.length by rw [Ai,AK])]at st4;have hb4:=st4.blk 1 rfl;have hp4:=st4.blk 0 rfl;have hxl:=hb4.lt;have hpl:=hp4.lt;refine fa AN ?_;refine ld1 (v:=.int .i64 d.op) ct3 (by rw [hb4.cell];exact BB d) trivial ?_;(conv=>whnf);rw [hop];refine Am.run (Am.run (CB hl hp4 Dr trivial (h1.frame (st4.old.mono hS)) fun v5 hv5=>(fa Bh ?_)));refine ld1 (v:=.int .i64 d.l) ct3 (by rw [hb4.cell,Aa5];exact ET d) trivial ?_;(conv=>whnf);rw [hl1];refine Ao (iha hpln.1 (fun k hk=>st4.up (hS k hk)) hv5 hta) fun H5 ha5=>?_;have st5:=st4.call ha5;have hb5:=st5.blk 1 rfl;refine CB hl (st5.blk 0 rfl) Dr trivial (h1.frame (st5.old.mono hS)) fun v6 hv6=>(fa CA ?_);refine ld1 (v:=.int .i64 d.r) ct3 (by rw [hb5.cell,Aa5];exact JO d) trivial ?_;(conv=>whnf);rw [hl2];refine Ao (ihb hpln.2 (fun k hk=>st5.up (hS k hk)) hv6 htb) fun H6 ha6=>?_;have st6:=st5.call ha6;(conv=>whnf);exact⟨rfl,st6.old⟩
 | star a iha=>
   intro hpln S H v ns Av i hS hv ht;simp only [ReM.plain]at hpln;obtain⟨d,j,hd,hop,hl1,hta⟩:=ht;obtain⟨hl,na,nc,rfl,h1⟩:=hv;refine Al.of_vc Tryz.func85 rfl (Tryz.call85 _) (B0 (reL (.slice na ns.length nc) Av) rfl ?_);intro p H1 hp hs1 hb1 ha1;have st1:=(St.nil H).box hp hs1 hb1 ha1;refine fa BD ?_;refine ld1 (v:=.slice na ns.length nc) Cb (by rw [(st1.blk 0 rfl).cell];rfl) trivial ?_;refine ixr (i:=i) C6 (h1.frame (st1.old.mono hS)) hd rfl ?_;rintro b2 o2 c2 hS2 hc2 ⟨rfl,hok⟩;refine ldN (cs:=rnL d) (by rw [Ai];exact Do) hc2 trivial ?_;refine Ak _ rnZ EU rfl ?_;intro x H3 hx hs3 hb3 ha3;have st3:=st1.box hx hs3 hb3 ha3;refine AI (cs:=rnL d) st3 1 (by rw [Ai];rfl) rfl (by rw [Ai,AK];decide) (Be d) fun H4 st4=>?_;rw [Ax (show(rnL d).length=rnZ.length by rw [Ai,AK])]at st4;have hb4:=st4.blk 1 rfl;have hp4:=st4.blk 0 rfl;have hxl:=hb4.lt;have hpl:=hp4.lt;refine fa AN ?_;refine ld1 (v:=.int .i64 d.op) ct3 (by rw [hb4.cell];exact BB d) trivial ?_;(conv=>whnf);rw [hop];refine Am.run (Am.run (CB hl hp4 Dr trivial (h1.frame (st4.old.mono hS)) fun v5 hv5=>(fa Bh ?_)));refine ld1 (v:=.int .i64 d.l) ct3 (by rw [hb4.cell,Aa5];exact ET d) trivial ?_;(conv=>whnf);rw [hl1];refine Ao (iha hpln (fun k hk=>st4.up (hS k hk)) hv5 hta) fun H5 ha5=>?_;have st5:=st4.call ha5;(conv=>whnf);exact⟨rfl,st5.old⟩
 | and_=>intro h;cases h
 | minus=>intro h;cases h
end Go.Proofs.YtfbghcpdinlmcaaGreatDoor
namespace Go.Proofs.YtfbghcpdinlmcaaGreatDoor
open Go.Shelf Go.Proofs Go.VC
def OH:Go.Shelf.Ren:=⟨fun | 137=>210 | 217=>229 | 266=>240 | n=>n,fun | 9=>9 | 5=>5 | 3=>3 | n=>n,fun | n=>n⟩
theorem Wm:Go.Proofs.Lays.n137 Tryz.prog OH:={
 mixed:=by kernel_rfl
 f137:=Tryz.func210.trans (congrArg some (by kernel_rfl))
 f217:=Tryz.func229.trans (congrArg some (by kernel_rfl))
 f266:=Tryz.func240.trans (congrArg some (by kernel_rfl))
 t3:=Tryz.underlying3
 a3:=Tryz.isAgg3
 z3:=Tryz.sizeOf3
 v3:=Tryz.zeroValue3
 t5:=Tryz.underlying5
 a5:=Tryz.isAgg5
 z5:=Tryz.sizeOf5
 v5:=Tryz.zeroValue5
 t9:=Tryz.underlying9
 a9:=Tryz.isAgg9
 z9:=Tryz.sizeOf9
 v9:=Tryz.zeroValue9}
open Go.RowKit in
theorem strings_IndexByte(s:ByteArray)(c:Int)(w:World):
  Calls Tryz.prog 210 #[.string s,.int .u8 c] w fun e w'=>e= .returned (.int .i64 (Lib.indexByte s.data.toList c.toNat.toUInt8))∧w'=w:=Any.strings_IndexByte Wm s c w
open Go.Lib in
theorem Ns(s:ByteArray)(c:Nat)(H:Aa):B8 Tryz.prog 210 #[.string s,.int .u8 (c:Int)] H (.int .i64 (indexByte s.data.toList (UInt8.ofNat c))):=by
 intro w hw;refine⟨Tryz.call210 _ w,?_⟩;refine(strings_IndexByte s (c:Int) w).mono ?_;rintro _ _ ⟨rfl,rfl⟩;exact⟨_,rfl,Env.refl _,rfl,by subst hw;exact Agr.refl _ _⟩
end Go.Proofs.YtfbghcpdinlmcaaGreatDoor
namespace Go.Proofs.YtfbghcpdinlmcaaGreatDoor
open Go.VC Go.Lib
def spB(s:ByteArray)(c:Nat):Bool:=decide (0≤indexByte s.data.toList (UInt8.ofNat c))
def TX:List Value:=[.int .u8 110,.int .u8 10,.int .u8 114,.int .u8 13,.int .u8 116,.int .u8 9]
def Fx(H:Aa):Prop:=Bi H 0 0 TX∧0<H.size
theorem YI:(Tryz.prog.info? 335).bind (·.zero)=some (.agg #[.int .u8 0,.int .u8 0]):=by kernel_rfl
theorem WD{s:ByteArray}{c:Nat}:(decide (indexByte s.data.toList (UInt8.ofNat c)≥0))=spB s c:=rfl
def Ni(i:Nat):Nat×Nat:=match i with
 | 0=>(110,10)
 | 1=>(114,13)
 | _=>(116,9)
theorem Ya{s:ByteArray}{c i:Nat}(h:s.data.toList[i]? =some (UInt8.ofNat c)):spB s c=true:=by
 unfold spB;rw [decide_eq_true_eq];have h1:=indexByte_ge s.data.toList (UInt8.ofNat c);apply Classical.byContradiction;intro h2;exact absurd h (indexByte_none (by omega) i)
theorem WC{s:ByteArray}{c:Nat}(h:∀i:Nat,s.data.toList[i]? ≠some (UInt8.ofNat c)):spB s c=false:=by
 unfold spB;rw [decide_eq_false_iff_not];intro h2;obtain⟨o,ho⟩:=Int.eq_ofNat_of_zero_le h2;exact h o (indexByte_some ho).1
theorem YR{H:Aa}{s:ByteArray}{c:Nat}(hs:s.size≤1048576)(hc:c<256):B8 Tryz.prog 195 #[.string s,.int .u8 (c:Int)] H (.bool (spB s c)):=by
 refine Al.of_vc Tryz.func195 rfl (Tryz.call195 _) ?_;have hsz:s.data.toList.length=s.size:=rfl;(conv=>whnf);refine A3.mk [5] (fun i:Nat=>[.int .i64 (i:Int)]) (fun i H1=>i≤s.size∧(∀j,j<i→s.data.toList[j]? ≠some (UInt8.ofNat c))∧St H H1 []) (fun i _=>s.size - i) ?_ ?_
 ·(conv=>whnf);exact⟨0,rfl,by omega,fun j hj=>by omega,St.nil H⟩
 ·rintro i H1 junk1 ⟨hi,hno,st1⟩;refine AB.mk (fun hz=>?_) (fun hz=>?_)<;>simp only [decide_eq_true_eq,decide_eq_false_iff_not]at hz
  ·obtain⟨x,hx⟩:=Ad (l:=s.data.toList) (k:=i) (by omega);have hx2:s.data[i]? =some x:=by rw [←Array.getElem?_toList];exact hx
   refine Dg Tryz.underlying9 rfl hx2 ?_;by_cases he:x.toNat=c
   ·have d1:((x.toNat:Int)==(c:Int))=true:=by rw [he];exact beq_self_eq_true _
    have hxc:x=UInt8.ofNat c:=by rw [←he];simp
    rw [Ya (i:=i) (by rw [←hxc];exact hx)];(conv=>whnf);rw [d1];(conv=>whnf);exact⟨rfl,st1.old⟩
   ·have d1:((x.toNat:Int)==(c:Int))=false:=beq_eq_false_iff_ne.2 (by omega);(conv=>whnf);rw [d1];(conv=>whnf);rw [w64 (x:=(i:Int)+1) (by omega) (by omega)];refine⟨rfl,i+1,by simp,⟨by omega,fun j hj=>?_,st1⟩,by omega⟩;rcases AaY (Ab0 hj)with hj | rfl
    ·exact hno j hj
    ·rw [hx];intro e;injection e with e
     apply he;rw [e,UInt8.toNat_ofNat'];omega
  ·obtain rfl:i=s.size:=by omega
   (conv=>whnf);rw [WC fun j=>by
    by_cases hj:j<s.size
    ·exact hno j hj
    ·rw [AaN (by omega)];exact fun e=>by cases e]
   exact⟨rfl,st1.old⟩
def DW:ByteArray:=⟨#[40,41,91,93,123,125,124,38,45,42,43,63,46,92,47,94]⟩
def Dl:ByteArray:=⟨#[92,93,91,45,94,47]⟩
theorem Th{H:Aa}{c:Nat}(hc:c<256):B8 Tryz.prog 172 #[.int .u8 (c:Int)] H (.bool (spB DW c)):=by
 refine Al.of_vc Tryz.func172 rfl (Tryz.call172 _) (Ao (YR (s:=DW) (by decide) hc) fun H1 ha1=>?_);(conv=>whnf);exact⟨rfl,ha1⟩
theorem Wl{H:Aa}{c:Nat}(hc:c<256):B8 Tryz.prog 171 #[.int .u8 (c:Int)] H (.bool (spB Dl c)):=by
 refine Al.of_vc Tryz.func171 rfl (Tryz.call171 _) (Ao (YR (s:=Dl) (by decide) hc) fun H1 ha1=>?_);(conv=>whnf);exact⟨rfl,ha1⟩
end Go.Proofs.YtfbghcpdinlmcaaGreatDoor
namespace Go.VC
abbrev pe(x:Value):List PanicEntry:=[{v:=x,recovered:=false}]
def QP(R E:Value→Aa→Prop):Ending→Aa→Prop
 | .returned v,H=>R v H
 | .panicked c,H=>∃x,c=pe x∧E x H
 | .outgrown,_=>False
theorem QP.mono{R R' E E':Value→Aa→Prop}{e:Ending}{H:Aa}(h:QP R E e H)(hr:∀v H,R v H→R' v H)(he:∀v H,E v H→E' v H):QP R' E' e H:=by
 cases e with
 | returned v=>exact hr v H h
 | panicked c=>obtain⟨x,h1,h2⟩:=h;exact⟨x,h1,he x H h2⟩
 | outgrown=>exact h
def BC(P:Program)(f:FuncId)(args:Array Value)(H:Aa)(R E:Value→Aa→Prop):Prop:=
 ∀w:World,w.heap=H→(callFunc f args).run P w= .ok (.enter f args) w∧Calls P f args w fun e w'=>Env w w'∧QP R E e w'.heap
theorem BC.mono{P:Program}{f:FuncId}{args:Array Value}{H:Aa}{R R' E E':Value→Aa→Prop}(h:BC P f args H R E)(hr:∀v H,R v H→R' v H)(he:∀v H,E v H→E' v H):BC P f args H R' E':=fun w hw=>
 ⟨(h w hw).1,(h w hw).2.mono fun e w' ⟨h1,h2⟩=>⟨h1,h2.mono hr he⟩⟩
theorem Al.pan{P:Program}{f:FuncId}{args:Array Value}{H:Aa}{R E:Value→Aa→Prop}(h:Al P f args H R):BC P f args H R E:=fun w hw=>
 ⟨(h w hw).1,(h w hw).2.mono fun e w' ⟨v,he,h1,h2⟩=>by subst he;exact⟨h1,h2⟩⟩
structure Ah(P:Program)(f:FuncId)(args:Array Value)(H:Aa)(K E:Value→Aa→Prop):Prop where
 in_::
 out_:BC P f args H K E
theorem Ah.mk{P:Program}{f:FuncId}{args:Array Value}{H:Aa}{K R E E':Value→Aa→Prop}(h:BC P f args H R E')(k:∀v H',R v H'→K v H')(e:∀v H',E' v H'→E v H'):Ah P f args H K E:=
 ⟨h.mono k e⟩
theorem Ah.of{P:Program}{f:FuncId}{args:Array Value}{H:Aa}{K E:Value→Aa→Prop}(h:Ag P f args H K):Ah P f args H K E:=⟨h.out_.pan⟩
structure AtX(ds:List Deferred)(fr:Fr)(a:Act):Prop where
 tmps:a.tmps.toList=fr
 defers:a.defers=ds
theorem AtX.at_{fr:Fr}{a:Act}(h:AtX [] fr a):At fr a:=⟨h.tmps,h.defers⟩
theorem AtX.bare{ds:List Deferred}{fr:Fr}{a:Act}(h:AtX ds fr a):At fr {tmps:=a.tmps,defers:=[]}:=⟨h.tmps,rfl⟩
theorem AtX.evalF{ds:List Deferred}{fr:Fr}{a:Act}(h:AtX ds fr a):a.eval=evF fr:=by
 rw [←h.bare.evalF];funext x;cases x<;>rfl
theorem AtX.put{ds:List Deferred}{fr:Fr}{a:Act}(h:AtX ds fr a)(dst:Option Tmp)(v:Value):AtX ds (match dst with | none=>fr | some d=>fr.set d v) (a.put dst v):=by
 obtain⟨rfl,h2⟩:=h;cases dst with
 | none=>exact⟨rfl,h2⟩
 | some d=>exact⟨by simp [Act.put],h2⟩
theorem Wz{a:Act}{dst:Option Tmp}{v v':Value}(h:({tmps:=a.tmps,defers:=[]}:Act).put dst v=({tmps:=a.tmps,defers:=[]}:Act).put dst v'):a.put dst v=a.put dst v':=by
 cases dst with
 | none=>rfl
 | some d=>
   have:=congrArg Act.tmps h;simp only [Act.put]at this ⊢;rw [this]
def Tt(P:Program)(o:Oper)(a:Act)(w:World)(K E:Value→Aa→Prop):Prop:=
 ∀Q:Exit→Act→World→Prop,(∀x w',Env w w'→E x w'.heap→Q (.panic (pe x)) a w')→o.wp P a w (fun a' w'=>∃v,a'=a.put o.dst v∧Env w w'∧K v w'.heap) Q
theorem XO{P:Program}{o:Oper}{a:Act}{w:World}{K E:Value→Aa→Prop}(h:P9 P o {tmps:=a.tmps,defers:=[]} w K):Tt P o a w K E:=by
 intro Q _;have h1:=h (fun e _ w=>Q e a w);unfold Oper.wp at h1 ⊢;have ev:({tmps:=a.tmps,defers:=[]}:Act).eval=a.eval:=by funext x;cases x<;>rfl
 rw [ev]at h1;revert h1;generalize (execOp a.eval o).run P w=r;intro h1;cases r with
 | ok nx w'=>
   cases nx with
   | value v=>
     obtain⟨v',e,h2,h3⟩:=h1;exact⟨v',Wz e,h2,h3⟩
   | skip=>
     obtain⟨v',e,h2,h3⟩:=h1;exact⟨v',Wz e,h2,h3⟩
   | defer d=>
     obtain⟨v',e,h2,h3⟩:=h1;have:=congrArg Act.defers e;cases hdst:o.dst<;>rw [hdst]at this<;>simp [Act.put]at this
   | enter f args=>
     refine Calls.mono h1 ?_;intro e w'' h2;cases e with
     | returned v=>
       obtain⟨v',e,h3,h4⟩:=h2;exact⟨v',Wz e,h3,h4⟩
     | panicked c=>exact h2
     | outgrown=>obtain⟨_,w,h3⟩:=h2;exact⟨a,w,h3⟩
   | row row args=>
     refine Rows.mono h1 ?_;intro v w'' h2;obtain⟨v',e,h3,h4⟩:=h2;exact⟨v',Wz e,h3,h4⟩
   | _=>exact h1.elim
 | halt s w'=>
   cases s<;>first | exact h1 | exact h1.elim
def TJ(P:Program)(f:Value)(args:List Value)(H:Aa)(K E:Value→Aa→Prop):Prop:=
 match f with
 | .func (.func g) first cap=>Ah P g (first.toList++args++cap.toList).toArray H K E
 | _=>False
def OT(P:Program)(o:Oper)(fr:Fr)(H:Aa)(K:Value→Aa→Prop)(E:Fr→Value→Aa→Prop):Prop:=
 match o.op with
 | .panic x=>evK fr x fun v=>match v with
   | .iface t y=>E fr (.iface t y) H
   | _=>False
 | .call {callee:=.value f,args, .. }=>evK fr f fun g=>Gm fr args.toList fun vs=>TJ P g vs H K (E fr)
 | _=>opK P false (fun _=>True) o fr H K
theorem Ah.out{P:Program}{f:FuncId}{args:Array Value}{H:Aa}{K E:Value→Aa→Prop}(h:Ah P f args H K E):BC P f args H K E:=by exact h.out_
theorem Fm{P:Program}{o:Oper}{ds:List Deferred}{fr:Fr}{a:Act}{w:World}{K:Value→Aa→Prop}{E:Fr→Value→Aa→Prop}(hat:AtX ds fr a)(h:OT P o fr w.heap K E):Tt P o a w K (E fr):=by
 unfold OT at h;split at h
 ·rename_i x ho;rw [GZ]at h;split at h
  ·rename_i t y hx;intro Q hq;have:(execOp a.eval o).run P w= .halt (.panic (.iface t y)) w:=by
    rw [hat.evalF];simp only [execOp,ho,hx];simp [Instr.panic,goPanic]
   unfold Oper.wp;rw [this];exact hq _ w (Env.refl w) h
  ·exact h.elim
 ·rename_i f args argTypes ho;simp only [GZ,HB,←Ab1]at h;unfold TJ at h;split at h
  ·rename_i g first cap hg
   intro Q hq;have e:(first.toList++(Ab6 (evF fr) args).toList++cap.toList).toArray=first++Ab6 (evF fr) args++cap:=Array.ext' (by simp)
   have h':=h.out;rw [e]at h';have h1:(execOp a.eval o).run P w=(callFunc g (first++Ab6 (evF fr) args++cap)).run P w:=by
    rw [hat.evalF];simp only [execOp,ho,resolve,hg,Deferred.ofValue];simp [invoke]
   unfold Oper.wp;rw [h1,(h' w rfl).1];refine(h' w rfl).2.mono ?_;intro e w' ⟨henv,hk⟩;cases e with
   | returned v=>exact⟨v,rfl,henv,hk⟩
   | panicked c=>
     obtain⟨x,rfl,hx⟩:=hk;exact hq x w' henv hx
   | outgrown=>exact hk.elim
  ·exact h.elim
 ·exact XO (CR hat.bare h)
def Nr(P:Program)(o:Oper)(want:Bool)(t:Nat)(fr:Fr)(H:Aa)(K:Fr→Aa→Prop)(E:Fr→Value→Aa→Prop):Prop:=
 rdK fr t fun v=>match v with
  | .bool b=>AB b
    (wrK fr t (.bool true) fun fr1=>match want with
     | true=>OT P o fr1 H (fun v H'=>C5 o.dst fr1 v fun fr'=>apK K fr' H') E
     | false=>C5 o.dst fr1 undef fun fr'=>apK K fr' H)
    (wrK fr t (.bool false) fun fr1=>match want with
     | false=>OT P o fr1 H (fun v H'=>C5 o.dst fr1 v fun fr'=>apK K fr' H') E
     | true=>C5 o.dst fr1 undef fun fr'=>apK K fr' H)
  | .tuple _=>C5 o.dst fr undef fun fr'=>apK K fr' H
  | _=>False
def Kc(P:Program)(all:List Oper)(E:Fr→Value→Aa→Prop)(l:List Oper):Fr→Aa→(Fr→Aa→Prop)→Prop:=
 List.rec (motive:=fun _=>Fr→Aa→(Fr→Aa→Prop)→Prop) (fun fr H K=>K fr H) (fun o _ ih fr H K=>
  match o.guard with
  | none=>OT P o fr H (fun v H'=>C5 o.dst fr v fun fr'=>ih fr' H' K) E
  | some (j,want)=>match(all[j]?).bind (·.dst)with
    | none=>False
    | some t=>Nr P o want t fr H (fun fr' H'=>ih fr' H' K) E) l
theorem Qw(P:Program)(all rest:List Oper)(o:Oper)(E:Fr→Value→Aa→Prop)(fr:Fr)(H:Aa)(K:Fr→Aa→Prop):Kc P all E (o::rest) fr H K=
  (match o.guard with
  | none=>OT P o fr H (fun v H'=>C5 o.dst fr v fun fr'=>Kc P all E rest fr' H' K) E
  | some (j,want)=>match(all[j]?).bind (·.dst)with
    | none=>False
    | some t=>Nr P o want t fr H (fun fr' H'=>Kc P all E rest fr' H' K) E):=rfl
theorem Vy{ops:List Oper}{ds:List Deferred}{fr:Fr}{a:Act}(hat:AtX ds fr a){j t:Nat}(hj:(ops[j]?).bind (·.dst)=some t){b:Bool}(hv:rd fr t= .bool b):yielded ops.toArray a.tmps j=some b:=
 GI hat.bare hj hv
theorem P2{ops:List Oper}{ds:List Deferred}{fr:Fr}{a:Act}(hat:AtX ds fr a){j t:Nat}(hj:(ops[j]?).bind (·.dst)=some t){vs:Array Value}(hv:rd fr t= .tuple vs):yielded ops.toArray a.tmps j=none:=
 GJ hat.bare hj hv
theorem Hm{P:Program}{all:List Oper}{ds:List Deferred}{E:Fr→Value→Aa→Prop}{Q:Exit→Act→World→Prop}{w0:World}(hp:∀x fr a' w',AtX ds fr a'→Env w0 w'→E fr x w'.heap→Q (.panic (pe x)) a' w'):∀(l:List Oper) (fr:Fr) (a:Act) (w:World) (K:Fr→Aa→Prop),AtX ds fr a→Env w0 w→
  (∀fr' a' w',AtX ds fr' a'→Env w0 w'→K fr' w'.heap→Q .normal a' w')→
  Kc P all E l fr w.heap K→wpList P all.toArray Q l a w
 | [],fr,a,w,K,hat,he,hq,h=>hq fr a w hat he h
 | o::l,fr,a,w,K,hat,he,hq,h=>by
   have go:∀(want:Bool),(want=true→Tt P o a w (fun v H'=>C5 o.dst fr v fun fr'=>Kc P all E l fr' H' K) (E fr))→
     (want=false→C5 o.dst fr undef fun fr'=>Kc P all E l fr' w.heap K)→
     Region.wanted o (yielded all.toArray a.tmps)=want→wpList P all.toArray Q (o::l) a w:=by
    intro want h1 h2 hw;unfold wpList;rw [hw];cases want with
    | true=>
      refine .inl (Oper.wp_mono ?_ (h1 rfl _ fun x w' henv hx=>hp x fr a w' hat (he.trans henv) hx));rintro a' w' ⟨v,rfl,henv,hk⟩;rw [BR]at hk;exact Hm hp l _ _ _ K (hat.put o.dst v) (he.trans henv) hq hk
    | false=>
      have h3:=h2 rfl;rw [BR]at h3;exact Hm hp l _ _ _ K (hat.put o.dst undef) he hq h3
   rw [Qw]at h;split at h
   ·rename_i hg;exact go true (fun _=>Fm hat h) (fun h=>by cases h) (by simp [Region.wanted,hg])
   ·rename_i j want hg;split at h
    ·exact h.elim
    ·rename_i t ht;unfold Nr at h;simp only [apK]at h;rw [Dx]at h;split at h
     ·rename_i b hb;have hy:=Vy hat ht hb;have hs:fr.set t (.bool b)=fr:=DB hb (by simp [undef]);cases b<;>cases want<;>simp only [AB,EC,hs]at h
      ·exact go true (fun _=>Fm hat h) (fun h=>by cases h) (by simp [Region.wanted,hg,hy])
      ·exact go false (fun h=>by cases h) (fun _=>h) (by simp [Region.wanted,hg,hy])
      ·exact go false (fun h=>by cases h) (fun _=>h) (by simp [Region.wanted,hg,hy])
      ·exact go true (fun _=>Fm hat h) (fun h=>by cases h) (by simp [Region.wanted,hg,hy])
     ·rename_i vs hb;exact go false (fun h=>by cases h) (fun _=>h) (by simp [Region.wanted,hg,P2 hat ht hb])
     ·exact h.elim
def QO(E:Fr→Value→Aa→Prop)(l:List Oper):Prop:=∀o∈l,∀d,o.dst=some d→∀fr v x H,E (fr.set d v) x H→E fr x H
theorem CQ(E:Value→Aa→Prop)(l:List Oper):QO (fun _=>E) l:=fun _ _ _ _ _ _ _ _ h=>h
structure Ce(P:Program)(ds:List Deferred)(l:List Oper)(fr:Fr)(H:Aa)(K:Fr→Aa→Prop)(E:Fr→Value→Aa→Prop):Prop where
 in_::
 out_:∀(id:Nat) (Q:Exit→Act→World→Prop) (a:Act) (w:World),AtX ds fr a→w.heap=H→(∀x fr a' w',AtX ds fr a'→Env w w'→E fr x w'.heap→Q (.panic (pe x)) a' w')→
  (QO E l→∀c,∀o∈l,∀v a w,Q (.panic c) (a.put o.dst v) w→Q (.panic c) a w)→
  (∀fr' a' w',AtX ds fr' a'→Env w w'→K fr' w'.heap→Q .normal a' w')→(Code.region id l.toArray true).wp P Q a w
theorem Ce.of{P:Program}{l:List Oper}{fr:Fr}{H:Aa}{K:Fr→Aa→Prop}{E:Fr→Value→Aa→Prop}(h:Ar P l fr H K):Ce P [] l fr H K E:=by
 refine⟨fun id Q a w hat hw _ _ hq=>?_⟩;refine Code.wp_mono (Q:=fun e a w=>Q e a w∧∀c,e≠ .panic c) (fun e a w h=>h.1) ?_;exact h.out id _ a w hat.at_ hw (fun c a w h=>h.2 c rfl) fun fr' a' w' h1 h2 h3=>⟨hq fr' a' w' ⟨h1.tmps,h1.defers⟩ h2 h3,fun c=>by simp⟩
def MD(P:Program)(S:Nat→Prop)(Z:List Nat)(H0:Aa)(all:List Oper)(E:Fr→Value→Aa→Prop)(i:Nat)(fr:Fr)(H:Aa)(next:Fr→Aa→Prop):Prop:=
 match all[i]? with
 | none=>False
 | some o=>match o.guard with
   | some _=>False
   | none=>match Z.contains i with
     | true=>OT P o fr H (fun v H'=>C5 o.dst fr v fun fr'=>next fr' H') E
     | false=>OT P o fr H (fun v H'=>Agr S H0 H'∧C5 o.dst fr v fun fr'=>next fr' H') E
def R7(P:Program)(S:Nat→Prop)(Z:List Nat)(H0:Aa)(all:List Oper)(E:Fr→Value→Aa→Prop)(s:Sch):Fr→Aa→(Fr→Aa→Prop)→Prop:=
 Sch.rec (motive:=fun _=>Fr→Aa→(Fr→Aa→Prop)→Prop) (fun fr H K=>K fr H)
  (fun i _ ih fr H K=>match all[i]? with
   | none=>False
   | some o=>match o.guard with
     | some _=>False
     | none=>match JY o&&F4 P o with
       | true=>Ma P S o fr H fun v=>C5 o.dst fr v fun fr'=>ih fr' H K
       | false=>False)
  (fun i _ ih fr H K=>MD P S Z H0 all E i fr H fun fr' H'=>ih fr' H' K)
  (fun i _ j _ ih ih' fr H K=>(MD P S Z H0 all E i fr H fun fr' H'=>ih fr' H' K)∧MD P S Z H0 all E j fr H fun fr' H'=>ih' fr' H' K) s
theorem Wh(P:Program)(S:Nat→Prop)(Z:List Nat)(H0:Aa)(all:List Oper)(E:Fr→Value→Aa→Prop)(i:Nat)(s:Sch)(fr:Fr)(H:Aa)(K:Fr→Aa→Prop):R7 P S Z H0 all E (.q i s) fr H K=
  (match all[i]? with
   | none=>False
   | some o=>match o.guard with
     | some _=>False
     | none=>match JY o&&F4 P o with
       | true=>Ma P S o fr H fun v=>C5 o.dst fr v fun fr'=>R7 P S Z H0 all E s fr' H K
       | false=>False):=rfl
theorem Hw{P:Program}{S:Nat→Prop}{Z:List Nat}{w0:World}{all:List Oper}{ds:List Deferred}{E:Fr→Value→Aa→Prop}{Q:Exit→Act→World→Prop}(hp:∀x fr a' w',AtX ds fr a'→Env w0 w'→E fr x w'.heap→Q (.panic (pe x)) a' w'){i:Nat}{fr:Fr}{a:Act}{w:World}{next:Fr→Aa→Prop}{N:Act→World→Prop}
  (hat:AtX ds fr a) (hc:Env w0 w) (h:MD P S Z w0.heap all E i fr w.heap next)
  (hn:∀fr' a' w',AtX ds fr' a'→Env w0 w'→(Z.contains i=false→Cls w0 S w')→next fr' w'.heap→N a' w'):wpOp P all.toArray Q i N a w:=by
 unfold MD at h;split at h
 ·exact h.elim
 ·rename_i o ho;have ho':all.toArray[i]? =some o:=by simpa using ho
  split at h
  ·exact h.elim
  ·rename_i hg;have hwant:Region.wanted o (yielded all.toArray a.tmps)=true:=by simp [Region.wanted,hg]
   unfold wpOp;rw [ho'];dsimp only;rw [if_pos hwant];split at h
   ·rename_i hz;refine .inl (Oper.wp_mono ?_ (Fm hat h _ fun x w' henv hx=>hp x fr a w' hat (hc.trans henv) hx));rintro a' w' ⟨v,rfl,henv,hk⟩;rw [BR]at hk;exact hn _ _ _ (hat.put o.dst v) (hc.trans henv) (fun hne=>by rw [hz]at hne;cases hne) hk
   ·refine .inl (Oper.wp_mono ?_ (Fm hat h _ fun x w' henv hx=>hp x fr a w' hat (hc.trans henv) hx));rintro a' w' ⟨v,rfl,henv,hagr,hk⟩;rw [BR]at hk;exact hn _ _ _ (hat.put o.dst v) (hc.trans henv) (fun _=>⟨hc.trans henv,hagr⟩) hk
theorem Qz(a:Act)(dst:Option Tmp)(v:Value):(a.put dst v).defers=a.defers:=by cases dst<;>rfl
theorem E0{P:Program}{S:Nat→Prop}{Z:List Nat}{w0:World}{all:List Oper}{ds:List Deferred}{E:Fr→Value→Aa→Prop}{Q:Exit→Act→World→Prop}(hs:Region.noSelect all.toArray=true)
  (hp:∀x fr a' w',AtX ds fr a'→Env w0 w'→E fr x w'.heap→Q (.panic (pe x)) a' w') (hp2:∀c,∀o∈all,∀v a w,Q (.panic c) (a.put o.dst v) w→Q (.panic c) a w):∀(l:Sch) (listed:Array Bool) (fr:Fr) (a:Act) (w:World) (K:Fr→Aa→Prop),AtX ds fr a→Env w0 w→(P3 Z l=false→Cls w0 S w)→HY all.toArray listed→
  (∀fr' a' w',AtX ds fr' a'→Env w0 w'→K fr' w'.heap→Q .normal a' w')→Dv all.toArray Z l listed=true→l.even=true→
  R7 P S Z w0.heap all E l fr w.heap K→IB P all.toArray Q (Cls w0 S) Z l.len listed a w
 | .e,listed,fr,a,w,K,hat,he,_,_,hq,hB,_,h=>⟨by simpa [Dv]using hB,hq fr a w hat he h⟩
 | .q i s,listed,fr,a,w,K,hat,he,hc,hsh,hq,hB,hev,h=>by
   have hc:=hc rfl;simp only [Dv,Aa7,AaS,AaG]at hB;obtain⟨⟨⟨⟨b1,b2⟩,b3⟩,b4⟩,hB2⟩:=hB;rw [Wh]at h;split at h
   ·exact h.elim
   ·rename_i o ho;have ho':all.toArray[i]? =some o:=by simpa using ho
    have hri:i∈Region.ready .any all.toArray listed:=by simpa using b1
    split at h
    ·exact h.elim
    ·rename_i hg;have hwant:Region.wanted o (yielded all.toArray a.tmps)=true:=by simp [Region.wanted,hg]
     split at h
     ·obtain⟨v,hv,hk⟩:=Ei h;rw [BR]at hk;refine EV (v:=v) (f:=all.toArray.size) ho' (Region.noSelect_spec hs) (fun c a' w' hh=>hp2 c o (List.mem_of_getElem? ho) v a' w' hh) b3 (fun j hj=>b4 j (by simpa using hj)) s.len listed a w hsh (Region.free_spec ho' b2) hri
       (.inl ⟨hwant,fun w' hw'=>?_⟩) hc ?_
      ·rw [hat.evalF];exact hv w' fun k hk=>(hw'.2 k hk).trans (hc.2 k hk).symm
      ·exact E0 hs hp hp2 s _ _ _ w K (hat.put o.dst v) he (fun _=>hc) (hsh.put hri) hq hB2 hev hk
     ·exact h.elim
 | .f i s,listed,fr,a,w,K,hat,he,hc,hsh,hq,hB,hev,h=>by
   simp only [Dv,Aa7,Ab4,AaS,beq_iff_eq]at hB;obtain⟨⟨b1,b2⟩,hB2⟩:=hB;refine⟨(fun h0=>by rw [b1]at h0;cases h0),fun j hj=>?_⟩;have hj0:=hj;rw [b1]at hj;obtain rfl:j=i:=by simpa using hj
   refine Hw hp hat he h fun fr' a' w' h1 h2 h3 h4=>⟨h3,E0 hs hp hp2 s _ _ _ w' K h1 h2 (fun hz=>?_) (hsh.put hj0) hq hB2 hev h4⟩;rcases b2 with b2 | b2
   ·exact h3 b2
   ·rw [b2]at hz;cases hz
 | .b i s j s',listed,fr,a,w,K,hat,he,hc,hsh,hq,hB,hev,h=>by
   simp only [Dv,Aa7,Ab4,AaS,beq_iff_eq]at hB;obtain⟨⟨⟨b1,b2⟩,hB2⟩,hB3⟩:=hB;simp only [Sch.even,Aa7,beq_iff_eq]at hev;obtain⟨⟨e1,e2⟩,e3⟩:=hev;refine⟨(fun h0=>by rw [b1]at h0;cases h0),fun k hk=>?_⟩;have hk0:=hk;rw [b1]at hk;rcases Ab7.1 hk with rfl | hk
   ·refine Hw hp hat he h.1 fun fr' a' w' h1 h2 h3 h4=>⟨h3,E0 hs hp hp2 s _ _ _ w' K h1 h2 (fun hz=>?_) (hsh.put hk0) hq hB2 e1 h4⟩;rcases b2 with b2 | b2
    ·exact h3 b2.1
    ·rw [b2.1]at hz;cases hz
   ·obtain rfl:k=j:=by simpa using hk
    rw [e3];refine Hw hp hat he h.2 fun fr' a' w' h1 h2 h3 h4=>⟨h3,E0 hs hp hp2 s' _ _ _ w' K h1 h2 (fun hz=>?_) (hsh.put hk0) hq hB3 e2 h4⟩;rcases b2 with b2 | b2
    ·exact h3 b2.2
    ·rw [b2.2]at hz;cases hz
theorem Ce.held{P:Program}{ds:List Deferred}{l:List Oper}{fr:Fr}{H:Aa}{K:Fr→Aa→Prop}{E:Fr→Value→Aa→Prop}(S:Nat→Prop)(Z:List Nat)(sched:Sch)(hbl:QO E l)(hm:P.follows .mixedOrders=true)
  (hB:(Region.noSelect l.toArray&&(sched.len==l.length)&&sched.even&&Dv l.toArray Z sched (AaD l.length false))=true)
  (h:R7 P S Z H l E sched fr H K):Ce P ds l fr H K E:=by
 refine⟨?_⟩;intro id Q a w hat hw hp hp2 hq;subst hw;simp only [Aa7,beq_iff_eq]at hB;refine wp_region_any hm (GG (S:=Cls w S) (Z:=Z) _ _ _ _ ?_);have hsh:HY l.toArray (AaD l.length false):=fun j o _ hj=>by
  rw [Array.getD_eq_getD_getElem?,Array.getElem?_replicate]at hj;split at hj<;>simp at hj
 have:=E0 (P:=P) (S:=S) (Z:=Z) (w0:=w) (Q:=Q) hB.1.1.1 hp (hp2 hbl) sched (AaD l.length false) fr a {w with drawn:=w.drawn+1} K hat ⟨rfl,rfl,rfl⟩ (fun _=>⟨⟨rfl,rfl,rfl⟩,Agr.refl _ _⟩) hsh hq hB.2 hB.1.2 h;rw [hB.1.1.2]at this;simpa using this
def Dn(ds:List Deferred)(w0:World)(E:Fr→Value→Aa→Prop)(Q:Exit→Fr→Aa→Prop):Exit→Act→World→Prop
 | .panic c,a,w=>∃fr,AtX ds fr a∧Env w0 w∧∃x,c=pe x∧E fr x w.heap
 | .outgrown,_,_=>False
 | e,a,w=>∃fr,AtX ds fr a∧Env w0 w∧Q e fr w.heap
structure Ed(P:Program)(ds:List Deferred)(E:Fr→Value→Aa→Prop)(c:Code)(fr:Fr)(H:Aa)(X:List (Nat×(Fr→Aa→Prop)))(kr:Fr→Aa→Prop):Prop where
 in_::
 out_:∀(a:Act) (w:World),AtX ds fr a→w.heap=H→(Code.loop c).wp P (Dn ds w E (Qx (fun _ _=>False) X kr)) a w
structure AQ(P:Program)(ds:List Deferred)(E:Fr→Value→Aa→Prop)(x y:Code)(fr:Fr)(H:Aa)(kn:Fr→Aa→Prop)(X:List (Nat×(Fr→Aa→Prop)))(kr:Fr→Aa→Prop):Prop where
 in_::
 out_:∀(a:Act) (w:World),AtX ds fr a→w.heap=H→(Code.seq x y).wp P (Dn ds w E (Qx kn X kr)) a w
def vcP(P:Program)(ds:List Deferred)(E:Fr→Value→Aa→Prop)(c:Code):Fr→Aa→(Fr→Aa→Prop)→List (Nat×(Fr→Aa→Prop))→(Fr→Aa→Prop)→Prop:=
 Code.rec (motive:=fun _=>Fr→Aa→(Fr→Aa→Prop)→List (Nat×(Fr→Aa→Prop))→(Fr→Aa→Prop)→Prop)
  (fun fr H kn _ _=>kn fr H)
  (fun _ ops draw fr H kn _ _=>match draw with
   | false=>Kc P ops.toList E ops.toList fr H kn
   | true=>Ce P ds ops.toList fr H kn E)
  (fun a b iha ihb fr H kn X kr=>match JF a with
   | true=>AQ P ds E a b fr H kn X kr
   | false=>iha fr H (fun fr' H'=>ihb fr' H' kn X kr) X kr)
  (fun c _ _ ihx ihy fr H kn X kr=>match c with
   | .tmp t=>rdK fr t fun v=>match v with
     | .bool b=>AB b (wrK fr t (.bool true) fun fr1=>ihx fr1 H kn X kr) (wrK fr t (.bool false) fun fr1=>ihy fr1 H kn X kr)
     | _=>False
   | .const (.bool b)=>AB b (ihx fr H kn X kr) (ihy fr H kn X kr)
   | _=>False)
  (fun id _ ih fr H kn X kr=>ih fr H kn ((id,kn)::X) kr)
  (fun c _ fr H _ X kr=>Ed P ds E c fr H X kr)
  (fun _ _ _ _ _ _ _ _ _ _ _=>False)
  (fun id fr H _ X _=>Ms X id fr H)
  (fun _ _ _ _ _ _ _=>False)
  (fun _ _ _ _ _ _=>False)
  (fun _ _ _ _ _ _=>False)
  (fun fr H _ _ kr=>kr fr H)
  (fun _ _ _ _ _ _=>False) c
section
variable(P:Program)(ds:List Deferred)(E:Fr→Value→Aa→Prop)(a b:Code)(fr:Fr)(H:Aa)(kn:Fr→Aa→Prop)(X:List (Nat×(Fr→Aa→Prop)))(kr:Fr→Aa→Prop)
theorem QM(id:Nat)(ops:Array Oper)(draw:Bool):vcP P ds E (.region id ops draw) fr H kn X kr=(match draw with
   | false=>Kc P ops.toList E ops.toList fr H kn
   | true=>Ce P ds ops.toList fr H kn E):=rfl
theorem WM:vcP P ds E (.seq a b) fr H kn X kr=(match JF a with
   | true=>AQ P ds E a b fr H kn X kr
   | false=>vcP P ds E a fr H (fun fr' H'=>vcP P ds E b fr' H' kn X kr) X kr):=rfl
theorem Vr(c:Operand):vcP P ds E (.cond c a b) fr H kn X kr=(match c with
   | .tmp t=>rdK fr t fun v=>match v with
     | .bool x=>AB x (wrK fr t (.bool true) fun fr1=>vcP P ds E a fr1 H kn X kr) (wrK fr t (.bool false) fun fr1=>vcP P ds E b fr1 H kn X kr)
     | _=>False
   | .const (.bool x)=>AB x (vcP P ds E a fr H kn X kr) (vcP P ds E b fr H kn X kr)
   | _=>False):=rfl
theorem Tn(id:Nat):vcP P ds E (.block id a) fr H kn X kr=vcP P ds E a fr H kn ((id,kn)::X) kr:=rfl
end
theorem Ed.out{P:Program}{ds:List Deferred}{E:Fr→Value→Aa→Prop}{c:Code}{fr:Fr}{H:Aa}{X:List (Nat×(Fr→Aa→Prop))}{kr:Fr→Aa→Prop}(h:Ed P ds E c fr H X kr):
  ∀(a:Act) (w:World),AtX ds fr a→w.heap=H→(Code.loop c).wp P (Dn ds w E (Qx (fun _ _=>False) X kr)) a w:=by exact h.out_
theorem AQ.out{P:Program}{ds:List Deferred}{E:Fr→Value→Aa→Prop}{x y:Code}{fr:Fr}{H:Aa}{kn:Fr→Aa→Prop}{X:List (Nat×(Fr→Aa→Prop))}{kr:Fr→Aa→Prop}(h:AQ P ds E x y fr H kn X kr):
  ∀(a:Act) (w:World),AtX ds fr a→w.heap=H→(Code.seq x y).wp P (Dn ds w E (Qx kn X kr)) a w:=by exact h.out_
theorem Dn.env{ds:List Deferred}{w0 w1:World}{E:Fr→Value→Aa→Prop}{Q:Exit→Fr→Aa→Prop}(henv:Env w0 w1):∀{e:Exit} {a:Act} {w:World},Dn ds w1 E Q e a w→Dn ds w0 E Q e a w
 | .normal,_,_,⟨fr,h1,h2,h3⟩ | .exit _,_,_,⟨fr,h1,h2,h3⟩ | .goto _,_,_,⟨fr,h1,h2,h3⟩ | .ret,_,_,⟨fr,h1,h2,h3⟩=>⟨fr,h1,henv.trans h2,h3⟩
 | .panic c,_,_,⟨fr,h1,h2,h3⟩=>⟨fr,h1,henv.trans h2,h3⟩
theorem Dn.mono{ds:List Deferred}{w0:World}{E:Fr→Value→Aa→Prop}{Q Q':Exit→Fr→Aa→Prop}(hq:∀e fr H,Q e fr H→Q' e fr H):∀{e:Exit} {a:Act} {w:World},Dn ds w0 E Q e a w→Dn ds w0 E Q' e a w
 | .normal,_,_,⟨fr,h1,h2,h3⟩ | .exit _,_,_,⟨fr,h1,h2,h3⟩ | .goto _,_,_,⟨fr,h1,h2,h3⟩ | .ret,_,_,⟨fr,h1,h2,h3⟩=>⟨fr,h1,h2,hq _ _ _ h3⟩
 | .panic c,_,_,h=>h
theorem JQ{P:Program}{ds:List Deferred}{E:Fr→Value→Aa→Prop}{x y:Code}{kn k1:Fr→Aa→Prop}{X:List (Nat×(Fr→Aa→Prop))}{kr:Fr→Aa→Prop}{a:Act}{w:World}
  (hx:x.wp P (Dn ds w E (Qx k1 X kr)) a w)
  (hy:∀fr a' w',AtX ds fr a'→Env w w'→k1 fr w'.heap→y.wp P (Dn ds w' E (Qx kn X kr)) a' w'):(Code.seq x y).wp P (Dn ds w E (Qx kn X kr)) a w:=by
 refine wp_seq (Code.wp_mono ?_ hx);intro e a' w' h;cases e with
 | normal=>
   obtain⟨fr,h1,h2,h3⟩:=h;exact Code.wp_mono (fun e a w h=>Dn.env h2 h) (hy fr a' w' h1 h2 h3)
 | exit id=>exact h
 | goto l=>exact h
 | ret=>exact h
 | panic c=>exact h
 | outgrown=>exact h
theorem BS{P:Program}{ds:List Deferred}{E:Fr→Value→Aa→Prop}:∀(c:Code) (fr:Fr) (kn:Fr→Aa→Prop) (X:List (Nat×(Fr→Aa→Prop))) (kr:Fr→Aa→Prop) (a:Act) (w:World),AtX ds fr a→
  vcP P ds E c fr w.heap kn X kr→c.wp P (Dn ds w E (Qx kn X kr)) a w
 | .skip,fr,kn,X,kr,a,w,hat,h=>wp_skip ⟨fr,hat,Env.refl w,h⟩
 | .region id ops draw,fr,kn,X,kr,a,w,hat,h=>by
   rw [QM]at h;cases draw with
   | false=>
     have:=wp_region_lit (P:=P) (id:=id) (l:=ops.toList) (Hm (P:=P) (all:=ops.toList) (ds:=ds) (E:=E) (Q:=Dn ds w E (Qx kn X kr)) (w0:=w) (fun x fr a' w' h1 h2 h3=>⟨fr,h1,h2,x,rfl,h3⟩) ops.toList fr a w kn hat (Env.refl w) (fun fr' a' w' h1 h2 h3=>⟨fr',h1,h2,h3⟩) h);simpa using this
   | true=>
     have:=h.out_ id (Dn ds w E (Qx kn X kr)) a w hat rfl (fun x fr a' w' h1 h2 h3=>⟨fr,h1,h2,x,rfl,h3⟩) (fun hbl c o ho v a w' h=>by
      obtain⟨fr2,h1,h2,x,h3,h4⟩:=h;obtain⟨h5,h6⟩:=h1;rw [Qz]at h6;refine⟨a.tmps.toList,⟨rfl,h6⟩,h2,x,h3,?_⟩;cases hd:o.dst with
      | none=>rw [hd]at h5;rw [←h5]at h4;exact h4
      | some d=>
        rw [hd]at h5;refine hbl o ho d hd _ v x _ ?_;rw [←h5]at h4;simpa [Act.put]using h4) (fun fr' a' w' h1 h2 h3=>⟨fr',h1,h2,h3⟩)
     simpa using this
 | .seq x y,fr,kn,X,kr,a,w,hat,h=>by
   rw [WM]at h;split at h
   ·exact h.out a w hat rfl
   ·exact JQ (BS x fr _ X kr a w hat h) fun fr' a' w' h1 _ h3=>BS y fr' kn X kr a' w' h1 h3
 | .cond c x y,fr,kn,X,kr,a,w,hat,h=>by
   rw [Vr]at h;split at h
   ·rename_i t;rw [Dx]at h;split at h
    ·rename_i b hb;have hs:fr.set t (.bool b)=fr:=DB hb (by simp [undef]);have he:a.eval (.tmp t)= .bool b:=by rw [hat.evalF];exact hb
     cases b<;>simp only [AB,EC,hs]at h
     ·exact wp_cond_false he (BS y fr kn X kr a w hat h)
     ·exact wp_cond_true he (BS x fr kn X kr a w hat h)
    ·exact h.elim
   ·rename_i b;cases b<;>simp only [AB]at h
    ·exact wp_cond_false rfl (BS y fr kn X kr a w hat h)
    ·exact wp_cond_true rfl (BS x fr kn X kr a w hat h)
   ·exact h.elim
 | .block id c,fr,kn,X,kr,a,w,hat,h=>by
   rw [Tn]at h;refine wp_block (Code.wp_mono ?_ (BS c fr kn _ kr a w hat h));intro e a' w' h;cases e with
   | exit id'=>
     obtain⟨fr',h1,h2,h3⟩:=h;simp only [Qx,Ms]at h3;simp only [Exit.inBlock];split at h3
     ·rename_i hid;have:=Nat.eq_of_beq_eq_true hid;rw [if_pos this.symm];exact⟨fr',h1,h2,h3⟩
     ·rename_i hid;have:id≠id':=Nat.ne_of_beq_eq_false hid;rw [if_neg (Ne.symm this)];exact⟨fr',h1,h2,h3⟩
   | normal=>exact h
   | goto l=>exact h
   | ret=>exact h
   | panic c=>exact h
   | outgrown=>exact h
 | .loop c,fr,kn,X,kr,a,w,hat,h=>Code.wp_mono (fun e a w=>Dn.mono fun e fr H hq=>by
   cases e<;>first | exact hq | exact hq.elim) (h.out a w hat rfl)
 | .exit id,fr,kn,X,kr,a,w,hat,h=>wp_exit ⟨fr,hat,Env.refl w,h⟩
 | .ret,fr,kn,X,kr,a,w,hat,h=>wp_ret ⟨fr,hat,Env.refl w,h⟩
 | .rangeFunc ..,_,_,_,_,_,_,_,h=>h.elim
 | .scope _,_,_,_,_,_,_,_,h=>h.elim
 | .label _,_,_,_,_,_,_,_,h=>h.elim
 | .goto _,_,_,_,_,_,_,_,h=>h.elim
 | .refuse _,_,_,_,_,_,_,_,h=>h.elim
theorem Ed.mk{P:Program}{ds:List Deferred}{E:Fr→Value→Aa→Prop}{c:Code}{fr:Fr}{H:Aa}{X:List (Nat×(Fr→Aa→Prop))}{kr:Fr→Aa→Prop}{α:Type}(ts:List Nat)(enc:α→List Value)(I:α→Aa→Prop)(m:α→Aa→Nat)
  (h0:NA fr ts fun vs=>∃x,vs=enc x∧I x H)
  (hr:∀(x:α) (H1:Aa) (junk:Nat→Value),I x H1→Gu junk fr (GH c []) fun fr0=>QN fr0 ts (enc x) fun fr1=>
   vcP P ds E c fr1 H1 (fun fr' H'=>HV (GH c []) fr fr' (NA fr' ts fun vs=>∃y,vs=enc y∧I y H'∧m y H'<m x H1)) X kr):Ed P ds E c fr H X kr:=by
 generalize GH c []=ws at hr;refine⟨?_⟩;intro a w hat hw;subst hw;have h0':=h0;rw [FB]at h0';obtain⟨x0,hx0,hi0⟩:=h0'
 let J (n:Nat) (a':Act) (w':World):Prop:=∃fr' x,AtX ds fr' a'∧Env w w'∧Fg (fun _=>undef) fr' ws=Fg (fun _=>undef) fr ws∧ts.map (rd fr')=enc x∧I x w'.heap∧m x w'.heap=n
 refine Km J ?_ _ a w ⟨fr,x0,hat,Env.refl w,rfl,hx0,hi0,rfl⟩;rintro n a1 w1 ⟨fr1,x1,hat1,henv1,hk1,hx1,hi1,rfl⟩;have h:=hr x1 w1.heap (rd fr1) hi1;rw [CE,HN,De hk1,←hx1,Gi ts fr1]at h;refine Code.wp_mono ?_ (BS c fr1 _ X kr a1 w1 hat1 h);intro e a2 w2 h2;cases e with
 | normal=>
   obtain⟨fr2,hat2,henv2,h2⟩:=h2;simp only [Qx,HV,CE,FB]at h2;obtain⟨hk2,y,hy,hiy,hm⟩:=h2;exact⟨m y w2.heap,hm,fr2,y,hat2,henv1.trans henv2,hk2,hy,hiy,rfl⟩
 | exit id=>exact Dn.env henv1 h2
 | goto l=>exact Dn.env henv1 h2
 | ret=>exact Dn.env henv1 h2
 | panic c=>exact Dn.env henv1 h2
 | outgrown=>exact h2
theorem AQ.run{P:Program}{ds:List Deferred}{E:Fr→Value→Aa→Prop}{x y:Code}{fr:Fr}{H:Aa}{kn:Fr→Aa→Prop}{X:List (Nat×(Fr→Aa→Prop))}{kr:Fr→Aa→Prop}
  (h:vcP P ds E x fr H (fun fr' H'=>vcP P ds E y fr' H' kn X kr) X kr):AQ P ds E x y fr H kn X kr:=by
 refine⟨?_⟩;intro a w hat hw;subst hw;exact JQ (BS x fr _ X kr a w hat h) fun fr' a' w' h1 _ h3=>BS y fr' kn X kr a' w' h1 h3
theorem AQ.cut{P:Program}{ds:List Deferred}{E:Fr→Value→Aa→Prop}{x y:Code}{fr:Fr}{H:Aa}{kn:Fr→Aa→Prop}{X:List (Nat×(Fr→Aa→Prop))}{kr:Fr→Aa→Prop}{α:Type}(ts:List Nat)(enc:α→List Value)(I:α→Aa→Prop)
  (h:vcP P ds E x fr H (fun fr' H'=>HV (GH x []) fr fr' (NA fr' ts fun vs=>∃y,vs=enc y∧I y H')) X kr)
  (k:∀(z:α) (H1:Aa) (junk:Nat→Value),I z H1→Gu junk fr (GH x []) fun fr0=>QN fr0 ts (enc z) fun fr1=>vcP P ds E y fr1 H1 kn X kr):AQ P ds E x y fr H kn X kr:=by
 generalize GH x []=ws at h k;refine⟨?_⟩;intro a w hat hw;subst hw;refine JQ (BS x fr _ X kr a w hat h) fun fr1 a1 w1 h1 _ h3=>?_;simp only [HV,CE,FB]at h3;obtain⟨hk,z,hz,hi⟩:=h3;have h:=k z w1.heap (rd fr1) hi;rw [CE,HN,De hk,←hz,Gi ts fr1]at h;exact BS y fr1 kn X kr a1 w1 h1 h
theorem Q4{P:Program}{fn:Func}{ds:List Deferred}{fr:Fr}{a:Act}{w:World}{R:Value→Aa→Prop}(hat:AtX ds fr a)(h:Mf P fn.results.toList fr w.heap R):
  ∃v,(results fn a.tmps).run P w= .ok v w∧R v w.heap:=LG (a:={tmps:=a.tmps,defers:=[]}) hat.bare h
theorem BC.of_vc{P:Program}{f:FuncId}{fn:Func}{c:Code}{args:Array Value}{H:Aa}{R E:Value→Aa→Prop}(hf:P.funcs[f]? =some fn)(hb:fn.body=some c)
  (hcall:∀w:World,(callFunc f args).run P w= .ok (.enter f args) w)
  (h:L6 (args.toList++Aa4 (fn.ntmps - args.size) undef) fun fr=>vcP P [] (fun _=>E) c fr H (fun fr' H'=>Mf P fn.results.toList fr' H' R) [] (fun fr' H'=>Mf P fn.results.toList fr' H' R)):
  BC P f args H R E:=by
 intro w hw;subst hw;refine⟨hcall w,?_⟩;refine calls_of_wp hf hb ?_;rw [Gd]at h;have hat:AtX [] (args.toList++Aa4 (fn.ntmps - args.size) undef) {tmps:=args++AaD (fn.ntmps - args.size) undef,defers:=[]}:=⟨by simp,rfl⟩;refine Code.wp_mono ?_ (BS c _ _ _ _ _ w hat h);intro e a' w' h2;have fin:∀fr,AtX [] fr a'→Env w w'→Mf P fn.results.toList fr w'.heap R→a'.defers=[]∧∃v,(results fn a'.tmps).run P w'= .ok v w'∧Env w w'∧R v w'.heap:=by
  intro fr h1 h2 h3;obtain⟨v,hv,hR⟩:=Q4 h1 h3;exact⟨h1.defers,v,hv,h2,hR⟩
 cases e with
 | normal=>obtain⟨fr,h1,h2,h3⟩:=h2;exact fin fr h1 h2 h3
 | ret=>obtain⟨fr,h1,h2,h3⟩:=h2;exact fin fr h1 h2 h3
 | exit id=>obtain⟨fr,h1,h2,h3⟩:=h2;exact h3.elim
 | goto l=>obtain⟨fr,h1,h2,h3⟩:=h2;exact h3.elim
 | panic c=>obtain⟨fr,h1,h3,x,h4,h5⟩:=h2;exact⟨h1.defers,h3,x,h4,h5⟩
 | outgrown=>exact h2.elim
def Fp(P:Program)(rs:List ResultVar)(fr:Fr)(H:Aa):(List Value→Prop)→Prop:=
 List.rec (motive:=fun _=>(List Value→Prop)→Prop) (fun R=>R []) (fun r _ ih R=>match r with
  | .tmp t=>rdK fr t fun v=>ih fun vs=>R (v::vs)
  | .cell a t=>rdK fr a fun p=>ldK P t p H fun v=>ih fun vs=>R (v::vs)) rs
def JM(vs:List Value):Value:=match vs with
 | [v]=>v
 | vs=>.tuple vs.toArray
def GB(tmps:Array Value)(r:ResultVar):Sem Value:=match r with
 | .tmp t=>pure (tmps.getD t undef)
 | .cell a t=>do loadVar t (←asAddr (tmps.getD a undef))
theorem I8{P:Program}{fr:Fr}{a:Act}{w:World}(hat:At fr a):∀(rs:List ResultVar) (R:List Value→Prop),Fp P rs fr w.heap R→
  ∃vs:List Value,(rs.mapM (GB a.tmps)).run P w= .ok vs w∧R vs
 | [],R,h=>⟨[],by simp,h⟩
 | .tmp t::rs,R,h=>by
   have h':rdK fr t (fun v=>Fp P rs fr w.heap fun vs=>R (v::vs)):=h;rw [Dx]at h';obtain⟨vs,h1,h2⟩:=I8 hat rs _ h';have hrd:a.tmps.getD t undef=rd fr t:=hat.eval (.tmp t);have h0:(GB a.tmps (.tmp t)).run P w= .ok (rd fr t) w:=by simp [GB,hrd]
   refine⟨rd fr t::vs,?_,h2⟩;rw [Ab5,Sem.run_bind,h0];simp only [Result.andThen_ok,Sem.run_bind,h1,Sem.run_pure]
 | .cell x t::rs,R,h=>by
   have h':rdK fr x (fun p=>ldK P t p w.heap fun v=>Fp P rs fr w.heap fun vs=>R (v::vs)):=h;rw [Dx]at h';obtain⟨p,v,hp,hv,h2⟩:=EY h';obtain⟨vs,h3,h4⟩:=I8 hat rs _ h2;have hrd:a.tmps.getD x undef=rd fr x:=hat.eval (.tmp x);have h0:(GB a.tmps (.cell x t)).run P w= .ok v w:=by simp [GB,hrd,hp,asAddr,hv]
   refine⟨v::vs,?_,h4⟩;rw [Ab5,Sem.run_bind,h0];simp only [Result.andThen_ok,Sem.run_bind,h3,Sem.run_pure]
theorem Ev{P:Program}{fn:Func}{ds:List Deferred}{fr:Fr}{a:Act}{w:World}{R:Value→Prop}(hat:AtX ds fr a)(h:Fp P fn.results.toList fr w.heap fun vs=>R (JM vs)):
  ∃v,(results fn a.tmps).run P w= .ok v w∧R v:=by
 obtain⟨vs,h1,h2⟩:=I8 (a:={tmps:=a.tmps,defers:=[]}) hat.bare _ _ h;refine⟨JM vs,?_,h2⟩;have e:results fn a.tmps=(do
  let vs ←fn.results.mapM (GB a.tmps)
  pure (if h:vs.size=1 then vs[0]else .tuple vs)):=rfl
 have e2:(fn.results.mapM (GB a.tmps)).run P w= .ok vs.toArray w:=by
  rw [Array.mapM_eq_mapM_toList];have e3:(List.toArray <$> fn.results.toList.mapM (GB a.tmps))=(fn.results.toList.mapM (GB a.tmps) >>= fun l=>pure l.toArray):=rfl;rw [e3,Sem.run_bind,h1];simp
 rw [e,Sem.run_bind,e2];simp only [Result.andThen_ok,Sem.run_pure]
 match vs with
 | []=>rfl
 | [v]=>rfl
 | _::_::_=>rfl
def ZU(o0 o1:Oper)(t0 t1:Nat):Prop:=(∃ats,o0.op= .call {callee:=.builtin .recover,args:= #[],argTypes:=ats})∧o0.guard=none∧o0.dst=some t0∧o1.op= .assign (.tmp t0)∧o1.guard=none∧o1.dst=some t1
inductive Xp:FrameMode→FrameMode→Value→Prop
 | ret:Xp .returning .returning .nilIface
 | pan (x:Value):Xp (.panicking (pe x)) (.panicking [{v:=x,recovered:=true}]) x
theorem Gk{P:Program}{g:FuncId}{fn:Func}{id0:Nat}{o0 o1:Oper}{t0 t1:Nat}{rest:Code}{args:Array Value}{u u':FrameMode}{rv:Value}{H:Aa}{R:Aa→Prop}(hf:P.funcs[g]? =some fn)(hb:fn.body=some (.seq (.region id0 #[o0,o1] false) rest))
  (hB:ZU o0 o1 t0 t1) (hu:Xp u u' rv) (hres:fn.results= #[])
  (h:L6 (args.toList++Aa4 (fn.ntmps - args.size) undef) fun fr=>rdK fr t0 fun _=>rdK (fr.set t0 rv) t0 fun v=>v=rv∧wrK fr t0 rv fun fr1=>wrK fr1 t1 rv fun fr2=>vc P rest fr2 H (fun _ H'=>R H') [] (fun _ H'=>R H')):
  ∀w:World,w.heap=H→CallsD P g args u w fun e u2 w'=>e= .returned (.tuple #[])∧u2=u'∧Env w w'∧R w'.heap:=by
 intro w hw;subst hw;rw [Gd]at h;simp only [Dx,EC]at h;obtain⟨hrv,h⟩:=h;obtain⟨⟨ats,b0⟩,b1,b2,b3,b4,b5⟩:=hB;refine callsD_of_wpS hf hb ?_;intro c₀ cs hc
 let a0:Act:={tmps:=args++AaD (fn.ntmps - args.size) undef,defers:=[]}
 have hat0:At (args.toList++Aa4 (fn.ntmps - args.size) undef) a0:=⟨by simp [a0],rfl⟩;refine wpS_seq (wpS_region ?_);have hrun0:(execOp a0.eval o0).run P w= .ok .recover w:=by
  simp only [execOp,b0,resolve];simp [invoke,builtin]
 have key:∀(c':Frame),{c₀ with mode:=u'}=c'→wpOpsS P #[o0,o1] (Exit.thenS (rest.wpS P (bodyPostS P fn c₀ cs fun e u2 w'=>e= .returned (.tuple #[])∧u2=u'∧Env w w'∧R w'.heap)) (bodyPostS P fn c₀ cs fun e u2 w'=>e= .returned (.tuple #[])∧u2=u'∧Env w w'∧R w'.heap)) [1] (a0.put o0.dst rv) (c'::cs) w:=by
  intro c' hc';have hat1:=hat0.put o0.dst rv;have hrun1:(execOp (a0.put o0.dst rv).eval o1).run P w= .ok (.value rv) w:=by
   rw [hat1.evalF,b2];simp only [execOp,b3];have:evF ((args.toList++Aa4 (fn.ntmps - args.size) undef).set t0 rv) (.tmp t0)=rv:=hrv;simp [this]
  have hw1:Region.wanted o1 (yielded #[o0,o1] (a0.put o0.dst rv).tmps)=true:=by simp [Region.wanted,b4]
  unfold wpOpsS;have g1:(#[o0,o1]:Array Oper)[1]? =some o1:=rfl;rw [g1];simp only [hw1,if_true,hrun1];simp only [Oper.upon,wpOpsS,Exit.thenS];refine wpS_of_wp ?_;have hat2:=hat1.put o1.dst rv;rw [b2,b5]at hat2;rw [b2,b5];refine Code.wp_mono ?_ (BP rest _ _ _ _ _ w hat2 h);intro e a' w' h2;have fin:∀fr,At fr a'→Env w w'→R w'.heap→a'.defers=[]∧∃u2,c'::cs={c₀ with mode:=u2}::cs∧∃v,(results fn a'.tmps).run P w'= .ok v w'∧Ending.returned v= .returned (.tuple #[])∧u2=u'∧Env w w'∧R w'.heap:=by
   intro fr h1 h2 h3;refine⟨h1.defers,u',by rw [hc'],.tuple #[],?_,rfl,rfl,h2,h3⟩;simp [results,hres]
  cases e with
  | normal=>obtain⟨fr,h1,h2,h3⟩:=h2;exact fin fr h1 h2 h3
  | ret=>obtain⟨fr,h1,h2,h3⟩:=h2;exact fin fr h1 h2 h3
  | exit id=>obtain⟨fr,h1,h2,h3⟩:=h2;exact h3.elim
  | goto l=>obtain⟨fr,h1,h2,h3⟩:=h2;exact h3.elim
  | panic c=>exact h2.elim
  | outgrown=>exact h2.elim
 have hw0:Region.wanted o0 (yielded #[o0,o1] a0.tmps)=true:=by simp [Region.wanted,b1]
 show wpOpsS P #[o0,o1] _ [0,1] a0 (c₀::cs) w;unfold wpOpsS;have g0:(#[o0,o1]:Array Oper)[0]? =some o0:=rfl;rw [g0];simp only [hw0,if_true,hrun0];cases hu with
 | ret=>
   have:recoverD (c₀::cs)=none:=by simp [recoverD,hc]
   rw [this];exact key c₀ (by rw [←hc])
 | pan=>
   have:recoverD (c₀::cs)=some (rv,{c₀ with mode:=.panicking [{v:=rv,recovered:=true}]}::cs):=by simp [recoverD,hc]
   rw [this];exact key _ rfl
structure Ew(P:Program)(g:FuncId)(args:Array Value)(u u':FrameMode)(H:Aa)(K:Aa→Prop):Prop where
 in_::
 out_:∀w:World,w.heap=H→CallsD P g args u w fun e u2 w'=>e= .returned (.tuple #[])∧u2=u'∧Env w w'∧K w'.heap
theorem Ew.mk{P:Program}{g:FuncId}{args:Array Value}{u u':FrameMode}{H:Aa}{K R:Aa→Prop}(h:∀w:World,w.heap=H→CallsD P g args u w fun e u2 w'=>e= .returned (.tuple #[])∧u2=u'∧Env w w'∧R w'.heap)(k:∀H',R H'→K H'):Ew P g args u u' H K:=
 ⟨fun w hw=>(h w hw).mono fun e u2 w' ⟨h1,h2,h3,h4⟩=>⟨h1,h2,h3,k _ h4⟩⟩
def ZF(o1 o2:Oper)(tc:Nat)(g:FuncId)(cap:Array Operand):Prop:=
 o1.op= .makeFunc (.func g) #[] cap∧o1.guard=none∧o1.dst=some tc∧(∃ats,o2.op= .defer {callee:=.value (.tmp tc),args:= #[],argTypes:=ats})∧o2.guard=none∧o2.dst=none
abbrev dfr(g:FuncId)(vs:List Value):Deferred:={target:=.fn (.func g) vs.toArray,args:= #[]}
theorem Al.of_defer{P:Program}{f:FuncId}{fn:Func}{r0 A B:Code}{idD:Nat}{o1 o2:Oper}{tc:Nat}{g:FuncId}{cap:Array Operand}{args:Array Value}{H:Aa}{R:Value→Aa→Prop}(hf:P.funcs[f]? =some fn)
  (hb:fn.body=some (.seq r0 (.seq A (.seq (.region idD #[o1,o2] false) B)))) (hcall:∀w:World,(callFunc f args).run P w= .ok (.enter f args) w) (hD:ZF o1 o2 tc g cap) (hg:∀(vs:Array Value) (w:World),(callFunc g vs).run P w= .ok (.enter g vs) w)
  (h:L6 (args.toList++Aa4 (fn.ntmps - args.size) undef) fun fr=>
   vc P r0 fr H (fun fr1 H1=>vc P A fr1 H1 (fun fr2 H2=>Gm fr2 cap.toList fun vs=>wrK fr2 tc (.func (.func g) #[] vs.toArray) fun fr3=>rdK fr3 tc fun fv=>fv= .func (.func g) #[] vs.toArray∧
    vcP P [dfr g vs] (fun fr4 x H4=>Ew P g vs.toArray (.panicking (pe x)) (.panicking [{v:=x,recovered:=true}]) H4 fun H5=>Fp P fn.results.toList fr4 H5 fun us=>R (JM us) H5) B fr3 H2
     (fun fr4 H4=>Ew P g vs.toArray .returning .returning H4 fun H5=>Fp P fn.results.toList fr4 H5 fun us=>R (JM us) H5) []
     (fun fr4 H4=>Ew P g vs.toArray .returning .returning H4 fun H5=>Fp P fn.results.toList fr4 H5 fun us=>R (JM us) H5))
    [] (fun fr4 H4=>Fp P fn.results.toList fr4 H4 fun us=>R (JM us) H4)) [] (fun fr4 H4=>Fp P fn.results.toList fr4 H4 fun us=>R (JM us) H4)):
  Al P f args H R:=by
 intro w hw;subst hw;refine⟨hcall w,?_⟩;rw [Gd]at h;obtain⟨d1,d2,d3,⟨ats,d4⟩,d5,d6⟩:=hD;refine calls_of_wp_defers hf hb ?_
 let a0:Act:={tmps:=args++AaD (fn.ntmps - args.size) undef,defers:=[]}
 have hat0:At (args.toList++Aa4 (fn.ntmps - args.size) undef) a0:=⟨by simp [a0],rfl⟩;have early:∀(fr:Fr) (a':Act) (w':World),At fr a'→Env w w'→(Fp P fn.results.toList fr w'.heap fun us=>R (JM us) w'.heap)→Leaves P fn a'.tmps (fun e w'=>∃v,e= .returned v∧Env w w'∧R v w'.heap) a'.defers .returning w':=by
  intro fr a' w' h1 h2 h3;rw [h1.defers];obtain⟨v,e1,e2⟩:=Ev (fn:=fn) (ds:=[]) (R:=fun v=>R v w'.heap) ⟨h1.tmps,h1.defers⟩ h3;exact⟨v,e1,v,rfl,h2,e2⟩
 refine wp_seq (Code.wp_mono ?_ (BP r0 _ _ _ _ a0 w hat0 h));intro e a1 w1 h1;cases e with
 | ret=>obtain⟨fr,k1,k2,k3⟩:=h1;exact early fr a1 w1 k1 k2 k3
 | exit id=>obtain⟨fr,k1,k2,k3⟩:=h1;exact k3.elim
 | goto l=>obtain⟨fr,k1,k2,k3⟩:=h1;exact k3.elim
 | panic c=>exact h1.elim
 | outgrown=>exact h1.elim
 | normal=>
 obtain⟨fr1,k1,k2,k3⟩:=h1;refine wp_seq (Code.wp_mono ?_ (BP A _ _ _ _ a1 w1 k1 k3));intro e a2 w2 h2;cases e with
 | ret=>obtain⟨fr,m1,m2,m3⟩:=h2;exact early fr a2 w2 m1 (k2.trans m2) m3
 | exit id=>obtain⟨fr,m1,m2,m3⟩:=h2;exact m3.elim
 | goto l=>obtain⟨fr,m1,m2,m3⟩:=h2;exact m3.elim
 | panic c=>exact h2.elim
 | outgrown=>exact h2.elim
 | normal=>
 obtain⟨fr2,m1,m2,m3⟩:=h2;have m3:Gm fr2 cap.toList _:=m3;rw [HB]at m3;simp only [EC,Dx]at m3;obtain⟨m4,m5⟩:=m3;have he2:=k2.trans m2;have hr1:(execOp a2.eval o1).run P w2= .ok (.value (.func (.func g) #[] (cap.toList.map (evF fr2)).toArray)) w2:=by
  rw [m1.evalF];simp only [execOp,d1];simp only [←Ab1,Array.toArray_toList];simp [Instr.makeFunc]
 have hat3:=m1.put o1.dst (.func (.func g) #[] (cap.toList.map (evF fr2)).toArray);rw [d3]at hat3;have hr2:(execOp (a2.put o1.dst (.func (.func g) #[] (cap.toList.map (evF fr2)).toArray)).eval o2).run P w2= .ok (.defer (dfr g (cap.toList.map (evF fr2)))) w2:=by
  rw [d3,hat3.evalF];simp only [execOp,d4,resolve];have:evF (fr2.set tc (.func (.func g) #[] (cap.toList.map (evF fr2)).toArray)) (.tmp tc)= .func (.func g) #[] (cap.toList.map (evF fr2)).toArray:=m4;simp [this,Deferred.ofValue]
 refine wp_seq (wp_region_lit (l:=[o1,o2]) ?_);have w1:Region.wanted o1 (yielded #[o1,o2] a2.tmps)=true:=by simp [Region.wanted,d2]
 have w2':∀tm,Region.wanted o2 (yielded #[o1,o2] tm)=true:=fun tm=>by simp [Region.wanted,d5]
 unfold wpList;simp only [w1,if_true];refine .inl ?_;unfold Oper.wp;rw [hr1];simp only [Oper.upon];unfold wpList;simp only [w2',if_true];refine .inl ?_;unfold Oper.wp;rw [hr2];simp only [Oper.upon,wpList,Exit.then];rw [d3];have hat4:AtX [dfr g (cap.toList.map (evF fr2))] (fr2.set tc (.func (.func g) #[] (cap.toList.map (evF fr2)).toArray)) ({(a2.put (some tc) (.func (.func g) #[] (cap.toList.map (evF fr2)).toArray))with defers:=dfr g (cap.toList.map (evF fr2))::(a2.put (some tc) (.func (.func g) #[] (cap.toList.map (evF fr2)).toArray)).defers}.put o2.dst undef):=by
  rw [d6];exact⟨hat3.tmps,by show _::_=_;rw [hat3.defers]⟩
 refine Code.wp_mono ?_ (BS B _ _ _ _ _ w2 hat4 m5);intro e a5 w5 h5;have inv:∀w:World,(invoke (.fn (.func g) (cap.toList.map (evF fr2)).toArray) #[]).run P w= .ok (.enter g (cap.toList.map (evF fr2)).toArray) w:=fun w=>by
  simp only [invoke];rw [Array.empty_append];exact hg _ w
 have fin:∀fr,AtX [dfr g (cap.toList.map (evF fr2))] fr a5→Env w2 w5→(Ew P g (cap.toList.map (evF fr2)).toArray .returning .returning w5.heap fun H5=>Fp P fn.results.toList fr H5 fun us=>R (JM us) H5)→
   Leaves P fn a5.tmps (fun e w'=>∃v,e= .returned v∧Env w w'∧R v w'.heap) a5.defers .returning w5:=by
  intro fr n1 n2 n3;rw [n1.defers];refine leaves_cons (fun h=>by cases h) (inv w5) ((n3.out_ w5 rfl).mono ?_);rintro e u w6 ⟨rfl,rfl,q1,q2⟩;obtain⟨v,e1,e2⟩:=Ev (fn:=fn) (R:=fun v=>R v w6.heap) n1 q2;exact⟨v,e1,v,rfl,(he2.trans n2).trans q1,e2⟩
 cases e with
 | normal=>obtain⟨fr,n1,n2,n3⟩:=h5;exact fin fr n1 n2 n3
 | ret=>obtain⟨fr,n1,n2,n3⟩:=h5;exact fin fr n1 n2 n3
 | exit id=>obtain⟨fr,n1,n2,n3⟩:=h5;exact n3.elim
 | goto l=>obtain⟨fr,n1,n2,n3⟩:=h5;exact n3.elim
 | outgrown=>exact h5.elim
 | panic c=>
   obtain⟨fr,n1,n2,x,rfl,n3⟩:=h5;show Leaves P fn a5.tmps _ a5.defers (.panicking (pe x)) w5;rw [n1.defers];refine leaves_cons (fun h=>by cases h) (inv w5) ((n3.out_ w5 rfl).mono ?_);rintro e u w6 ⟨rfl,rfl,q1,q2⟩;obtain⟨v,e1,e2⟩:=Ev (fn:=fn) (R:=fun v=>R v w6.heap) n1 q2;exact⟨v,e1,v,rfl,(he2.trans n2).trans q1,e2⟩
def Vd:ResultVar→Nat
 | .tmp t=>t
 | .cell a _=>a
theorem M9{fr:Fr}{d t:Nat}{v:Value}(h:d≠t):rd (fr.set d v) t=rd fr t:=by
 unfold rd;rw [AaQ,AaQ,AaH h]
theorem LH{P:Program}{fr:Fr}{d:Nat}{v:Value}{H:Aa}:∀{rs:List ResultVar} {R:List Value→Prop},(∀r∈rs,d≠Vd r)→Fp P rs (fr.set d v) H R→Fp P rs fr H R
 | [],R,_,h=>h
 | .tmp t::rs,R,hd,h=>by
   have h':rdK (fr.set d v) t (fun v'=>Fp P rs (fr.set d v) H fun vs=>R (v'::vs)):=h;show rdK fr t (fun v'=>Fp P rs fr H fun vs=>R (v'::vs));rw [Dx]at h' ⊢;have hne:d≠t:=hd _ AaZ;rw [M9 hne]at h';exact LH (fun r hr=>hd r (AaW _ hr)) h'
 | .cell x t::rs,R,hd,h=>by
   have h':rdK (fr.set d v) x (fun p=>ldK P t p H fun v'=>Fp P rs (fr.set d v) H fun vs=>R (v'::vs)):=h;show rdK fr x (fun p=>ldK P t p H fun v'=>Fp P rs fr H fun vs=>R (v'::vs));rw [Dx]at h' ⊢;have hne:d≠x:=hd _ AaZ;rw [M9 hne]at h';have e:(fun v'=>Fp P rs (fr.set d v) H fun vs=>R (v'::vs))=fun v'=>Fp P rs (fr.set d v) H fun vs=>R (v'::vs):=rfl;revert h';unfold ldK;generalize rd fr x=p;intro h';split at h'
   ·obtain⟨v',e1,e2⟩:=h'.out_;exact⟨⟨v',e1,LH (fun r hr=>hd r (AaW _ hr)) e2⟩⟩
   ·exact h'.elim
theorem PH{P:Program}{g:FuncId}{vs:Array Value}{rs:List ResultVar}{R:Value→Aa→Prop}{l:List Oper}(hb:(l.all fun o=>match o.dst with | none=>true | some d=>rs.all fun r=> !(d==Vd r))=true):
  QO (fun fr4 x H4=>Ew P g vs (.panicking (pe x)) (.panicking [{v:=x,recovered:=true}]) H4 fun H5=>Fp P rs fr4 H5 fun us=>R (JM us) H5) l:=by
 intro o ho d hd fr v x H h;have h1:=AaG.1 hb o ho;rw [hd]at h1;refine Ew.mk h.out_ fun H' h2=>LH (fun r hr=>?_) h2;have:=AaG.1 h1 r hr;simpa using this
theorem Al.of_vcL{P:Program}{f:FuncId}{fn:Func}{c:Code}{args:Array Value}{H:Aa}{R:Value→Aa→Prop}(hf:P.funcs[f]? =some fn)(hb:fn.body=some c)
  (hcall:∀w:World,(callFunc f args).run P w= .ok (.enter f args) w)
  (h:L6 (args.toList++Aa4 (fn.ntmps - args.size) undef) fun fr=>vc P c fr H (fun fr' H'=>Fp P fn.results.toList fr' H' fun us=>R (JM us) H') [] (fun fr' H'=>Fp P fn.results.toList fr' H' fun us=>R (JM us) H')):
  Al P f args H R:=by
 intro w hw;subst hw;refine⟨hcall w,?_⟩;refine calls_of_wp hf hb ?_;rw [Gd]at h;have hat:At (args.toList++Aa4 (fn.ntmps - args.size) undef) {tmps:=args++AaD (fn.ntmps - args.size) undef,defers:=[]}:=⟨by simp,rfl⟩;refine Code.wp_mono ?_ (BP c _ _ _ _ _ w hat h);intro e a' w' h2;have fin:∀fr,At fr a'→Env w w'→(Fp P fn.results.toList fr w'.heap fun us=>R (JM us) w'.heap)→a'.defers=[]∧∃v,(results fn a'.tmps).run P w'= .ok v w'∧∃v',Ending.returned v= .returned v'∧Env w w'∧R v' w'.heap:=by
  intro fr h1 h2 h3;obtain⟨v,hv,hR⟩:=Ev (fn:=fn) (ds:=[]) (R:=fun v=>R v w'.heap) ⟨h1.tmps,h1.defers⟩ h3;exact⟨h1.defers,v,hv,v,rfl,h2,hR⟩
 cases e with
 | normal=>obtain⟨fr,h1,h2,h3⟩:=h2;exact fin fr h1 h2 h3
 | ret=>obtain⟨fr,h1,h2,h3⟩:=h2;exact fin fr h1 h2 h3
 | exit id=>obtain⟨fr,h1,h2,h3⟩:=h2;exact h3.elim
 | goto l=>obtain⟨fr,h1,h2,h3⟩:=h2;exact h3.elim
 | panic c=>exact h2.elim
 | outgrown=>exact h2.elim
section
variable{α:Type}{ps qs l:List α}{i j:Nat}{p q:α}
theorem lgL(h:ps[i]? =some p):(ps++qs)[i]? =some p:=by rw [AaF (Aa2.1 h).1];exact h
theorem lsL(h:ps[i]? =some p):(ps++qs).set i q=ps.set i q++qs:=AaX _ _ (Aa2.1 h).1
theorem lgR(ps l:List α)(j:Nat):(ps++l)[ps.length+j]? =l[j]? :=by
 rw [Aa3 (Ab2 _ _)];congr 1;omega
theorem lsR(ps l:List α)(j:Nat)(x:α):(ps++l).set (ps.length+j) x=ps++l.set j x:=by
 rw [AaV _ _ (Ab2 _ _)];congr 2;omega
theorem lgS(h:ps[i]? =some p):(ps.set i q)[i]? =some q:=AaM (Aa2.1 h).1
theorem ZL(h:ps[i]? =some p):ps.set i p=ps:=by
 refine AaR fun j=>?_;by_cases hj:i=j
 ·subst hj;rw [lgS h,h]
 ·rw [AaH hj]
theorem D6(ps l:List α):(ps++l)[ps.length]? =l[0]? :=lgR ps l 0
theorem Nw(ps l:List α)(x:α):(ps++l).set ps.length x=ps++l.set 0 x:=lsR ps l 0 x
end
section
variable{B:Nat→Prop}{H0 H:Aa}{ps qs:List Pc}{e:TypeId}{b:Nat}{l:List Value}
theorem StB.lft(st:StB B H0 H (ps++qs)):StB B H0 H ps:=
 ⟨st.old,st.lt0,st.size,fun p hp=>st.oks p (AaB _ hp),fun p hp=>st.rng p (AaB _ hp),(AaO.1 st.dis).1⟩
theorem StB.subl(st:StB B H0 H ps)(h:List.Sublist qs ps):StB B H0 H qs:=
 ⟨st.old,st.lt0,st.size,fun p hp=>st.oks p (h.subset hp),fun p hp=>st.rng p (h.subset hp),st.dis.sublist h⟩
theorem Bf{P:Program}{t o:Nat}{cs:List Value}{K:Aa→Prop}(st:StB B H0 H ps)(i:Nat)(ht:(P.info? t).map (·.size)=some cs.length)(hp:ps[i]? =some (pB e b l))(ho:o+cs.length≤l.length)(hv:cs.all (·.oneCell')=true)
  (k:∀H',StB B H0 H' (ps.set i (pB e b (Ae l o cs)))→Agr (fun k=>k≠b) H H'→H'.size=H.size→K H'):C0 P (Instr.storeAt t (.pointer (some ⟨b,o,none⟩)) (.agg cs.toArray)) H K:=by
 refine VC.stN ht (st.at_ i hp) ho hv ?_;intro H' hb' ha' hs';exact k H' (st.upd i hp (ha'.mono fun k hk hkb=>hk.2 hkb) _ hb' (fun k hk=>.inl hk) (fun k hk=>by rw [hs'];exact(st.in_ i hp hk).2) (by omega)) ha' hs'
theorem Vg{P:Program}{t o:Nat}{v:Value}{K:Aa→Prop}(st:StB B H0 H ps)(i:Nat)(ht:BG P t)(hp:ps[i]? =some (pB e b l))(ho:o<l.length)(hv:v.oneCell'=true)
  (k:∀H',StB B H0 H' (ps.set i (pB e b (l.set o v)))→Agr (fun k=>k≠b) H H'→H'.size=H.size→K H'):C0 P (Instr.storeAt t (.pointer (some ⟨b,o,none⟩)) v) H K:=by
 refine VC.st1 ht (st.at_ i hp) ho hv ?_;intro H' hb' ha' hs';exact k H' (st.upd i hp (ha'.mono fun k hk hkb=>hk.2 hkb) _ hb' (fun k hk=>.inl hk) (fun k hk=>by rw [hs'];exact(st.in_ i hp hk).2) (by omega)) ha' hs'
theorem A8{l cs:List Value}(h:cs.length=l.length):Ae l 0 cs=cs:=by unfold Ae;simp [h]
end
end Go.VC
namespace Go.Proofs.YtfbghcpdinlmcaaGreatDoor
open Go.VC Go.Lib
def bt(t:ByteArray)(i:Nat):Nat:=match t.data[i]? with
 | some b=>b.toNat
 | none=>256
theorem CI{t:ByteArray}{i:Nat}(h:i<t.size):∃b,t.data[i]? =some b∧bt t i=b.toNat∧bt t i<256:=by
 have hl:i<t.data.size:=h;refine⟨t.data[i],AaJ hl,?_,?_⟩
 ·unfold bt;rw [AaJ hl]
 ·unfold bt;rw [AaJ hl];exact UInt8.toNat_lt _
theorem Ci{t:ByteArray}{i:Nat}(h:¬i<t.size):bt t i=256:=by
 have hl:¬i<t.data.size:=h;unfold bt;rw [Array.getElem?_eq_none (by omega)]
theorem Dc{t:ByteArray}{i:Nat}(h:bt t i≠256):i<t.size:=by
 apply Classical.byContradiction;intro hn;exact h (Ci hn)
def Da(c:Nat):Option Nat:=if 48≤c∧c≤57 then some (c - 48)else if 97≤c∧c≤102 then some (c - 87)else none
theorem Gv{c v:Nat}(h:Da c=some v):v<16:=by
 unfold Da at h;split at h
 ·cases h;omega
 ·split at h
  ·cases h;omega
  ·cases h
def Wj:ByteArray:=⟨#[48,49,50,51,52,53,54,55,56,57,97,98,99,100,101,102]⟩
theorem Qe(c:Nat)(hc:c<256):indexByte Wj.data.toList (UInt8.ofNat c)=match Da c with | some v=>(v:Int) | none=> -1:=by
 have:∀c:Fin 256,indexByte Wj.data.toList (UInt8.ofNat c.1)=match Da c.1 with | some v=>(v:Int) | none=> -1:=by decide+kernel
 exact this ⟨c,hc⟩
def Ga(t:ByteArray)(i:Nat):Sum Nat (Nat×Nat):=
 if bt t i=256 then .inl i else if bt t i=110 then .inr (10,i+1)else if bt t i=114 then .inr (13,i+1)else if bt t i=116 then .inr (9,i+1)
 else if bt t i=120 then match Da (bt t (i+1))with
  | none=>.inl (i+1)
  | some a=>match Da (bt t (i+2))with
    | none=>.inl (i+2)
    | some b=>.inr (16*a+b,i+3)
 else if bt t i<32∨126<bt t i∨(48≤bt t i∧bt t i≤57)∨(97≤bt t i∧bt t i≤122)∨(65≤bt t i∧bt t i≤90)then .inl i else .inr (bt t i,i+1)
def Bl(t s:ByteArray)(i:Nat):Sum Nat (Nat×Nat):=
 if bt t i=92 then Ga t (i+1)else if bt t i<32∨126<bt t i∨spB s (bt t i)=true then .inl i else .inr (bt t i,i+1)
def FY(t:ByteArray)(lo j:Nat)(x:BitVec 256)(f:Nat→BitVec 256→Sum Nat (BitVec 256×Nat)):Sum Nat (BitVec 256×Nat):=
 if bt t j=45 then(match Bl t Dl (j+1)with
  | .inl e=>.inl e
  | .inr (hi,k)=>if hi<lo then .inl (j+1)else f k (x ||| AE lo hi))
 else f j (x ||| AE lo lo)
def CG(t:ByteArray):Nat→Nat→BitVec 256→Sum Nat (BitVec 256×Nat)
 | 0,i,_=>.inl i
 | n+1,i,x=>if bt t i=93 then .inr (x,i+1)else match Bl t Dl i with
   | .inl e=>.inl e
   | .inr (lo,j)=>FY t lo j x (CG t n)
def GW(t:ByteArray)(i:Nat):Sum Nat (BitVec 256×Nat):=
 match CG t (t.size+1) (if bt t i=94 then i+1 else i) 0#256 with
 | .inl e=>.inl e
 | .inr (x,k)=>.inr (if bt t i=94 then ~~~x else x,k)
def Bo(t:ByteArray)(i:Nat):Sum Nat (BitVec 256×Nat):=
 if bt t i=46 then .inr (~~~(AE 10 10),i+1)else if bt t i=91 then GW t (i+1)else match Bl t DW i with
 | .inl e=>.inl e
 | .inr (b,k)=>.inr (AE b b,k)
theorem VQ{t:ByteArray}{i:Nat}{c j:Nat}(h:Ga t i= .inr (c,j)):c<256∧i<j∧j≤t.size:=by
 unfold Ga at h;split at h
 ·cases h
 ·rename_i h0;have hi:=Dc h0;obtain⟨b,-,-,hb⟩:=CI hi;split at h
  ·cases h;omega
  ·split at h
   ·cases h;omega
   ·split at h
    ·cases h;omega
    ·split at h
     ·split at h
      ·cases h
      ·rename_i a ha;split at h
       ·cases h
       ·rename_i b2 hb2;cases h;have h1:=Gv ha;have h2:=Gv hb2;have h3:i+2<t.size:=Dc fun e=>by rw [e]at hb2;cases hb2
        omega
     ·split at h
      ·cases h
      ·cases h;omega
theorem CL{t s:ByteArray}{i:Nat}{c j:Nat}(h:Bl t s i= .inr (c,j)):c<256∧i<j∧j≤t.size:=by
 unfold Bl at h;split at h
 ·have:=VQ h;omega
 ·split at h
  ·cases h
  ·rename_i h1;cases h;have hi:i<t.size:=Dc fun e=>h1 (.inr (.inl (by omega)));obtain⟨b,-,-,hb⟩:=CI hi;omega
theorem N0{t:ByteArray}:∀{n i:Nat} {x y:BitVec 256} {k:Nat},CG t n i x= .inr (y,k)→i<k∧k≤t.size
 | 0,i,x,y,k,h=>by cases h
 | n+1,i,x,y,k,h=>by
   unfold CG at h;split at h
   ·rename_i h0;cases h;have hi:i<t.size:=Dc fun e=>by omega
    omega
   ·split at h
    ·cases h
    ·rename_i lo j h1;have:=CL h1;unfold FY at h;split at h
     ·split at h
      ·cases h
      ·rename_i hi k2 h2;have:=CL h2;split at h
       ·cases h
       ·have:=N0 h;omega
     ·have:=N0 h;omega
theorem I6{t:ByteArray}{i:Nat}{y:BitVec 256}{k:Nat}(h:Bo t i= .inr (y,k)):i<k∧k≤t.size:=by
 unfold Bo at h;split at h
 ·rename_i h0;cases h;have hi:i<t.size:=Dc fun e=>by omega
  omega
 ·split at h
  ·unfold GW at h;split at h
   ·cases h
   ·rename_i x k2 h1;cases h;have:=N0 h1;split at this<;>omega
  ·split at h
   ·cases h
   ·rename_i b k2 h1;cases h;have:=CL h1;omega
theorem E5:Tryz.prog.underlying 9=some .string:=rfl
abbrev rdL(t:ByteArray)(i:Nat):List Value:=[.string t,.int .i64 (i:Int)]
abbrev pRd(r:Nat)(t:ByteArray)(i:Nat):Pc:=pB 357 r (rdL t i)
def D5(c i:Nat):Value:=.iface 68 (.agg #[.int .i64 (c:Int),.int .i64 (i:Int),.string ⟨#[]⟩])
theorem Ho{H:Aa}{r i:Nat}{t:ByteArray}(hb:Blk H r 357 (rdL t i)):B8 Tryz.prog 245 #[.pointer (some ⟨r,0,none⟩)] H (.tuple #[.int .u8 (if bt t i=256 then 0 else(bt t i:Int)),.bool (decide (bt t i≠256))]):=by
 refine Al.of_vc Tryz.func245 rfl (Tryz.call245 _) (Ar.lex rfl (by kernel_rfl) (VC.fa A9 ?_));refine ld1 (v:=.int .i64 (i:Int)) ct3 (by rw [hb.cell];rfl) trivial ?_;refine VC.fa Nn ?_;refine ld1 (v:=.string t) ct9 (by rw [hb.cell];rfl) trivial ?_;by_cases hi:i<t.size
 ·obtain⟨b,h1,h2,h3⟩:=CI hi;have d1:decide ((i:Int)<(t.size:Int))=true:=decide_eq_true (by omega);(conv=>whnf);rw [d1];refine Ar.lex rfl (by kernel_rfl) (VC.fa Nn ?_);refine ld1 (v:=.string t) ct9 (by rw [hb.cell];rfl) trivial ?_;refine VC.fa A9 ?_;refine ld1 (v:=.int .i64 (i:Int)) ct3 (by rw [hb.cell];rfl) trivial ?_;refine Dg E5 rfl h1 ?_;(conv=>whnf);refine⟨?_,Agr.refl _ _⟩;rw [if_neg (by omega),decide_eq_true (by omega),h2]
 ·have h2:=Ci hi;have d1:decide ((i:Int)<(t.size:Int))=false:=decide_eq_false (by omega);(conv=>whnf);rw [d1];(conv=>whnf);refine⟨?_,Agr.refl _ _⟩;rw [if_pos h2,decide_eq_false (by omega)]
theorem CX{H:Aa}{r:Nat}{e:Nat}:BC Tryz.prog 246 #[.pointer (some ⟨r,0,none⟩),.int .i64 (e:Int)] H (fun _ _=>False) (fun x H'=>x=D5 10 e∧H'=H):=by
 refine BC.of_vc Tryz.func246 rfl (Tryz.call246 _) (A6 Tryz.underlying68 rfl _ rfl [.int .i64 10,.int .i64 (e:Int),.string ⟨#[]⟩] rfl ?_);(conv=>whnf);exact⟨rfl,rfl⟩
theorem Cn{α:Type}{ps:List α}{i:Nat}{p:α}(h:ps[i]? =some p):ps.set i p=ps:=by
 refine AaR fun j=>?_;by_cases hj:i=j
 ·subst hj;rw [AaM (Aa2.1 h).1,h]
 ·rw [AaH hj]
theorem GE{α:Type}{ps:List α}{i:Nat}{p q:α}(h:ps[i]? =some p):(ps.set i q)[i]? =some q:=AaM (Aa2.1 h).1
theorem Xe{B:Nat→Prop}{H0 H:Aa}{ps:List Pc}{k r i:Nat}{t:ByteArray}(ht:t.size≤1152921504606846976)(st:StB B H0 H ps)(hp:ps[k]? =some (pRd r t i)):
  BC Tryz.prog 248 #[.pointer (some ⟨r,0,none⟩)] H (fun v H'=>∃c:Nat,Da (bt t i)=some c∧v= .int .u8 (c:Int)∧StB B H0 H' (ps.set k (pRd r t (i+1))))
   (fun x H'=>Da (bt t i)=none∧x=D5 10 i∧StB B H0 H' (ps.set k (pRd r t i))):=by
 refine BC.of_vc Tryz.func248 rfl (Tryz.call248 _) (Ah.of (Ao (Ho (st.blk k hp)) fun H1 ha1=>?_));have st1:=st.call ha1;by_cases h0:bt t i=256
 ·rw [if_pos h0,decide_eq_false (by omega)];refine Ah.of (Ao (Ns Wj 0 H1) fun H2 ha2=>?_);have st2:=st1.call ha2;refine AQ.run (VC.fa A9 ?_);refine ld1 (v:=.int .i64 ((i:Nat):Int)) ct3 (by rw [(st2.blk k hp).cell];rfl) trivial ?_;refine Ah.mk CX (fun _ _ h=>h.elim) ?_;rintro _ _ ⟨rfl,rfl⟩;exact⟨by rw [h0];rfl,rfl,by rw [Cn hp];exact st2⟩
 ·have hi:=Dc h0;obtain⟨b,hb1,hb2,hb3⟩:=CI hi;rw [if_neg h0,decide_eq_true (by omega)];refine Ah.of (Ao (Ns Wj (bt t i) H1) fun H2 ha2=>?_);have st2:=st1.call ha2;rw [Qe _ hb3];cases hx:Da (bt t i)with
  | none=>
    refine AQ.run (VC.fa A9 ?_);refine ld1 (v:=.int .i64 ((i:Nat):Int)) ct3 (by rw [(st2.blk k hp).cell];rfl) trivial ?_;refine Ah.mk CX (fun _ _ h=>h.elim) ?_;rintro _ _ ⟨rfl,rfl⟩;exact⟨rfl,rfl,by rw [Cn hp];exact st2⟩
  | some c=>
    have hc:=Gv hx;have d1:decide ((c:Int)<0)=false:=decide_eq_false (by omega);refine AQ.run ?_;(conv=>whnf);rw [d1];refine VC.fa A9 ?_;refine ld1 (v:=.int .i64 ((i:Nat):Int)) ct3 (by rw [(st2.blk k hp).cell];rfl) trivial ?_;(conv=>whnf);rw [w64 (x:=((i:Nat):Int)+1) (by omega) (by omega)];refine VC.fa A9 (AT st2 k ct3 hp (by simp) rfl fun H3 st3=>?_);(conv=>whnf);rw [w8 (x:=(c:Int)) (by omega) (by omega)];(conv=>whnf);exact⟨c,rfl,rfl,st3⟩
theorem It{B:Nat→Prop}{H0 H:Aa}{ps:List Pc}(hE:Fx H0)(hB:B 0)(st:StB B H0 H ps):Fx H:=
 ⟨hE.1.eq (st.old _ hB),st.up hB⟩
theorem ZR{a b:Nat}(hb:b<16):a*2 ^ 4 ||| b=16*a+b:=by
 have:=Nat.two_pow_add_eq_or_of_lt (i:=4) (b:=b) (by simpa using hb) a;rw [Nat.mul_comm a,←this]
theorem Ua{B:Nat→Prop}{H0 H:Aa}{ps:List Pc}{k r i:Nat}{t:ByteArray}(hE:Fx H0)(hEB:B 0)(ht:t.size≤1152921504606846976)(st:StB B H0 H ps)(hp:ps[k]? =some (pRd r t i)):
  BC Tryz.prog 247 #[.pointer (some ⟨r,0,none⟩)] H (fun v H'=>∃c j:Nat,Ga t i= .inr (c,j)∧v= .int .u8 (c:Int)∧StB B H0 H' (ps.set k (pRd r t j)))
   (fun x H'=>∃e j:Nat,Ga t i= .inl e∧x=D5 10 e∧StB B H0 H' (ps.set k (pRd r t j))):=by
 refine BC.of_vc Tryz.func247 rfl (Tryz.call247 _) (Ah.of (Ao (Ho (st.blk k hp)) fun H1 ha1=>?_));have st1:=st.call ha1;by_cases h0:bt t i=256
 ·rw [if_pos h0,decide_eq_false (by omega)];refine AQ.run ?_;(conv=>whnf);refine VC.fa A9 ?_;refine ld1 (v:=.int .i64 ((i:Nat):Int)) ct3 (by rw [(st1.blk k hp).cell];rfl) trivial ?_;refine Ah.mk CX (fun _ _ h=>h.elim) ?_;rintro _ _ ⟨rfl,rfl⟩;exact⟨i,i,by unfold Ga;rw [if_pos h0],rfl,by rw [Cn hp];exact st1⟩
 have hi:=Dc h0;obtain⟨b,hb1,hb2,hb3⟩:=CI hi;rw [if_neg h0,decide_eq_true (by omega)];obtain⟨c,hc⟩:∃c,c=bt t i:=⟨_,rfl⟩;rw [←hc]at h0 hb3 ⊢;refine AQ.run (ldN (cs:=TX) Y5 (It hE hEB st1).1 trivial ?_);(conv=>whnf);refine Ed.mk [22] (fun n:Nat=>[.int .i64 (n:Int)]) (fun n H1=>n≤3∧(∀j,j<n→(Ni j).1≠c)∧StB B H0 H1 ps) (fun n _=>3 - n) ?_ ?_
 ·(conv=>whnf);exact⟨0,rfl,by omega,fun j hj=>by omega,st1⟩
 ·rintro n G junk1 ⟨hn,hno,stg⟩;refine AB.mk (fun hz=>?_) (fun hz=>?_)<;>simp only [decide_eq_true_eq,decide_eq_false_iff_not]at hz
  ·have hex:TX.toArray.extract (n*2) (n*2+2)= #[.int .u8 ((Ni n).1:Int),.int .u8 ((Ni n).2:Int)]:=by
    have:n=0∨n=1∨n=2:=by omega
    rcases this with rfl | rfl | rfl<;>rfl
   have hsg:(Ni n).1=c→Ga t i= .inr ((Ni n).2,i+1):=fun e=>by
    have:n=0∨n=1∨n=2:=by omega
    unfold Ga;rw [←hc,if_neg h0];rcases this with rfl | rfl | rfl<;>(subst e;rfl)
   have h1b:(Ni n).1<256∧(Ni n).2<256:=by
    have:n=0∨n=1∨n=2:=by omega
    rcases this with rfl | rfl | rfl<;>decide
   refine YS Y8 Y4 (by omega) (by omega) ?_;rw [Int.toNat_natCast,hex];generalize hl:(Ni n).1=l at*;generalize (Ni n).2=v at*;refine Ak (.agg #[.int .u8 0,.int .u8 0]) [.int .u8 0,.int .u8 0] YI rfl ?_;intro p2 H2 hp2 hs2 hb2 ha2;have st2:=stg.box hp2 hs2 hb2 ha2;refine AI (cs:=[.int .u8 (l:Int),.int .u8 (v:Int)]) st2 ps.length rfl (by rw [Aa3 (Aa8 _),AaT];rfl) (Aa8 _) rfl fun H3 st3=>?_;rw [AaV _ _ (Aa8 _),AaT,Ax (by rfl)]at st3;have hb3:Blk H3 p2 335 [.int .u8 (l:Int),.int .u8 (v:Int)]:=st3.blk ps.length (by rw [Aa3 (Aa8 _),AaT];rfl);have hpk:(ps++[pB 335 p2 [.int .u8 (l:Int),.int .u8 (v:Int)]])[k]? =some (pRd r t i):=by
    rw [AaF (Aa2.1 hp).1];exact hp
   have cutR:∀{H':Aa} {q:Pc},StB B H0 H' ((ps++[pB 335 p2 [.int .u8 (l:Int),.int .u8 (v:Int)]]).set k q)→StB B H0 H' (ps.set k q):=fun h=>by
    rw [AaX _ _ (Aa2.1 hp).1]at h;exact⟨h.old,h.lt0,h.size,fun p hp=>h.oks p (AaB _ hp),fun p hp=>h.rng p (AaB _ hp),(AaO.1 h.dis).1⟩
   (conv=>whnf);try (refine AQ.run ?_)
   refine VC.fa Wb ?_;refine ld1 (v:=.int .u8 (l:Int)) ct5 (by rw [hb3.cell];rfl) trivial ?_;by_cases he:l=c
   ·have d1:((l:Int)==(c:Int))=true:=by rw [he];exact beq_self_eq_true _
    (conv=>whnf);rw [d1];refine VC.fa A9 ?_;refine ld1 (v:=.int .i64 ((i:Nat):Int)) ct3 (by rw [(st3.blk k hpk).cell];rfl) trivial ?_;(conv=>whnf);rw [w64 (x:=((i:Nat):Int)+1) (by omega) (by omega)];refine VC.fa A9 (AT st3 k ct3 hpk (by simp) rfl fun H4 st4=>?_);have hb4:Blk H4 p2 335 [.int .u8 (l:Int),.int .u8 (v:Int)]:=st4.blk ps.length (by
     rw [AaH (by have:=(Aa2.1 hp).1;omega),Aa3 (Aa8 _),AaT];rfl)
    refine VC.fa Wc ?_;refine ld1 (v:=.int .u8 (v:Int)) ct5 (by rw [hb4.cell];rfl) trivial ?_;(conv=>whnf);exact⟨v,i+1,hsg he,rfl,cutR st4⟩
   ·have d1:((l:Int)==(c:Int))=false:=beq_eq_false_iff_ne.2 (by omega);(conv=>whnf);rw [d1];(conv=>whnf);rw [w64 (x:=(n:Int)+1) (by omega) (by omega)];refine⟨rfl,n+1,rfl,⟨by omega,fun j hj=>?_,⟨st3.old,st3.lt0,st3.size,fun p hp=>st3.oks p (AaB _ hp),fun p hp=>st3.rng p (AaB _ hp),(AaO.1 st3.dis).1⟩⟩,by omega⟩;rcases AaY (Ab0 hj)with hj | rfl
    ·exact hno j hj
    ·rw [hl];exact he
  ·obtain rfl:n=3:=by omega
   have n0:(110:Nat)≠c:=hno 0 (by omega);have n1:(114:Nat)≠c:=hno 1 (by omega);have n2:(116:Nat)≠c:=hno 2 (by omega);have hes:Ga t i=(if c=120 then match Da (bt t (i+1))with
     | none=>.inl (i+1)
     | some a=>match Da (bt t (i+2))with
       | none=>.inl (i+2)
       | some b=>.inr (16*a+b,i+3)
    else if c<32∨126<c∨(48≤c∧c≤57)∨(97≤c∧c≤122)∨(65≤c∧c≤90)then .inl i else .inr (c,i+1)):=by
    unfold Ga;rw [←hc,if_neg h0,if_neg (Ne.symm n0),if_neg (Ne.symm n1),if_neg (Ne.symm n2)]
   by_cases hx:c=120
   ·rw [if_pos hx]at hes;have d1:((c:Int)==(120:Int))=true:=by rw [hx];rfl
    (conv=>whnf);try (refine AQ.run ?_)
    (conv=>whnf);rw [d1];refine VC.fa A9 ?_;refine ld1 (v:=.int .i64 ((i:Nat):Int)) ct3 (by rw [(stg.blk k hp).cell];rfl) trivial ?_;(conv=>whnf);rw [w64 (x:=((i:Nat):Int)+1) (by omega) (by omega)];refine VC.fa A9 (AT stg k ct3 hp (by simp) rfl fun H4 st4=>?_);have hp4:(ps.set k (pRd r t (i+1)))[k]? =some (pRd r t (i+1)):=GE hp;replace st4:StB B H0 H4 (ps.set k (pRd r t (i+1))):=st4;refine Ah.mk (Xe ht st4 hp4) ?_ ?_
    ·rintro _ H5 ⟨a,ha,rfl,st5⟩;have hal:=Gv ha;rw [AaK]at st5;have hp5:(ps.set k (pRd r t (i+1+1)))[k]? =some (pRd r t (i+1+1)):=GE hp;refine Yn (b:=4) (by decide) (Qg (by omega)) (Ah.mk (Xe ht st5 hp5) ?_ ?_)
     ·rintro _ H6 ⟨b2,hb2',rfl,st6⟩;have hbl:=Gv hb2';rw [AaK]at st6;refine vor (Qg (by omega)) (Qg (by omega)) ?_;rw [ZR hbl];(conv=>whnf);exact⟨16*a+b2,i+3,by rw [hes,ha];show(match Da (bt t (i+1+1))with | none=>_ | some b=>_)=_;rw [hb2'],rfl,st6⟩
     ·rintro _ H6 ⟨hn,rfl,st6⟩;rw [AaK]at st6;exact⟨i+2,i+2,by rw [hes,ha];show(match Da (bt t (i+1+1))with | none=>_ | some b=>_)=_;rw [hn],rfl,st6⟩
    ·rintro _ H5 ⟨hn,rfl,st5⟩;rw [AaK]at st5;exact⟨i+1,i+1,by rw [hes,hn],rfl,st5⟩
   ·rw [if_neg hx]at hes;have d1:((c:Int)==(120:Int))=false:=beq_eq_false_iff_ne.2 (by omega);(conv=>whnf);try (refine AQ.run ?_)
    (conv=>whnf);rw [d1];clear d1;refine AQ.run ?_;(conv=>whnf);by_cases hq00:c<32
    ·skip
     have d1:decide ((c:Int)<32)=true:=decide_eq_true (by omega);(conv=>whnf);rw [d1];clear d1;(conv=>whnf);refine VC.fa A9 ?_;refine ld1 (v:=.int .i64 ((i:Nat):Int)) ct3 (by rw [(stg.blk k hp).cell];rfl) trivial ?_;refine Ah.mk CX (fun _ _ h=>h.elim) ?_;rintro _ _ ⟨rfl,rfl⟩;exact⟨i,i,by rw [hes,if_pos (by omega)],rfl,by rw [Cn hp];exact stg⟩
    ·skip
     have d1:decide ((c:Int)<32)=false:=decide_eq_false (by omega);(conv=>whnf);rw [d1];clear d1;by_cases hq10:126<c
     ·skip
      have d1:decide ((c:Int)>126)=true:=decide_eq_true (by omega);(conv=>whnf);rw [d1];clear d1;(conv=>whnf);refine VC.fa A9 ?_;refine ld1 (v:=.int .i64 ((i:Nat):Int)) ct3 (by rw [(stg.blk k hp).cell];rfl) trivial ?_;refine Ah.mk CX (fun _ _ h=>h.elim) ?_;rintro _ _ ⟨rfl,rfl⟩;exact⟨i,i,by rw [hes,if_pos (by omega)],rfl,by rw [Cn hp];exact stg⟩
     ·skip
      have d1:decide ((c:Int)>126)=false:=decide_eq_false (by omega);(conv=>whnf);rw [d1];clear d1;by_cases hq20:48≤c
      ·skip
       have d1:decide ((c:Int)≥48)=true:=decide_eq_true (by omega);(conv=>whnf);rw [d1];clear d1;by_cases hq21:c≤57
       ·skip
        have d1:decide ((c:Int)≤57)=true:=decide_eq_true (by omega);(conv=>whnf);rw [d1];clear d1;(conv=>whnf);refine VC.fa A9 ?_;refine ld1 (v:=.int .i64 ((i:Nat):Int)) ct3 (by rw [(stg.blk k hp).cell];rfl) trivial ?_;refine Ah.mk CX (fun _ _ h=>h.elim) ?_;rintro _ _ ⟨rfl,rfl⟩;exact⟨i,i,by rw [hes,if_pos (by omega)],rfl,by rw [Cn hp];exact stg⟩
       ·skip
        have d1:decide ((c:Int)≤57)=false:=decide_eq_false (by omega);(conv=>whnf);rw [d1];clear d1;by_cases hq30:97≤c
        ·skip
         have d1:decide ((c:Int)≥97)=true:=decide_eq_true (by omega);(conv=>whnf);rw [d1];clear d1;by_cases hq31:c≤122
         ·skip
          have d1:decide ((c:Int)≤122)=true:=decide_eq_true (by omega);(conv=>whnf);rw [d1];clear d1;(conv=>whnf);refine VC.fa A9 ?_;refine ld1 (v:=.int .i64 ((i:Nat):Int)) ct3 (by rw [(stg.blk k hp).cell];rfl) trivial ?_;refine Ah.mk CX (fun _ _ h=>h.elim) ?_;rintro _ _ ⟨rfl,rfl⟩;exact⟨i,i,by rw [hes,if_pos (by omega)],rfl,by rw [Cn hp];exact stg⟩
         ·skip
          have d1:decide ((c:Int)≤122)=false:=decide_eq_false (by omega);(conv=>whnf);rw [d1];clear d1;have d1:decide ((c:Int)≥65)=true:=decide_eq_true (by omega);(conv=>whnf);rw [d1];clear d1;have d1:decide ((c:Int)≤90)=false:=decide_eq_false (by omega);(conv=>whnf);rw [d1];clear d1;(conv=>whnf);refine VC.fa A9 ?_;refine ld1 (v:=.int .i64 ((i:Nat):Int)) ct3 (by rw [(stg.blk k hp).cell];rfl) trivial ?_;(conv=>whnf);rw [w64 (x:=((i:Nat):Int)+1) (by omega) (by omega)];refine VC.fa A9 (AT stg k ct3 hp (by simp) rfl fun H4 st4=>?_);(conv=>whnf);exact⟨c,i+1,by rw [hes,if_neg (by omega)],rfl,st4⟩
        ·skip
         have d1:decide ((c:Int)≥97)=false:=decide_eq_false (by omega);(conv=>whnf);rw [d1];clear d1;by_cases hq40:65≤c
         ·skip
          have d1:decide ((c:Int)≥65)=true:=decide_eq_true (by omega);(conv=>whnf);rw [d1];clear d1;by_cases hq41:c≤90
          ·skip
           have d1:decide ((c:Int)≤90)=true:=decide_eq_true (by omega);(conv=>whnf);rw [d1];clear d1;(conv=>whnf);refine VC.fa A9 ?_;refine ld1 (v:=.int .i64 ((i:Nat):Int)) ct3 (by rw [(stg.blk k hp).cell];rfl) trivial ?_;refine Ah.mk CX (fun _ _ h=>h.elim) ?_;rintro _ _ ⟨rfl,rfl⟩;exact⟨i,i,by rw [hes,if_pos (by omega)],rfl,by rw [Cn hp];exact stg⟩
          ·skip
           have d1:decide ((c:Int)≤90)=false:=decide_eq_false (by omega);(conv=>whnf);rw [d1];clear d1;(conv=>whnf);refine VC.fa A9 ?_;refine ld1 (v:=.int .i64 ((i:Nat):Int)) ct3 (by rw [(stg.blk k hp).cell];rfl) trivial ?_;(conv=>whnf);rw [w64 (x:=((i:Nat):Int)+1) (by omega) (by omega)];refine VC.fa A9 (AT stg k ct3 hp (by simp) rfl fun H4 st4=>?_);(conv=>whnf);exact⟨c,i+1,by rw [hes,if_neg (by omega)],rfl,st4⟩
         ·skip
          have d1:decide ((c:Int)≥65)=false:=decide_eq_false (by omega);(conv=>whnf);rw [d1];clear d1;(conv=>whnf);refine VC.fa A9 ?_;refine ld1 (v:=.int .i64 ((i:Nat):Int)) ct3 (by rw [(stg.blk k hp).cell];rfl) trivial ?_;(conv=>whnf);rw [w64 (x:=((i:Nat):Int)+1) (by omega) (by omega)];refine VC.fa A9 (AT stg k ct3 hp (by simp) rfl fun H4 st4=>?_);(conv=>whnf);exact⟨c,i+1,by rw [hes,if_neg (by omega)],rfl,st4⟩
      ·skip
       have d1:decide ((c:Int)≥48)=false:=decide_eq_false (by omega);(conv=>whnf);rw [d1];clear d1;have d1:decide ((c:Int)≥97)=false:=decide_eq_false (by omega);(conv=>whnf);rw [d1];clear d1;have d1:decide ((c:Int)≥65)=false:=decide_eq_false (by omega);(conv=>whnf);rw [d1];clear d1;(conv=>whnf);refine VC.fa A9 ?_;refine ld1 (v:=.int .i64 ((i:Nat):Int)) ct3 (by rw [(stg.blk k hp).cell];rfl) trivial ?_;(conv=>whnf);rw [w64 (x:=((i:Nat):Int)+1) (by omega) (by omega)];refine VC.fa A9 (AT stg k ct3 hp (by simp) rfl fun H4 st4=>?_);(conv=>whnf);exact⟨c,i+1,by rw [hes,if_neg (by omega)],rfl,st4⟩
theorem Gw{B:Nat→Prop}{H0 H:Aa}{ps:List Pc}{k r i:Nat}{t s:ByteArray}(hE:Fx H0)(hEB:B 0)(ht:t.size≤1152921504606846976)(st:StB B H0 H ps)(hp:ps[k]? =some (pRd r t i)):
  BC Tryz.prog 242 #[.pointer (some ⟨r,0,none⟩),.string s] H (fun v H'=>∃c j:Nat,Bl t s i= .inr (c,j)∧v= .int .u8 (c:Int)∧StB B H0 H' (ps.set k (pRd r t j)))
   (fun x H'=>∃e j:Nat,Bl t s i= .inl e∧x=D5 10 e∧StB B H0 H' (ps.set k (pRd r t j))):=by
 refine BC.of_vc Tryz.func242 rfl (Tryz.call242 _) (Ah.of (Ao (Ho (st.blk k hp)) fun H1 ha1=>?_));have st1:=st.call ha1;by_cases h0:bt t i=256
 ·rw [if_pos h0,decide_eq_false (by omega)];refine AQ.run ?_;(conv=>whnf);refine VC.fa A9 ?_;refine ld1 (v:=.int .i64 ((i:Nat):Int)) ct3 (by rw [(st1.blk k hp).cell];rfl) trivial ?_;refine Ah.mk CX (fun _ _ h=>h.elim) ?_;rintro _ _ ⟨rfl,rfl⟩;exact⟨i,i,by unfold Bl;rw [h0,if_neg (by decide),if_pos (.inr (.inl (by decide)))],rfl,by rw [Cn hp];exact st1⟩
 have hi:=Dc h0;obtain⟨b,hb1,hb2,hb3⟩:=CI hi;rw [if_neg h0,decide_eq_true (by omega)];obtain⟨c,hc⟩:∃c,c=bt t i:=⟨_,rfl⟩;rw [←hc]at h0 hb3 ⊢;by_cases h92:c=92
 ·have d1:((c:Int)==(92:Int))=true:=by rw [h92];rfl
  have ho:Bl t s i=Ga t (i+1):=by unfold Bl;rw [←hc,if_pos h92]
  (conv=>whnf);rw [d1];refine VC.fa A9 ?_;refine ld1 (v:=.int .i64 ((i:Nat):Int)) ct3 (by rw [(st1.blk k hp).cell];rfl) trivial ?_;(conv=>whnf);rw [w64 (x:=((i:Nat):Int)+1) (by omega) (by omega)];refine VC.fa A9 (AT st1 k ct3 hp (by simp) rfl fun H4 st4=>?_);replace st4:StB B H0 H4 (ps.set k (pRd r t (i+1))):=st4;have hp4:(ps.set k (pRd r t (i+1)))[k]? =some (pRd r t (i+1)):=GE hp;refine Ah.mk (Ua hE hEB ht st4 hp4) ?_ ?_
  ·rintro _ H5 ⟨a,j,ha,rfl,st5⟩;rw [AaK]at st5;(conv=>whnf);exact⟨a,j,by rw [ho];exact ha,rfl,st5⟩
  ·rintro _ H5 ⟨e,j,ha,rfl,st5⟩;rw [AaK]at st5;exact⟨e,j,by rw [ho];exact ha,rfl,st5⟩
 have d0:((c:Int)==(92:Int))=false:=beq_eq_false_iff_ne.2 (by omega);have ho:Bl t s i=if c<32∨126<c∨spB s c=true then .inl i else .inr (c,i+1):=by unfold Bl;rw [←hc,if_neg h92]
 (conv=>whnf);rw [d0];refine AQ.run ?_;(conv=>whnf);by_cases hq00:c<32
 ·skip
  have d1:decide ((c:Int)<32)=true:=decide_eq_true (by omega);(conv=>whnf);rw [d1];clear d1;(conv=>whnf);refine VC.fa A9 ?_;refine ld1 (v:=.int .i64 ((i:Nat):Int)) ct3 (by rw [(st1.blk k hp).cell];rfl) trivial ?_;refine Ah.mk CX (fun _ _ h=>h.elim) ?_;rintro _ _ ⟨rfl,rfl⟩;exact⟨i,i,by rw [ho,if_pos (by omega)],rfl,by rw [Cn hp];exact st1⟩
 ·skip
  have d1:decide ((c:Int)<32)=false:=decide_eq_false (by omega);(conv=>whnf);rw [d1];clear d1;by_cases hq10:126<c
  ·skip
   have d1:decide ((c:Int)>126)=true:=decide_eq_true (by omega);(conv=>whnf);rw [d1];clear d1;(conv=>whnf);refine VC.fa A9 ?_;refine ld1 (v:=.int .i64 ((i:Nat):Int)) ct3 (by rw [(st1.blk k hp).cell];rfl) trivial ?_;refine Ah.mk CX (fun _ _ h=>h.elim) ?_;rintro _ _ ⟨rfl,rfl⟩;exact⟨i,i,by rw [ho,if_pos (by omega)],rfl,by rw [Cn hp];exact st1⟩
  ·skip
   have d1:decide ((c:Int)>126)=false:=decide_eq_false (by omega);(conv=>whnf);rw [d1];clear d1;refine Ah.of (Ao (Ns s c H1) fun H2 ha2=>?_);have st2:=st1.call ha2;(conv=>whnf);rw [WD];cases hsp:spB s c with
   | true=>
     (conv=>whnf);refine VC.fa A9 ?_;refine ld1 (v:=.int .i64 ((i:Nat):Int)) ct3 (by rw [(st2.blk k hp).cell];rfl) trivial ?_;refine Ah.mk CX (fun _ _ h=>h.elim) ?_;rintro _ _ ⟨rfl,rfl⟩;exact⟨i,i,by rw [ho,if_pos (.inr (.inr hsp))],rfl,by rw [Cn hp];exact st2⟩
   | false=>
     (conv=>whnf);refine VC.fa A9 ?_;refine ld1 (v:=.int .i64 ((i:Nat):Int)) ct3 (by rw [(st2.blk k hp).cell];rfl) trivial ?_;(conv=>whnf);rw [w64 (x:=((i:Nat):Int)+1) (by omega) (by omega)];refine VC.fa A9 (AT st2 k ct3 hp (by simp) rfl fun H4 st4=>?_);(conv=>whnf);exact⟨c,i+1,by rw [ho,if_neg (by rw [hsp];simp;omega)],rfl,st4⟩
end Go.Proofs.YtfbghcpdinlmcaaGreatDoor
