/- Parts of the proof: PBs2, PBs3, PBg2, PBg3, VPan, VDef, VList, PRd1, PPa1, PPa2, PPa3 -/
import Derived.Test.YtlnmhfhdjnenoaaGreatDoorKNv3
import Derived.Test.YtlnmhfhdjnenoaaGreatDoorKNv2
import Derived.Recover
import Derived.Test.YtlnmhfhdjnenoaaGreatDoorKNv1
set_option maxHeartbeats 64000000
open Array renaming replicate → UX, getElem?_eq_getElem → UZ, toList_map → Vv, map → Vy
open Bool renaming and_eq_true → Vb, not_eq_true' → Vk, or_eq_true → Vw
open List renaming length_append → UL, length_cons → UM, length_nil → UN, perm_append_singleton → UO, sublist_cons_self → UQ, getElem?_eq_some_iff → UR, replicate → UU, mem_append_left → UV, getElem?_append_right → UY, all_eq_true → Va, getElem?_set_ne → Vc, set_set → Ve, getElem?_set_self → Vf, mem_of_getElem? → Vh, pairwise_append → Vi, getD_eq_getElem?_getD → Vj, getElem?_append_left → Vl, getElem?_eq_getElem → Vm, take_of_length_le → Vo, set_append_right → Vp, mem_cons_of_mem → Vq, set_append_left → Vr, mem_cons_self → Vs, take_add_one → Vt, ext_getElem? → Vu, mapM_cons → Vx
open Nat renaming le_refl → UP, mul_add → US, mul_one → UT, lt_succ_self → UW, zero_add → Vd, le_add_right → Vg, sub_self → Vn
set_option linter.unusedVariables false
set_option linter.unusedSimpArgs false
set_option maxRecDepth 100000
namespace Go.Proofs.YtlnmhfhdjnenoaaGreatDoor
open Go.VC
def bdX(er:Int)(n:Nat)(v sub:Value):List Value:=[.int .i64 (n:Int),.int .i64 0,.int .i64 0,v,sub,.int .i64 er]
theorem Mi{p q:Nat}(hp:p≤4398046511104)(hq:q≤4398046511104)(s:Bool)(t:BitVec 256):(EdM.mk p q s t).Ok:=⟨BB (by omega),BB (by omega)⟩
section
variable{B:Nat→Prop}{H0 H:Aa}{rest:List Pc}{bb n:Nat}{v sub:Value}{er:Int}
theorem C5{K:Value→Aa→Prop}(st:StB B H0 H (pB tBd bb (bdX er n v sub)::rest))(hn:n≤4398046511104)(k:∀H',StB B H0 H' (pB tBd bb (bdX er (n+1) v sub)::rest)→K (.int .i64 (n:Int)) H'):
  Ai Tryz.prog 70 #[.pointer (some ⟨bb,0,none⟩)] H K:=by
 refine Ai.mk (R:=fun r H'=>r= .int .i64 (n:Int)∧StB B H0 H' (pB tBd bb (bdX er (n+1) v sub)::rest)) ?_ fun r H' ⟨h1,h2⟩=>by rw [h1];exact k H' h2
 refine Ao.of_vc Tryz.func70 rfl (Tryz.call70 _) (fa Bf (fa CN ?_));refine ld1 (v:=.int .i64 (n:Int)) ct3 (by rw [(st.blk 0 rfl).cell];rfl) trivial ?_;(conv=>whnf);rw [w64 (x:=(n:Int)+1) (by omega) (by omega)];refine fa Bf (fa CN (AG st 0 ct3 rfl (show 0<6 by decide) rfl fun H1 st1=>(fa Bf (fa CN ?_))));refine ld1 (v:=.int .i64 ((n:Int)+1)) ct3 (by rw [(st1.blk 0 rfl).cell];rfl) trivial ?_;(conv=>whnf);rw [w64 (x:=(n:Int)+1 - 1) (by omega) (by omega),show(n:Int)+1 - 1=(n:Int) by omega];(conv=>whnf);exact⟨rfl,st1⟩
theorem Bx{K:Value→Aa→Prop}{a:Option Addr}{c p q:Nat}{es:List EdM}(st:StB B H0 H (pB tBd bb (bdX er n (.slice a es.length c) sub)::pS tEd 104 a es.length c es::rest))(hp:p≤4398046511104)(hq:q≤4398046511104)(hl:es.length+1≤1099511627776)
  (k:∀a' c' H',StB B H0 H' (pB tBd bb (bdX er n (.slice a' (es++[AA p q]).length c') sub)::pS tEd 104 a' (es++[AA p q]).length c' (es++[AA p q])::rest)→K (.tuple #[]) H'):
  Ai Tryz.prog 71 #[.pointer (some ⟨bb,0,none⟩),.int .i64 (p:Int),.int .i64 (q:Int)] H K:=by
 refine Ai.mk (R:=fun r H'=>r= .tuple #[]∧∃a' c',StB B H0 H' (pB tBd bb (bdX er n (.slice a' (es++[AA p q]).length c') sub)::pS tEd 104 a' (es++[AA p q]).length c' (es++[AA p q])::rest)) ?_ fun r H' ⟨h1,a',c',h2⟩=>by rw [h1];exact k a' c' H' h2
 refine Ao.of_vc Tryz.func71 rfl (Tryz.call71 _) (fa Bf (fa CC ?_));refine ld1 (v:=.slice a es.length c) FI (by rw [(st.blk 0 rfl).cell];rfl) trivial ?_;refine KH p q (AM FB (edL (AA p q)) rfl rfl (by decide) (by decide) ?_);intro y H1 hy hs1 hb1 ha1;have st1:=st.skip hy ha1;refine Hp (ys:=[AA p q]) st1 1 FB rfl (hb1.cells (o:=0) (cs:=edL (AA p q)) fun j v hv=>by rw [Vd];exact hv) (Ty.reps_one ⟨rfl,Mi hp hq _ _⟩) rfl (fun u hu=>Va.1 (FJ _) u hu) (by unfold maxLen;simp;omega) (by simp;omega) fun a9 c9 H9 st9 _=>?_;refine fa Bf (fa CC (AG st9 0 FI rfl (show 3<6 by decide) rfl fun H10 st10=>?_));(conv=>whnf);have el:es.length+[AA p q].length=(es++[AA p q]).length:=by simp
 rw [el]at st10;exact⟨rfl,a9,c9,st10⟩
theorem PH{K:Value→Aa→Prop}{a:Option Addr}{c:Nat}{es:List EdM}{s:BitVec 256}(st:StB B H0 H (pB tBd bb (bdX er n (.slice a es.length c) sub)::pS tEd 104 a es.length c es::rest))(hn:n≤2199023255552)(hl:es.length+1≤1099511627776)
  (k:∀a' c' H',StB B H0 H' (pB tBd bb (bdX er (n+2) (.slice a' (es++[CJ n (n+1) s]).length c') sub)::pS tEd 104 a' (es++[CJ n (n+1) s]).length c' (es++[CJ n (n+1) s])::rest)→K (.tuple #[.int .i64 (n:Int),.int .i64 ((n+1:Nat):Int)]) H'):
  Ai Tryz.prog 72 #[.pointer (some ⟨bb,0,none⟩),BT s] H K:=by
 refine Ai.mk (R:=fun r H'=>r= .tuple #[.int .i64 (n:Int),.int .i64 ((n+1:Nat):Int)]∧∃a' c',StB B H0 H' (pB tBd bb (bdX er (n+2) (.slice a' (es++[CJ n (n+1) s]).length c') sub)::pS tEd 104 a' (es++[CJ n (n+1) s]).length c' (es++[CJ n (n+1) s])::rest)) ?_ fun r H' ⟨h1,a',c',h2⟩=>by rw [h1];exact k a' c' H' h2
 refine Ao.of_vc Tryz.func72 rfl (Tryz.call72 _) (BM (Ak s) rfl ?_);intro x H1 hx hs1 hb1 ha1;have st1:=(st.box hx hs1 hb1 ha1).perm (UO _ _);have st2:StB B H0 H1 (pB tBd bb (bdX er n (.slice a es.length c) sub)::pB 102 x (Ak s)::pS tEd 104 a es.length c es::rest):=st1.perm (List.Perm.swap _ _ _);refine C5 st2 (by omega) fun H3 st3=>(C5 st3 (by omega) fun H4 st4=>?_);have hdis:=st4.apart2 (i:=0) (j:=2) rfl rfl (by decide);have hdis2:=st4.apart2 (i:=1) (j:=2) rfl rfl (by decide);refine As.heldZ (fun k=>k<H4.size∧¬slB (.slice a es.length c) k) [15] (sq [0,1,2,3,4,5,6,7,8,9] (.f 10 (.f 11 (sq [12,13,14] (.f 15 .e))))) rfl (by kernel_rfl) ?_;have hb4:bb<H4.size∧¬slB (.slice a es.length c) bb:=⟨(st4.in_ 0 rfl rfl).2,fun h=>hdis bb rfl (.inl h)⟩;have hx4:x<H4.size∧¬slB (.slice a es.length c) x:=⟨(st4.in_ 1 rfl rfl).2,fun h=>hdis2 x rfl (.inl h)⟩;refine fa Bf (fa CC ?_);refine ld1 (v:=.slice a es.length c) FI (by rw [(st4.blk 0 rfl).cell];rfl) hb4 ?_;refine ldN (cs:=Ak s) B0 ((st4.blk 1 rfl).cells fun j v hv=>by rw [Vd];exact hv) hx4 ?_;refine KF n (n+1) s (AM FB (edL (CJ n (n+1) s)) rfl rfl (by decide) (by decide) ?_);intro y H5 hy hs5 hb5 ha5;have st5:=st4.skip hy ha5;refine⟨ha5.mono fun k hk=>by have:=hk.1;omega,?_⟩;refine Hp (ys:=[CJ n (n+1) s]) st5 2 FB rfl (hb5.cells (o:=0) (cs:=edL (CJ n (n+1) s)) fun j v hv=>by rw [Vd];exact hv) (Ty.reps_one ⟨rfl,Mi (by omega) (by omega) _ _⟩) rfl (fun u hu=>Va.1 (FJ _) u hu) (by unfold maxLen;simp;omega) (by simp;omega) fun a9 c9 H9 st9 ha9=>?_;refine⟨(ha5.mono fun k hk=>by have:=hk.1;omega).trans (ha9.mono fun k hk=>⟨by have:=hk.1;omega,hk.2⟩),?_⟩;refine fa Bf (fa CC (AG st9 0 FI rfl (show 3<6 by decide) rfl fun H10 st10=>?_));(conv=>whnf);have el:es.length+[CJ n (n+1) s].length=(es++[CJ n (n+1) s]).length:=by simp
 rw [el]at st10;exact⟨rfl,a9,c9,(st10.perm (List.Perm.swap _ _ _)).sub (UQ _ _)⟩
end
abbrev bdQ(bb:Nat)(er:Int)(n:Nat)(sub:Value)(a:Option Addr)(c:Nat)(es:List EdM)(rest:List Pc):List Pc:=pB tBd bb (bdX er n (.slice a es.length c) sub)::pS tEd 104 a es.length c es::rest
theorem R7:(Tryz.prog.info? 166).bind (·.zero)=some (.agg #[.nilIface,.nilIface]):=rfl
theorem R8:(Tryz.prog.info? 167).bind (·.zero)=some (.agg #[.nilIface,.nilIface]):=rfl
theorem Tg{P:Program}{t:TypeId}{d:TypeDesc}{f:Fn}{first cap:Array Value}(h:P.underlying t=some d)(hd:∀w:World,∀k:Nat,(Op.equalIn (k+1) t (.func f first cap) .nilFunc).run P w= .ok false w)(w:World):(Op.equal t (.func f first cap) .nilFunc).run P w= .ok false w:=hd w 9999
theorem U4{P:Program}{t:TypeId}{x:Operand}{c:Value}{d:TypeDesc}{f:Fn}{first cap:Array Value}{S:Nat→Prop}{H:Aa}{K:Value→Prop}(h:P.underlying t=some d)(hd:∀w:World,∀k:Nat,(Op.equalIn (k+1) t (.func f first cap) .nilFunc).run P w= .ok false w)(k:K (.bool false)):AB P (do eqGuard .eql t x (.const c) (.func f first cap) .nilFunc;binOp .eql t (.func f first cap) .nilFunc) S H K:=by
 refine AB.mk _ (fun w _=>?_) k;simp [eqGuard,binOp,Tg h hd]
theorem NV{e:EdM}{n:Int}:edL (shE n e)=if e.sil then [.int .i64 (e.fr+n),.int .i64 (e.to+n),.bool true,.int .u64 0,.int .u64 0,.int .u64 0,.int .u64 0]else [.int .i64 (e.fr+n),.int .i64 (e.to+n),.bool false]++Ak e.set:=by
 have h:∀i,wd 0#256 i=0:=fun i=>by unfold wd;simp
 unfold shE edL;cases e.sil with
 | true=>simp [h]
 | false=>simp [Ak]
theorem JM{B:Nat→Prop}{H0 H:Aa}{rest:List Pc}{bb n c:Nat}{a:Option Addr}{es:List EdM}{er:Int}{subv:Value}{r:ReM}(he:er≠0)(st:StB B H0 H (bdQ bb er n subv a c es rest)):
  Ao Tryz.prog 44 #[.pointer (some ⟨bb,0,none⟩),Ad r] H fun v H'=>v= .tuple #[.int .i64 ((0:Nat):Int),.int .i64 ((0:Nat):Int)]∧StB B H0 H' (bdQ bb er n subv a c es rest):=by
 refine Ao.of_vc Tryz.func44 rfl (Tryz.call44 _) (fa BE ?_);refine ld1 (v:=.int .i64 er) FH (by rw [(st.blk 0 rfl).cell];rfl) trivial ?_;have d1:(er != 0)=true:=bne_iff_ne.2 he;(conv=>whnf);rw [d1];(conv=>whnf);exact⟨rfl,st⟩
def Rc{σ γ:Type}(B:Nat→Prop)(H0:Aa)(E:Nat)(ps:List Pc)(P:σ→γ→List Pc)(x:σ×Except Int NfM)(v:Value)(H':Aa):Prop:=match x.2 with
 | .ok a=>a.edges.length≤E∧a.Rng∧∃ea ec,v= .tuple #[.agg (nfL a (.slice ea a.edges.length ec)).toArray,.int .i64 0]∧∃g,StB B H0 H' (ps++P x.1 g++[pS tEd 104 ea a.edges.length ec a.edges])
 | .error e=>∃l:List Value,v= .tuple #[.agg l.toArray,.int .i64 e]∧l.length=4∧l.all (·.oneCell')=true∧∃g,StB B H0 H' (ps++P x.1 g)
def Pz{σ γ:Type}(B:Nat→Prop)(H0:Aa)(E:Nat)(bb n N:Nat)(es:List EdM)(sub:Value)(ps:List Pc)(P:σ→γ→List Pc)(x:σ×Except Int BR)(v:Value)(H':Aa):Prop:=match x.2 with
 | .ok A=>∃a' c',v= .tuple #[.int .i64 (A.p:Int),.int .i64 (A.q:Int)]∧∃g,StB B H0 H' (bdQ bb 0 (n+A.u) sub a' c' (es++A.es) (ps++P x.1 g))
 | .error e=>e≠0∧∃(p q n':Nat) (a':Option Addr) (c':Nat) (es':List EdM),v= .tuple #[.int .i64 (p:Int),.int .i64 (q:Int)]∧p≤n'∧q≤n'∧n≤n'∧n'≤n+65536*N∧es'.length≤es.length+(E+4)*N∧∃g,StB B H0 H' (bdQ bb e n' sub a' c' es' (ps++P x.1 g))
theorem QJ{σ γ:Type}{B:Nat→Prop}{H0 H:Aa}{ps:List Pc}{P:σ→γ→List Pc}{g:γ}{s:σ}{sub:ReM→σ→σ×Except Int NfM}{E:Nat}(hE:P4 sub E)(hE2:E≤33554432){bb n c:Nat}{a0:Option Addr}{es:List EdM}{f:FuncId}{first cap:Array Value}{r:ReM}
  (st:StB B H0 H (bdQ bb 0 n (.func (.func f) first cap) a0 c es (ps++P s g))) (hn:n≤1099511627776) (hl:es.length+E≤1099511627776)
  (hsub:∀{ps':List Pc} {H':Aa},StB B H0 H' (ps'++P s g)→Ao Tryz.prog f (first.toList++[Ad r]++cap.toList).toArray H' (Rc B H0 E ps' P (sub r s))):
  Ao Tryz.prog 73 #[.pointer (some ⟨bb,0,none⟩),Ad r] H (Pz B H0 E bb n 1 es (.func (.func f) first cap) ps P (E8 (sub r s) n)):=by
 refine Ao.of_vc Tryz.func73 rfl (Tryz.call73 _) (fa NZ ?_);refine ld1 (v:=.func (.func f) first cap) TN (by rw [(st.blk 0 rfl).cell];rfl) trivial ?_;refine U4 Tryz.underlying39 (fun w k=>by simp [Op.equalIn,run_underlying Tryz.underlying39]) (fa NZ ?_);refine ld1 (v:=.func (.func f) first cap) TN (by rw [(st.blk 0 rfl).cell];rfl) trivial ?_;have hcall:=hsub (ps':=bdQ bb 0 n (.func (.func f) first cap) a0 c es ps) st;obtain⟨s1,res,hx⟩:∃s1 res,sub r s=(s1,res):=⟨_,_,rfl⟩;rw [hx]at hcall ⊢;refine Ai.mk hcall ?_;rintro v H1 hv;cases res with
 | error e=>
   have he:=hE.err _ _ _ _ hx;obtain⟨l,rfl,hll,hlo,g1,st1⟩:=hv;replace st1:StB B H0 H1 (bdQ bb 0 n (.func (.func f) first cap) a0 c es (ps++P s1 g1)):=st1;refine Ag _ [.int .i64 0,.int .i64 0,.int .i64 0,.slice none 0 0] E5 rfl ?_;intro x H2 hx2 hs2 hb2 ha2;have st2:=(st1.box hx2 hs2 hb2 ha2).perm (UO _ _);refine Ay (cs:=l) st2 0 (by rw [hll];rfl) rfl (by rw [hll];decide) hlo fun H3 st3=>?_;replace st3:=st3.sub (UQ _ _);have d1:(e != 0)=true:=bne_iff_ne.2 he;(conv=>whnf);rw [d1];refine fa BE (AG st3 0 FH rfl (show 5<6 by decide) rfl fun H4 st4=>?_);(conv=>whnf);exact⟨he,0,0,n,a0,c,es,rfl,by omega,by omega,by omega,by omega,by omega,g1,st4⟩
 | ok a=>
   obtain⟨hal,hrng,ea,ec,rfl,g1,st1⟩:=hv;have hal2:a.edges.length≤33554432:=by omega
   replace st1:StB B H0 H1 (pS tEd 104 ea a.edges.length ec a.edges::bdQ bb 0 n (.func (.func f) first cap) a0 c es (ps++P s1 g1)):=StB.perm st1 (UO _ (bdQ bb 0 n (.func (.func f) first cap) a0 c es (ps++P s1 g1)));refine Ag _ [.int .i64 0,.int .i64 0,.int .i64 0,.slice none 0 0] E5 rfl ?_;intro x H2 hx2 hs2 hb2 ha2;have st2:=(st1.box hx2 hs2 hb2 ha2).perm (UO _ _);refine Ay (cs:=nfL a (.slice ea a.edges.length ec)) st2 0 rfl rfl (UP _) rfl fun H3 st3=>?_;rw [Ae (show(nfL a (.slice ea a.edges.length ec)).length=4 from rfl)]at st3;replace st3:StB B H0 H3 (pB 37 x (nfL a (.slice ea a.edges.length ec))::pS tEd 104 ea a.edges.length ec a.edges::bdQ bb 0 n (.func (.func f) first cap) a0 c es (ps++P s1 g1)):=st3;clear st1 st2;have stop:∀(G:Aa) (K:Aa→Prop),Bh a=false→StB B H0 G (pB 37 x (nfL a (.slice ea a.edges.length ec))::pS tEd 104 ea a.edges.length ec a.edges::bdQ bb 0 n (.func (.func f) first cap) a0 c es (ps++P s1 g1))→
     (∀G',Pz B H0 E bb n 1 es (.func (.func f) first cap) ps P (E8 (s1,.ok a) n) (.tuple #[.int .i64 0,.int .i64 0]) G'→K G')→CP Tryz.prog (Instr.storeAt 25 (.pointer (some ⟨bb,0+5,none⟩)) (.int .i64 2)) G K:=fun G K hw sg k=>
    AG sg 2 FH rfl (show 5<6 by decide) rfl fun G' sg'=>k G' (by
     have e1:E8 (s1,(.ok a:Except Int NfM)) n=(s1,.error 2):=by unfold E8 Cv;simp [hw]
     rw [e1];exact⟨by decide,0,0,n,a0,c,es,rfl,by omega,by omega,by omega,by omega,by omega,g1,sg'.sub (List.Sublist.cons _ (UQ _ _))⟩)
   refine Dh hrng hal2 (st3.blk 0 rfl) Ek trivial (st3.view 1 rfl) fun v4 hv4=>(fa Gs ?_);refine ld1 (v:=.int .i64 a.start) ct3 (by rw [(st3.blk 0 rfl).cell];rfl) trivial ?_;refine Af (JH hv4) fun H4 ha4=>?_;have st4:=st3.call ha4;cases hs:a.has a.start with
   | false=>
     have hw:Bh a=false:=by unfold Bh;simp [hs]
     refine fa BE (stop _ _ hw st4 fun G' hG=>?_);(conv=>whnf);exact hG
   | true=>
   refine Dh hrng hal2 (st4.blk 0 rfl) Ek trivial (st4.view 1 rfl) fun v5 hv5=>(fa Gt ?_);refine ld1 (v:=.int .i64 a.fin) ct3 (by rw [(st4.blk 0 rfl).cell];rfl) trivial ?_;refine Af (JH hv5) fun H5 ha5=>?_;have st5:=st4.call ha5;cases hf:a.has a.fin with
   | false=>
     have hw:Bh a=false:=by unfold Bh;simp [hf]
     refine fa BE (stop _ _ hw st5 fun G' hG=>?_);(conv=>whnf);exact hG
   | true=>
   refine fa CC ?_;refine ld1 (v:=.slice ea a.edges.length ec) FI (by rw [(st5.blk 0 rfl).cell];rfl) trivial ?_;(conv=>whnf);refine AH.mk [54] (fun k:Nat=>[.int .i64 (k:Int)]) (fun k G=>k≤a.edges.length∧(∀e∈a.edges.take k,a.has e.fr=true∧a.has e.to=true)∧StB B H0 G (pB 37 x (nfL a (.slice ea a.edges.length ec))::pS tEd 104 ea a.edges.length ec a.edges::bdQ bb 0 n (.func (.func f) first cap) a0 c es (ps++P s1 g1))) (fun k _=>a.edges.length - k) ?_ ?_
   ·(conv=>whnf);exact⟨0,rfl,Nat.zero_le _,(fun e he=>by simp at he),st5⟩
   ·rintro k G junk ⟨hk,hall,sg⟩;refine AQ.mk (fun hz=>?_) (fun hz=>?_)<;>simp only [decide_eq_true_eq,decide_eq_false_iff_not]at hz
    ·obtain⟨e,he⟩:∃e,a.edges[k]? =some e:=⟨_,Vm (by omega)⟩;have hem:e∈a.edges:=Vh he;(conv=>whnf);try (refine Al.run ?_)
     refine ixO (j:=k) (x:=e) FB sg 1 rfl he rfl fun b9 o9 cs9 hO9 hc9 hr9=>?_;obtain⟨rfl,hok⟩:=hr9;refine ldN (cs:=edL e) ID hc9 trivial (Ag _ [.int .i64 0,.int .i64 0,.bool false,.int .u64 0,.int .u64 0,.int .u64 0,.int .u64 0] Fv rfl ?_);intro y G1 hy hs1 hb1 ha1;have sg1:=(sg.box hy hs1 hb1 ha1).perm (UO _ _);refine Ay (cs:=edL e) sg1 0 rfl rfl (UP _) rfl fun G2 sg2=>?_;rw [Ae (show(edL e).length=7 from rfl)]at sg2;replace sg2:StB B H0 G2 (pB 104 y (edL e)::pB 37 x (nfL a (.slice ea a.edges.length ec))::pS tEd 104 ea a.edges.length ec a.edges::bdQ bb 0 n (.func (.func f) first cap) a0 c es (ps++P s1 g1)):=sg2;(conv=>whnf);try (refine Al.run ?_)
     refine Dh hrng hal2 (sg2.blk 1 rfl) Ek trivial (sg2.view 2 rfl) fun v6 hv6=>(fa Fi ?_);refine ld1 (v:=.int .i64 e.fr) ct3 (by rw [(sg2.blk 0 rfl).cell];rfl) trivial ?_;refine Af (JH hv6) fun G3 hg3=>?_;have sg3:=sg2.call hg3;have nw:a.has e.fr=false∨a.has e.to=false→Bh a=false:=fun h=>by
      cases hw:Bh a with
      | false=>rfl
      | true=>
        have:=(Dc.1 hw).2.2 e hem;rw [this.1,this.2]at h;rcases h with h | h<;>cases h
     cases h1:a.has e.fr with
     | false=>
       refine fa BE (stop _ _ (nw (.inl h1)) (sg3.sub (UQ _ _)) fun G' hG=>?_);(conv=>whnf);exact hG
     | true=>
     refine Dh hrng hal2 (sg3.blk 1 rfl) Ek trivial (sg3.view 2 rfl) fun v7 hv7=>(fa Fj ?_);refine ld1 (v:=.int .i64 e.to) ct3 (by rw [(sg3.blk 0 rfl).cell];rfl) trivial ?_;refine Af (JH hv7) fun G4 hg4=>?_;have sg4:=sg3.call hg4;cases h2:a.has e.to with
     | false=>
       refine fa BE (stop _ _ (nw (.inr h2)) (sg4.sub (UQ _ _)) fun G' hG=>?_);(conv=>whnf);exact hG
     | true=>
     (conv=>whnf);rw [w64 (x:=(k:Int)+1) (by omega) (by omega)];refine⟨rfl,k+1,rfl,⟨by omega,fun e' he'=>?_,sg4.sub (UQ _ _)⟩,by omega⟩;rw [Vt,he]at he';rcases List.mem_append.1 he' with he' | he'
     ·exact hall e' he'
     ·rw [show e'=e by simpa using he'];exact⟨h1,h2⟩
    ·obtain rfl:k=a.edges.length:=by omega
     rw [Vo (UP _)]at hall;have hw:Bh a=true:=Dc.2 ⟨hs,hf,hall⟩;have hst:=NfM.has_iff.1 hs;have hfi:=NfM.has_iff.1 hf;obtain⟨u,hu⟩:∃u:Nat,a.st=(u:Int):=⟨a.st.toNat,by omega⟩;obtain⟨s0,hs0⟩:∃u:Nat,a.start=(u:Int):=⟨a.start.toNat,by omega⟩;obtain⟨f0,hf0⟩:∃u:Nat,a.fin=(u:Int):=⟨a.fin.toNat,by omega⟩;refine fa Bf (fa CN ?_);refine ld1 (v:=.int .i64 (n:Int)) ct3 (by rw [(sg.blk 2 rfl).cell];rfl) trivial ?_;refine As.heldZ (fun k=>k=bb∨k=x) [11] (sq [0,1,2,3,4,5,6,7,8,9,10] (.f 11 .e)) rfl (by kernel_rfl) (fa Bf (fa CN ?_));refine ld1 (v:=.int .i64 (n:Int)) ct3 (by rw [(sg.blk 2 rfl).cell];rfl) (.inl rfl) ?_;refine fa CN ?_;refine ld1 (v:=.int .i64 (u:Int)) ct3 (by rw [(sg.blk 0 rfl).cell,←hu];rfl) (.inr rfl) ?_;(conv=>whnf);rw [w64 (x:=(n:Int)+(u:Int)) (by omega) (by omega),show(n:Int)+(u:Int)=((n+u:Nat):Int) by omega];refine fa Bf (fa CN (AG sg 2 ct3 rfl (show 0<6 by decide) rfl fun H7 st7=>?_));replace st7:StB B H0 H7 (pB 37 x (nfL a (.slice ea a.edges.length ec))::pS tEd 104 ea a.edges.length ec a.edges::bdQ bb 0 (n+u) (.func (.func f) first cap) a0 c es (ps++P s1 g1)):=st7;clear st3 st4 st5 sg;refine fa CC ?_;refine ld1 (v:=.slice ea a.edges.length ec) FI (by rw [(st7.blk 0 rfl).cell];rfl) trivial ?_;(conv=>whnf);refine AH.mk [93] (fun k:Nat=>[.int .i64 (k:Int)]) (fun k G=>k≤a.edges.length∧∃a' c',StB B H0 G (pB 37 x (nfL a (.slice ea a.edges.length ec))::pS tEd 104 ea a.edges.length ec a.edges::bdQ bb 0 (n+u) (.func (.func f) first cap) a' c' (es++(a.edges.take k).map (shE n)) (ps++P s1 g1))) (fun k _=>a.edges.length - k) ?_ ?_
     ·(conv=>whnf);refine⟨0,rfl,Nat.zero_le _,a0,c,?_⟩;rw [List.take_zero,List.map_nil,List.append_nil];exact st7
     ·rintro k G junk ⟨hk,a',c',sg⟩;clear st7;refine AQ.mk (fun hz=>?_) (fun hz=>?_)<;>simp only [decide_eq_true_eq,decide_eq_false_iff_not]at hz
      ·obtain⟨e,he⟩:∃e,a.edges[k]? =some e:=⟨_,Vm (by omega)⟩;have hem:e∈a.edges:=Vh he;have hfr:=NfM.has_iff.1 (hall e hem).1;have hto:=NfM.has_iff.1 (hall e hem).2;have hesl:(es++(a.edges.take k).map (shE n)).length=es.length+k:=by simp;omega
       refine ixO (j:=k) (x:=e) FB sg 1 rfl he rfl fun b9 o9 cs9 hO9 hc9 hr9=>?_;obtain⟨rfl,hok⟩:=hr9;refine ldN (cs:=edL e) ID hc9 trivial (Ag _ [.int .i64 0,.int .i64 0,.bool false,.int .u64 0,.int .u64 0,.int .u64 0,.int .u64 0] Fv rfl ?_);intro y G1 hy hs1 hb1 ha1;have sg1:=(sg.box hy hs1 hb1 ha1).perm (UO _ _);refine Ay (cs:=edL e) sg1 0 rfl rfl (UP _) rfl fun G2 sg2=>?_;rw [Ae (show(edL e).length=7 from rfl)]at sg2;replace sg2:StB B H0 G2 (pB 104 y (edL e)::pB 37 x (nfL a (.slice ea a.edges.length ec))::pS tEd 104 ea a.edges.length ec a.edges::bdQ bb 0 (n+u) (.func (.func f) first cap) a' c' (es++(a.edges.take k).map (shE n)) (ps++P s1 g1)):=sg2;refine fa Fi ?_;refine ld1 (v:=.int .i64 e.fr) ct3 (by rw [(sg2.blk 0 rfl).cell];rfl) trivial ?_;(conv=>whnf);rw [w64 (x:=e.fr+(n:Int)) (by omega) (by omega)];refine fa Fi (AG sg2 0 ct3 rfl (show 0<7 by decide) rfl fun G3 sg3=>(fa Fj ?_));refine ld1 (v:=.int .i64 e.to) ct3 (by rw [(sg3.blk 0 rfl).cell];rfl) trivial ?_;(conv=>whnf);rw [w64 (x:=e.to+(n:Int)) (by omega) (by omega)];refine fa Fj (AG sg3 0 ct3 rfl (show 1<7 by decide) rfl fun G4 sg4=>?_);replace sg4:StB B H0 G4 (pB 104 y ([.int .i64 (e.fr+n),.int .i64 (e.to+n),.bool e.sil]++Ak e.set)::pB 37 x (nfL a (.slice ea a.edges.length ec))::pS tEd 104 ea a.edges.length ec a.edges::bdQ bb 0 (n+u) (.func (.func f) first cap) a' c' (es++(a.edges.take k).map (shE n)) (ps++P s1 g1)):=sg4;(conv=>whnf);refine Al.cut (α:=Unit) [] (fun _=>[]) (fun _ G=>StB B H0 G (pB 104 y (edL (shE n e))::pB 37 x (nfL a (.slice ea a.edges.length ec))::pS tEd 104 ea a.edges.length ec a.edges::bdQ bb 0 (n+u) (.func (.func f) first cap) a' c' (es++(a.edges.take k).map (shE n)) (ps++P s1 g1))) ?_ ?_
       ·refine fa HX ?_;refine ld1 (v:=.bool e.sil) ct4 (by rw [(sg4.blk 0 rfl).cell];rfl) trivial ?_;cases hsil:e.sil with
        | true=>
          refine CR Dm (BT 0) rfl [.int .u64 0,.int .u64 0,.int .u64 0,.int .u64 0] rfl (fa Jh ?_);refine Ay (cs:=[.int .u64 0,.int .u64 0,.int .u64 0,.int .u64 0]) sg4 0 rfl rfl (by show 3+4≤7;decide) rfl fun G5 sg5=>?_;(conv=>whnf);refine⟨rfl,(),rfl,?_⟩;rw [NV,hsil,if_pos rfl];rw [hsil]at sg5;exact sg5
        | false=>
          (conv=>whnf);refine⟨rfl,(),rfl,?_⟩;rw [NV,hsil];rw [hsil]at sg4;exact sg4
       ·rintro⟨⟩ G5 junk5 sg5;clear sg sg1 sg2 sg3 sg4;have hdis:=sg5.apart2 (i:=3) (j:=4) rfl rfl (by decide);have hdis2:=sg5.apart2 (i:=0) (j:=4) rfl rfl (by decide);have hb5:bb<G5.size∧¬slB (.slice a' (es++(a.edges.take k).map (shE n)).length c') bb:=⟨(sg5.in_ 3 rfl rfl).2,fun h=>hdis bb rfl (.inl h)⟩;have hy5:y<G5.size∧¬slB (.slice a' (es++(a.edges.take k).map (shE n)).length c') y:=⟨(sg5.in_ 0 rfl rfl).2,fun h=>hdis2 y rfl (.inl h)⟩;refine As.heldZ (fun k2=>k2<G5.size∧¬slB (.slice a' (es++(a.edges.take k).map (shE n)).length c') k2) [12] (sq [0,1,2,3,4,5,6] (.f 7 (.f 8 (sq [9,10,11] (.f 12 .e))))) rfl (by kernel_rfl) (fa Bf (fa CC ?_));refine ld1 (v:=.slice a' (es++(a.edges.take k).map (shE n)).length c') FI (by rw [(sg5.blk 3 rfl).cell];rfl) hb5 ?_;refine ldN (cs:=edL (shE n e)) ID ((sg5.blk 0 rfl).cells fun j v hv=>by rw [Vd];exact hv) hy5 ?_;refine AM FB (edL (shE n e)) rfl rfl (by decide) (by decide) ?_;intro z G6 hz6 hs6 hb6 ha6;have sg6:=sg5.skip hz6 ha6;refine⟨ha6.mono fun k hk=>by have:=hk.1;omega,?_⟩;refine Hp (ys:=[shE n e]) sg6 4 FB rfl (hb6.cells (o:=0) (cs:=edL (shE n e)) fun j v hv=>by rw [Vd];exact hv) (Ty.reps_one ⟨rfl,show(shE n e).Ok from⟨⟨by show(-9223372036854775808:Int)≤e.fr+(n:Int);omega,by show e.fr+(n:Int)≤(9223372036854775807:Int);omega⟩,⟨by show(-9223372036854775808:Int)≤e.to+(n:Int);omega,by show e.to+(n:Int)≤(9223372036854775807:Int);omega⟩⟩⟩) rfl (fun u hu=>Va.1 (FJ _) u hu) (by unfold maxLen;simp;omega) (by rw [hesl];simp;omega) fun a9 c9 G9 sg9 ha9=>?_;refine⟨(ha6.mono fun k hk=>by have:=hk.1;omega).trans (ha9.mono fun k hk=>⟨by have:=hk.1;omega,hk.2⟩),?_⟩;refine fa Bf (fa CC (AG sg9 3 FI rfl (show 3<6 by decide) rfl fun G10 sg10=>?_));have hnx:(es++(a.edges.take k).map (shE n))++[shE n e]=es++(a.edges.take (k+1)).map (shE n):=by rw [Vt,he];simp
        have el:(es++(a.edges.take k).map (shE n)).length+[shE n e].length=(es++(a.edges.take (k+1)).map (shE n)).length:=by rw [←hnx];simp;omega
        rw [el,hnx]at sg10;(conv=>whnf);rw [w64 (x:=(k:Int)+1) (by omega) (by omega)];exact⟨rfl,k+1,rfl,⟨by omega,a9,c9,sg10.sub (UQ _ _)⟩,by omega⟩
      ·obtain rfl:k=a.edges.length:=by omega
       rw [Vo (UP _)]at sg;refine As.lex rfl (by kernel_rfl) (fa Gs ?_);refine ld1 (v:=.int .i64 (s0:Int)) ct3 (by rw [(sg.blk 0 rfl).cell,←hs0];rfl) trivial ?_;(conv=>whnf);rw [w64 (x:=(s0:Int)+(n:Int)) (by omega) (by omega)];refine fa Gt ?_;refine ld1 (v:=.int .i64 (f0:Int)) ct3 (by rw [(sg.blk 0 rfl).cell,←hf0];rfl) trivial ?_;(conv=>whnf);rw [w64 (x:=(f0:Int)+(n:Int)) (by omega) (by omega)];(conv=>whnf);have e1:E8 (s1,(.ok a:Except Int NfM)) n=(s1,.ok ⟨n+s0,n+f0,u,a.edges.map (shE n)⟩):=by unfold E8 Cv;simp [hw,hs0,hf0,hu]
       rw [e1];exact⟨a',c',by rw [show(s0:Int)+(n:Int)=((n+s0:Nat):Int) by omega,show(f0:Int)+(n:Int)=((n+f0:Nat):Int) by omega],g1,sg.sub (List.Sublist.cons _ (UQ _ _))⟩
theorem EO{σ α β:Type}{m:σ→Nat}{k:Nat}{x:σ×Except Int α}{f:α→σ→σ×Except Int β}{y:σ×Except Int β}(h:Cv x f=y)(hk:m x.1≤k)(hf:∀a s,x=(s,.ok a)→m (f a s).1≤k):m y.1≤k:=by
 subst h;obtain⟨s,r⟩:=x;cases r with
 | error e=>exact hk
 | ok a=>exact hf a s rfl
theorem EH{σ:Type}{sub:ReM→σ→σ×Except Int NfM}{m:σ→Nat}(hmm:∀r s,m (sub r s).1≤m s+1):∀(r:ReM) (n:Nat) (s:σ),m (Ba sub r n s).1≤m s+r.nodes
 | .eps,n,s=>Vg _ _
 | .cls t,n,s=>Vg _ _
 | .cat a b,n,s=>by
   have ha:=EH hmm a;have hb:=EH hmm b;refine EO (x:=Ba sub a n s) rfl ?_ fun A s1 h1=>?_
   ·have:=ha n s;simp only [ReM.nodes];omega
   ·have:=ha n s;rw [h1]at this;dsimp only at this;refine EO (x:=Ba sub b (n+A.u) s1) rfl ?_ fun C s2 h2=>?_
    ·have:=hb (n+A.u) s1;simp only [ReM.nodes];omega
    ·have:=hb (n+A.u) s1;rw [h2]at this;dsimp only at this;simp only [ReM.nodes];omega
 | .alt a b,n,s=>by
   have ha:=EH hmm a;have hb:=EH hmm b;refine EO (x:=Ba sub a (n+1) s) rfl ?_ fun A s1 h1=>?_
   ·have:=ha (n+1) s;simp only [ReM.nodes];omega
   ·have:=ha (n+1) s;rw [h1]at this;dsimp only at this;refine EO (x:=Ba sub b (n+1+A.u) s1) rfl ?_ fun C s2 h2=>?_
    ·have:=hb (n+1+A.u) s1;simp only [ReM.nodes];omega
    ·have:=hb (n+1+A.u) s1;rw [h2]at this;dsimp only at this;simp only [ReM.nodes];omega
 | .star a,n,s=>by
   have ha:=EH hmm a;refine EO (x:=Ba sub a (n+1) s) rfl ?_ fun A s1 h1=>?_
   ·have:=ha (n+1) s;simp only [ReM.nodes];omega
   ·have:=ha (n+1) s;rw [h1]at this;dsimp only at this;simp only [ReM.nodes];omega
 | .and_ a b,n,s=>by
   have:=hmm (.and_ a b) s;refine EO (x:=sub (.and_ a b) s) rfl ?_ fun A s1 h1=>?_
   ·simp only [ReM.nodes];omega
   ·rw [h1]at this;dsimp only at this;split<;>(simp only [ReM.nodes];omega)
 | .minus a b,n,s=>by
   have:=hmm (.minus a b) s;refine EO (x:=sub (.minus a b) s) rfl ?_ fun A s1 h1=>?_
   ·simp only [ReM.nodes];omega
   ·rw [h1]at this;dsimp only at this;split<;>(simp only [ReM.nodes];omega)
theorem GG{σ:Type}{sub:ReM→σ→σ×Except Int NfM}{m:σ→Nat}(hmm:∀r s,m (sub r s).1≤m s+1){r:ReM}{n:Nat}{s s':σ}{x:Except Int BR}(h:Ba sub r n s=(s',x)):m s'≤m s+r.nodes:=by
 have:=EH hmm r n s;rwa [h]at this
theorem RA{σ γ:Type}{B:Nat→Prop}{H0:Aa}{P:σ→γ→List Pc}{sub:ReM→σ→σ×Except Int NfM}{E N:Nat}{m:σ→Nat}{M:Nat}(hmm:∀r s,m (sub r s).1≤m s+1)(hE:P4 sub E)(hE2:E≤33554432){bb:Nat}{f:FuncId}{first cap:Array Value}
  (hsub:∀(r:ReM),Nm r=true→r.nodes≤N→∀(s:σ) (g:γ),m s<M→∀{ps':List Pc} {H':Aa},StB B H0 H' (ps'++P s g)→Ao Tryz.prog f (first.toList++[Ad r]++cap.toList).toArray H' (Rc B H0 E ps' P (sub r s))):
  ∀(r:ReM),r.nodes≤N→∀{H:Aa} {ps:List Pc} {n c:Nat} {a:Option Addr} {es:List EdM} {s:σ} {g:γ} (st:StB B H0 H (bdQ bb 0 n (.func (.func f) first cap) a c es (ps++P s g))),m s+r.nodes≤M→n+65536*r.nodes≤1099511627776→es.length+(E+4)*r.nodes≤1099511627776→
  Ao Tryz.prog 44 #[.pointer (some ⟨bb,0,none⟩),Ad r] H (Pz B H0 E bb n r.nodes es (.func (.func f) first cap) ps P (Ba sub r n s)):=fun r=>by
 induction r with
 | eps=>
   intro hN H ps n c a es s g st hms hn hl;generalize hxF:Ba sub .eps n s=xF;refine Ao.of_vc Tryz.func44 rfl (Tryz.call44 _) (fa BE ?_);refine ld1 (v:=.int .i64 0) FH (by rw [(st.blk 0 rfl).cell];rfl) trivial ?_;simp only [ReM.nodes,US,UT]at hn hl hN hms;refine BX Tryz.underlying127 (by intro ms h;cases h) ?_;refine Ag (.agg #[]) [] rfl rfl ?_;intro x H1 hx hs1 hb1 ha1;have st1:StB B H0 H1 (pB 127 x []::bdQ bb 0 n (.func (.func f) first cap) a c es (ps++P s g)):=(st.box hx hs1 hb1 ha1).perm (UO _ _);refine Ay (cs:=[]) st1 0 rfl rfl (UP _) rfl fun H2 st2=>?_;have st3:StB B H0 H2 (bdQ bb 0 n (.func (.func f) first cap) a c es (ps++P s g)):=st2.sub (UQ _ _);refine C5 st3 (by omega) fun H4 st4=>(C5 st4 (by omega) fun H5 st5=>(Bx st5 (by omega) (by omega) (by omega) fun a' c' H6 st6=>?_));(conv=>whnf);subst hxF;exact⟨a',c',rfl,g,st6⟩
 | cls t=>
   intro hN H ps n c a es s g st hms hn hl;generalize hxF:Ba sub (.cls t) n s=xF;refine Ao.of_vc Tryz.func44 rfl (Tryz.call44 _) (fa BE ?_);refine ld1 (v:=.int .i64 0) FH (by rw [(st.blk 0 rfl).cell];rfl) trivial ?_;simp only [ReM.nodes,US,UT]at hn hl hN hms;refine AE Tryz.underlying127 (by intro ms h;cases h) Cr (by decide) ?_;refine BX Tryz.underlying130 (by intro ms h;cases h) ?_;refine Ag _ [.int .u64 0,.int .u64 0,.int .u64 0,.int .u64 0] Ci rfl ?_;intro x H1 hx hs1 hb1 ha1;have st1:StB B H0 H1 (pB 130 x [.int .u64 0,.int .u64 0,.int .u64 0,.int .u64 0]::bdQ bb 0 n (.func (.func f) first cap) a c es (ps++P s g)):=(st.box hx hs1 hb1 ha1).perm (UO _ _);refine Ay (cs:=Ak t) st1 0 rfl rfl (UP _) rfl fun H2 st2=>?_;rw [Ae (show(Ak t).length=4 from rfl)]at st2;refine fa Lf (ldN (cs:=Ak t) B0 ((st2.blk 0 rfl).cells fun j v hv=>by simpa using hv) trivial ?_);have st3:StB B H0 H2 (bdQ bb 0 n (.func (.func f) first cap) a c es (ps++P s g)):=st2.sub (UQ _ _);refine PH st3 (by omega) (by omega) fun a' c' H4 st4=>?_;(conv=>whnf);subst hxF;exact⟨a',c',rfl,g,st4⟩
 | cat r1 r2 ih1 ih2=>
   intro hN H ps n c a es s g st hms hn hl;generalize hxF:Ba sub (.cat r1 r2) n s=xF;refine Ao.of_vc Tryz.func44 rfl (Tryz.call44 _) (fa BE ?_);refine ld1 (v:=.int .i64 0) FH (by rw [(st.blk 0 rfl).cell];rfl) trivial ?_;simp only [ReM.nodes,US,UT]at hn hl hN hms;refine AE Tryz.underlying127 (by intro ms h;cases h) Cr (by decide) ?_;refine AE Tryz.underlying130 (by intro ms h;cases h) Ci (by decide) ?_;refine BX Tryz.underlying132 (by intro ms h;cases h) ?_;refine Ag _ [.nilIface,.nilIface] DF rfl ?_;intro x H1 hx hs1 hb1 ha1;have st1:StB B H0 H1 (pB 132 x [.nilIface,.nilIface]::bdQ bb 0 n (.func (.func f) first cap) a c es (ps++P s g)):=(st.box hx hs1 hb1 ha1).perm (UO _ _);refine Ay (cs:=[Ad r1,Ad r2]) st1 0 rfl rfl (UP _) (by simp [Cn]) fun H2 st2=>?_;rw [Ae (show([Ad r1,Ad r2]).length=([.nilIface,.nilIface]:List Value).length from rfl)]at st2;have st3:StB B H0 H2 (bdQ bb 0 n (.func (.func f) first cap) a c es ((pB 132 x [Ad r1,Ad r2]::ps)++P s g)):=st2.pickN 3 [1,2,0] (by decide);refine fa Jk ?_;refine ld1 (v:=Ad r1) C8 (by rw [(st3.blk 2 rfl).cell];rfl) trivial ?_;obtain⟨s4,x4,hx4⟩:∃s1 res,Ba sub r1 (n) s=(s1,res):=⟨_,_,rfl⟩;have hm4:=GG hmm hx4;have hc4:=ih1 (by omega) (s:=s) st3 (by omega) (by omega) (by(try simp only [UL,UM,UN]);omega);rw [hx4]at hc4;refine Ai.mk hc4 ?_;rintro v4 G4 hv4;cases x4 with
   | error e4=>
     obtain⟨he4,p4,q4,n4,a4,c4,es4,rfl,hp4,hq4,hn4,hm4,hl4,g4,sg4⟩:=hv4;replace sg4:StB B H0 G4 (bdQ bb e4 n4 (.func (.func f) first cap) a4 c4 es4 ((pB 132 x [Ad r1,Ad r2]::ps)++P s4 g4)):=sg4
     try simp only [UL,UM,UN]at hl4
     refine fa HY ?_;refine ld1 (v:=Ad r2) C8 (by rw [(sg4.blk 2 rfl).cell];rfl) trivial ?_;refine Ai.mk (JM (r:=r2) he4 sg4) ?_;rintro _ G5 ⟨rfl,sg5⟩;refine Bx sg5 (by omega) (by omega) (by(try simp only [UL,UM,UN]);omega) fun b6 d6 H6 st6=>?_;(conv=>whnf);obtain rfl:xF=(s4,.error e4):=by rw [←hxF];simp only [Ba];rw [CW hx4]
     exact⟨he4,p4,0,n4,b6,d6,(es4++[AA q4 0]),rfl,by omega,by omega,by omega,by simp only [ReM.nodes];omega,by simp only [ReM.nodes,US,UT,UL,UM,UN];omega,g4,st6.pickN 3 [0,1] (by decide)⟩
   | ok A4=>
     obtain⟨a4,c4,rfl,g4,sg4⟩:=hv4;have hi4:=C7 hE _ _ _ _ _ hx4;replace sg4:StB B H0 G4 (bdQ bb 0 (n+A4.u) (.func (.func f) first cap) a4 c4 (es++A4.es) ((pB 132 x [Ad r1,Ad r2]::ps)++P s4 g4)):=sg4;refine fa HY ?_;refine ld1 (v:=Ad r2) C8 (by rw [(sg4.blk 2 rfl).cell];rfl) trivial ?_;obtain⟨s5,x5,hx5⟩:∃s1 res,Ba sub r2 (n+A4.u) s4=(s1,res):=⟨_,_,rfl⟩;have hm5:=GG hmm hx5;have hc5:=ih2 (by omega) (s:=s4) sg4 (by omega) (by omega) (by(try simp only [UL,UM,UN]);omega);rw [hx5]at hc5;refine Ai.mk hc5 ?_;rintro v5 G5 hv5;cases x5 with
     | error e5=>
       obtain⟨he5,p5,q5,n5,a5,c5,es5,rfl,hp5,hq5,hn5,hm5,hl5,g5,sg5⟩:=hv5;replace sg5:StB B H0 G5 (bdQ bb e5 n5 (.func (.func f) first cap) a5 c5 es5 ((pB 132 x [Ad r1,Ad r2]::ps)++P s5 g5)):=sg5
       try simp only [UL,UM,UN]at hl5
       refine Bx sg5 (by omega) (by omega) (by(try simp only [UL,UM,UN]);omega) fun b6 d6 H6 st6=>?_;(conv=>whnf);obtain rfl:xF=(s5,.error e5):=by rw [←hxF];simp only [Ba];rw [BY hx4,CW hx5]
       exact⟨he5,A4.p,q5,n5,b6,d6,(es5++[AA A4.q p5]),rfl,by omega,by omega,by omega,by simp only [ReM.nodes];omega,by simp only [ReM.nodes,US,UT,UL,UM,UN];omega,g5,st6.pickN 3 [0,1] (by decide)⟩
     | ok A5=>
       obtain⟨a5,c5,rfl,g5,sg5⟩:=hv5;have hi5:=C7 hE _ _ _ _ _ hx5;replace sg5:StB B H0 G5 (bdQ bb 0 (n+A4.u+A5.u) (.func (.func f) first cap) a5 c5 (es++A4.es++A5.es) ((pB 132 x [Ad r1,Ad r2]::ps)++P s5 g5)):=sg5;refine Bx sg5 (by omega) (by omega) (by(try simp only [UL,UM,UN]);omega) fun b6 d6 H6 st6=>?_;(conv=>whnf);obtain rfl:xF=(s5,.ok ⟨A4.p,A5.q,A4.u+A5.u,A4.es++A5.es++[AA A4.q A5.p]⟩):=by rw [←hxF];simp only [Ba];rw [BY hx4,BY hx5]
       have st7:=st6.pickN 3 [0,1] (by decide);rw [Nat.add_assoc n A4.u A5.u]at st7;have ee:es++A4.es++A5.es++[AA A4.q A5.p]=es++(A4.es++A5.es++[AA A4.q A5.p]):=by simp
       rw [ee]at st7;exact⟨b6,d6,rfl,g5,st7⟩
 | alt r1 r2 ih1 ih2=>
   intro hN H ps n c a es s g st hms hn hl;generalize hxF:Ba sub (.alt r1 r2) n s=xF;refine Ao.of_vc Tryz.func44 rfl (Tryz.call44 _) (fa BE ?_);refine ld1 (v:=.int .i64 0) FH (by rw [(st.blk 0 rfl).cell];rfl) trivial ?_;simp only [ReM.nodes,US,UT]at hn hl hN hms;refine AE Tryz.underlying127 (by intro ms h;cases h) Cr (by decide) ?_;refine AE Tryz.underlying130 (by intro ms h;cases h) Ci (by decide) ?_;refine AE Tryz.underlying132 (by intro ms h;cases h) DF (by decide) ?_;refine BX Tryz.underlying163 (by intro ms h;cases h) ?_;refine Ag _ [.nilIface,.nilIface] DG rfl ?_;intro x H1 hx hs1 hb1 ha1;have st1:StB B H0 H1 (pB 163 x [.nilIface,.nilIface]::bdQ bb 0 n (.func (.func f) first cap) a c es (ps++P s g)):=(st.box hx hs1 hb1 ha1).perm (UO _ _);refine Ay (cs:=[Ad r1,Ad r2]) st1 0 rfl rfl (UP _) (by simp [Cn]) fun H2 st2=>?_;rw [Ae (show([Ad r1,Ad r2]).length=([.nilIface,.nilIface]:List Value).length from rfl)]at st2;have st3:StB B H0 H2 (bdQ bb 0 n (.func (.func f) first cap) a c es ((pB 163 x [Ad r1,Ad r2]::ps)++P s g)):=st2.pickN 3 [1,2,0] (by decide);refine C5 st3 (by omega) fun H4 st4=>(fa Jl ?_);refine ld1 (v:=Ad r1) C8 (by rw [(st4.blk 2 rfl).cell];rfl) trivial ?_;obtain⟨s5,x5,hx5⟩:∃s1 res,Ba sub r1 (n+1) s=(s1,res):=⟨_,_,rfl⟩;have hm5:=GG hmm hx5;have hc5:=ih1 (by omega) (s:=s) st4 (by omega) (by omega) (by(try simp only [UL,UM,UN]);omega);rw [hx5]at hc5;refine Ai.mk hc5 ?_;rintro v5 G5 hv5;cases x5 with
   | error e5=>
     obtain⟨he5,p5,q5,n5,a5,c5,es5,rfl,hp5,hq5,hn5,hm5,hl5,g5,sg5⟩:=hv5;replace sg5:StB B H0 G5 (bdQ bb e5 n5 (.func (.func f) first cap) a5 c5 es5 ((pB 163 x [Ad r1,Ad r2]::ps)++P s5 g5)):=sg5
     try simp only [UL,UM,UN]at hl5
     refine fa HZ ?_;refine ld1 (v:=Ad r2) C8 (by rw [(sg5.blk 2 rfl).cell];rfl) trivial ?_;refine Ai.mk (JM (r:=r2) he5 sg5) ?_;rintro _ G6 ⟨rfl,sg6⟩;refine C5 sg6 (by omega) fun H7 st7=>?_;refine Bx st7 (by omega) (by omega) (by(try simp only [UL,UM,UN]);omega) fun b8 d8 H8 st8=>?_;refine Bx st8 (by omega) (by omega) (by(try simp only [UL,UM,UN]);omega) fun b9 d9 H9 st9=>?_;refine Bx st9 (by omega) (by omega) (by(try simp only [UL,UM,UN]);omega) fun b10 d10 H10 st10=>?_;refine Bx st10 (by omega) (by omega) (by(try simp only [UL,UM,UN]);omega) fun b11 d11 H11 st11=>?_;(conv=>whnf);obtain rfl:xF=(s5,.error e5):=by rw [←hxF];simp only [Ba];rw [CW hx5]
     exact⟨he5,n,n5,(n5+1),b11,d11,_,rfl,by omega,by omega,by omega,by simp only [ReM.nodes];omega,by simp only [ReM.nodes,US,UT,UL,UM,UN];omega,g5,st11.pickN 3 [0,1] (by decide)⟩
   | ok A5=>
     obtain⟨a5,c5,rfl,g5,sg5⟩:=hv5;have hi5:=C7 hE _ _ _ _ _ hx5;replace sg5:StB B H0 G5 (bdQ bb 0 (n+1+A5.u) (.func (.func f) first cap) a5 c5 (es++A5.es) ((pB 163 x [Ad r1,Ad r2]::ps)++P s5 g5)):=sg5;refine fa HZ ?_;refine ld1 (v:=Ad r2) C8 (by rw [(sg5.blk 2 rfl).cell];rfl) trivial ?_;obtain⟨s6,x6,hx6⟩:∃s1 res,Ba sub r2 (n+1+A5.u) s5=(s1,res):=⟨_,_,rfl⟩;have hm6:=GG hmm hx6;have hc6:=ih2 (by omega) (s:=s5) sg5 (by omega) (by omega) (by(try simp only [UL,UM,UN]);omega);rw [hx6]at hc6;refine Ai.mk hc6 ?_;rintro v6 G6 hv6;cases x6 with
     | error e6=>
       obtain⟨he6,p6,q6,n6,a6,c6,es6,rfl,hp6,hq6,hn6,hm6,hl6,g6,sg6⟩:=hv6;replace sg6:StB B H0 G6 (bdQ bb e6 n6 (.func (.func f) first cap) a6 c6 es6 ((pB 163 x [Ad r1,Ad r2]::ps)++P s6 g6)):=sg6
       try simp only [UL,UM,UN]at hl6
       refine C5 sg6 (by omega) fun H7 st7=>?_;refine Bx st7 (by omega) (by omega) (by(try simp only [UL,UM,UN]);omega) fun b8 d8 H8 st8=>?_;refine Bx st8 (by omega) (by omega) (by(try simp only [UL,UM,UN]);omega) fun b9 d9 H9 st9=>?_;refine Bx st9 (by omega) (by omega) (by(try simp only [UL,UM,UN]);omega) fun b10 d10 H10 st10=>?_;refine Bx st10 (by omega) (by omega) (by(try simp only [UL,UM,UN]);omega) fun b11 d11 H11 st11=>?_;(conv=>whnf);obtain rfl:xF=(s6,.error e6):=by rw [←hxF];simp only [Ba];rw [BY hx5,CW hx6]
       exact⟨he6,n,n6,(n6+1),b11,d11,_,rfl,by omega,by omega,by omega,by simp only [ReM.nodes];omega,by simp only [ReM.nodes,US,UT,UL,UM,UN];omega,g6,st11.pickN 3 [0,1] (by decide)⟩
     | ok A6=>
       obtain⟨a6,c6,rfl,g6,sg6⟩:=hv6;have hi6:=C7 hE _ _ _ _ _ hx6;replace sg6:StB B H0 G6 (bdQ bb 0 (n+1+A5.u+A6.u) (.func (.func f) first cap) a6 c6 (es++A5.es++A6.es) ((pB 163 x [Ad r1,Ad r2]::ps)++P s6 g6)):=sg6;refine C5 sg6 (by omega) fun H7 st7=>?_;refine Bx st7 (by omega) (by omega) (by(try simp only [UL,UM,UN]);omega) fun b8 d8 H8 st8=>?_;refine Bx st8 (by omega) (by omega) (by(try simp only [UL,UM,UN]);omega) fun b9 d9 H9 st9=>?_;refine Bx st9 (by omega) (by omega) (by(try simp only [UL,UM,UN]);omega) fun b10 d10 H10 st10=>?_;refine Bx st10 (by omega) (by omega) (by(try simp only [UL,UM,UN]);omega) fun b11 d11 H11 st11=>?_;(conv=>whnf);obtain rfl:xF=(s6,.ok ⟨n,n+1+A5.u+A6.u,A5.u+A6.u+2,A5.es++A6.es++[AA n A5.p,AA n A6.p,AA A5.q (n+1+A5.u+A6.u),AA A6.q (n+1+A5.u+A6.u)]⟩):=by rw [←hxF];simp only [Ba];rw [BY hx5,BY hx6]
       have st12:=st11.pickN 3 [0,1] (by decide);have en:n+1+A5.u+A6.u+1=n+(A5.u+A6.u+2):=by omega
       have ee:es++A5.es++A6.es++[AA n A5.p]++[AA n A6.p]++[AA A5.q (n+1+A5.u+A6.u)]++[AA A6.q (n+1+A5.u+A6.u)]=es++(A5.es++A6.es++[AA n A5.p,AA n A6.p,AA A5.q (n+1+A5.u+A6.u),AA A6.q (n+1+A5.u+A6.u)]):=by simp
       rw [en,ee]at st12;exact⟨b11,d11,rfl,g6,st12⟩
 | star r1 ih1=>
   intro hN H ps n c a es s g st hms hn hl;generalize hxF:Ba sub (.star r1) n s=xF;refine Ao.of_vc Tryz.func44 rfl (Tryz.call44 _) (fa BE ?_);refine ld1 (v:=.int .i64 0) FH (by rw [(st.blk 0 rfl).cell];rfl) trivial ?_;simp only [ReM.nodes,US,UT]at hn hl hN hms;refine AE Tryz.underlying127 (by intro ms h;cases h) Cr (by decide) ?_;refine AE Tryz.underlying130 (by intro ms h;cases h) Ci (by decide) ?_;refine AE Tryz.underlying132 (by intro ms h;cases h) DF (by decide) ?_;refine AE Tryz.underlying163 (by intro ms h;cases h) DG (by decide) ?_;refine BX Tryz.underlying165 (by intro ms h;cases h) ?_;refine Ag _ [.nilIface] Ii rfl ?_;intro x H1 hx hs1 hb1 ha1;have st1:StB B H0 H1 (pB 165 x [.nilIface]::bdQ bb 0 n (.func (.func f) first cap) a c es (ps++P s g)):=(st.box hx hs1 hb1 ha1).perm (UO _ _);refine Ay (cs:=[Ad r1]) st1 0 rfl rfl (UP _) (by simp [Cn]) fun H2 st2=>?_;rw [Ae (show([Ad r1]).length=([.nilIface]:List Value).length from rfl)]at st2;have st3:StB B H0 H2 (bdQ bb 0 n (.func (.func f) first cap) a c es ((pB 165 x [Ad r1]::ps)++P s g)):=st2.pickN 3 [1,2,0] (by decide);refine C5 st3 (by omega) fun H4 st4=>(fa Jm ?_);refine ld1 (v:=Ad r1) C8 (by rw [(st4.blk 2 rfl).cell];rfl) trivial ?_;obtain⟨s5,x5,hx5⟩:∃s1 res,Ba sub r1 (n+1) s=(s1,res):=⟨_,_,rfl⟩;have hm5:=GG hmm hx5;have hc5:=ih1 (by omega) (s:=s) st4 (by omega) (by omega) (by(try simp only [UL,UM,UN]);omega);rw [hx5]at hc5;refine Ai.mk hc5 ?_;rintro v5 G5 hv5;cases x5 with
   | error e5=>
     obtain⟨he5,p5,q5,n5,a5,c5,es5,rfl,hp5,hq5,hn5,hm5,hl5,g5,sg5⟩:=hv5;replace sg5:StB B H0 G5 (bdQ bb e5 n5 (.func (.func f) first cap) a5 c5 es5 ((pB 165 x [Ad r1]::ps)++P s5 g5)):=sg5
     try simp only [UL,UM,UN]at hl5
     refine C5 sg5 (by omega) fun H7 st7=>?_;refine Bx st7 (by omega) (by omega) (by(try simp only [UL,UM,UN]);omega) fun b8 d8 H8 st8=>?_;refine Bx st8 (by omega) (by omega) (by(try simp only [UL,UM,UN]);omega) fun b9 d9 H9 st9=>?_;refine Bx st9 (by omega) (by omega) (by(try simp only [UL,UM,UN]);omega) fun b10 d10 H10 st10=>?_;refine Bx st10 (by omega) (by omega) (by(try simp only [UL,UM,UN]);omega) fun b11 d11 H11 st11=>?_;(conv=>whnf);obtain rfl:xF=(s5,.error e5):=by rw [←hxF];simp only [Ba];rw [CW hx5]
     exact⟨he5,n,n5,(n5+1),b11,d11,_,rfl,by omega,by omega,by omega,by simp only [ReM.nodes];omega,by simp only [ReM.nodes,US,UT,UL,UM,UN];omega,g5,st11.pickN 3 [0,1] (by decide)⟩
   | ok A5=>
     obtain⟨a5,c5,rfl,g5,sg5⟩:=hv5;have hi5:=C7 hE _ _ _ _ _ hx5;replace sg5:StB B H0 G5 (bdQ bb 0 (n+1+A5.u) (.func (.func f) first cap) a5 c5 (es++A5.es) ((pB 165 x [Ad r1]::ps)++P s5 g5)):=sg5;refine C5 sg5 (by omega) fun H7 st7=>?_;refine Bx st7 (by omega) (by omega) (by(try simp only [UL,UM,UN]);omega) fun b8 d8 H8 st8=>?_;refine Bx st8 (by omega) (by omega) (by(try simp only [UL,UM,UN]);omega) fun b9 d9 H9 st9=>?_;refine Bx st9 (by omega) (by omega) (by(try simp only [UL,UM,UN]);omega) fun b10 d10 H10 st10=>?_;refine Bx st10 (by omega) (by omega) (by(try simp only [UL,UM,UN]);omega) fun b11 d11 H11 st11=>?_;(conv=>whnf);obtain rfl:xF=(s5,.ok ⟨n,n+1+A5.u,A5.u+2,A5.es++[AA n A5.p,AA n (n+1+A5.u),AA A5.q A5.p,AA A5.q (n+1+A5.u)]⟩):=by rw [←hxF];simp only [Ba];rw [BY hx5]
     have st12:=st11.pickN 3 [0,1] (by decide);have en:n+1+A5.u+1=n+(A5.u+2):=by omega
     have ee:es++A5.es++[AA n A5.p]++[AA n (n+1+A5.u)]++[AA A5.q A5.p]++[AA A5.q (n+1+A5.u)]=es++(A5.es++[AA n A5.p,AA n (n+1+A5.u),AA A5.q A5.p,AA A5.q (n+1+A5.u)]):=by simp
     rw [en,ee]at st12;exact⟨b11,d11,rfl,g5,st12⟩
 | and_ r1 r2 ih1 ih2=>
   intro hN H ps n c a es s g st hms hn hl;generalize hxF:Ba sub (.and_ r1 r2) n s=xF;refine Ao.of_vc Tryz.func44 rfl (Tryz.call44 _) (fa BE ?_);refine ld1 (v:=.int .i64 0) FH (by rw [(st.blk 0 rfl).cell];rfl) trivial ?_;simp only [ReM.nodes,US,UT]at hn hl hN hms;refine AE Tryz.underlying127 (by intro ms h;cases h) Cr (by decide) ?_;refine AE Tryz.underlying130 (by intro ms h;cases h) Ci (by decide) ?_;refine AE Tryz.underlying132 (by intro ms h;cases h) DF (by decide) ?_;refine AE Tryz.underlying163 (by intro ms h;cases h) DG (by decide) ?_;refine AE Tryz.underlying165 (by intro ms h;cases h) Ii (by decide) ?_;refine BX Tryz.underlying166 (by intro ms h;cases h) ?_;refine AE Tryz.underlying167 (by intro ms h;cases h) R8 (by decide) ?_;obtain⟨s4,x4,hx4⟩:∃s1 res,E8 (sub (.and_ r1 r2) s) n=(s1,res):=⟨_,_,rfl⟩;have hc4:=QJ (r:=.and_ r1 r2) hE hE2 st (by omega) (by omega) (hsub (.and_ r1 r2) rfl (by simp only [ReM.nodes];omega) s g (by omega));rw [hx4]at hc4;refine Ai.mk hc4 ?_;rintro v4 G4 hv4;obtain rfl:xF=(s4,x4):=by rw [←hxF,←hx4];rfl
   cases x4 with
   | error e4=>
     obtain⟨he4,p4,q4,n4,a4,c4,es4,rfl,hp4,hq4,hn4,hm4,hl4,g4,sg4⟩:=hv4;(conv=>whnf);exact⟨he4,p4,q4,n4,a4,c4,es4,rfl,hp4,hq4,hn4,by simp only [ReM.nodes];omega,by simp only [ReM.nodes,US,UT];omega,g4,sg4⟩
   | ok A4=>
     obtain⟨a4,c4,rfl,g4,sg4⟩:=hv4;(conv=>whnf);exact⟨a4,c4,rfl,g4,sg4⟩
 | minus r1 r2 ih1 ih2=>
   intro hN H ps n c a es s g st hms hn hl;generalize hxF:Ba sub (.minus r1 r2) n s=xF;refine Ao.of_vc Tryz.func44 rfl (Tryz.call44 _) (fa BE ?_);refine ld1 (v:=.int .i64 0) FH (by rw [(st.blk 0 rfl).cell];rfl) trivial ?_;simp only [ReM.nodes,US,UT]at hn hl hN hms;refine AE Tryz.underlying127 (by intro ms h;cases h) Cr (by decide) ?_;refine AE Tryz.underlying130 (by intro ms h;cases h) Ci (by decide) ?_;refine AE Tryz.underlying132 (by intro ms h;cases h) DF (by decide) ?_;refine AE Tryz.underlying163 (by intro ms h;cases h) DG (by decide) ?_;refine AE Tryz.underlying165 (by intro ms h;cases h) Ii (by decide) ?_;refine AE Tryz.underlying166 (by intro ms h;cases h) R7 (by decide) ?_;refine BX Tryz.underlying167 (by intro ms h;cases h) ?_;obtain⟨s4,x4,hx4⟩:∃s1 res,E8 (sub (.minus r1 r2) s) n=(s1,res):=⟨_,_,rfl⟩;have hc4:=QJ (r:=.minus r1 r2) hE hE2 st (by omega) (by omega) (hsub (.minus r1 r2) rfl (by simp only [ReM.nodes];omega) s g (by omega));rw [hx4]at hc4;refine Ai.mk hc4 ?_;rintro v4 G4 hv4;obtain rfl:xF=(s4,x4):=by rw [←hxF,←hx4];rfl
   cases x4 with
   | error e4=>
     obtain⟨he4,p4,q4,n4,a4,c4,es4,rfl,hp4,hq4,hn4,hm4,hl4,g4,sg4⟩:=hv4;(conv=>whnf);exact⟨he4,p4,q4,n4,a4,c4,es4,rfl,hp4,hq4,hn4,by simp only [ReM.nodes];omega,by simp only [ReM.nodes,US,UT];omega,g4,sg4⟩
   | ok A4=>
     obtain⟨a4,c4,rfl,g4,sg4⟩:=hv4;(conv=>whnf);exact⟨a4,c4,rfl,g4,sg4⟩
end Go.Proofs.YtlnmhfhdjnenoaaGreatDoor
namespace Go.VC
abbrev pe(x:Value):List PanicEntry:=[{v:=x,recovered:=false}]
def NK(R E:Value→Aa→Prop):Ending→Aa→Prop
 | .returned v,H=>R v H
 | .panicked c,H=>∃x,c=pe x∧E x H
 | .outgrown,_=>False
theorem NK.mono{R R' E E':Value→Aa→Prop}{e:Ending}{H:Aa}(h:NK R E e H)(hr:∀v H,R v H→R' v H)(he:∀v H,E v H→E' v H):NK R' E' e H:=by
 cases e with
 | returned v=>exact hr v H h
 | panicked c=>obtain⟨x,h1,h2⟩:=h;exact⟨x,h1,he x H h2⟩
 | outgrown=>exact h
def BA(P:Program)(f:FuncId)(args:Array Value)(H:Aa)(R E:Value→Aa→Prop):Prop:=
 ∀w:World,w.heap=H→(callFunc f args).run P w= .ok (.enter f args) w∧Calls P f args w fun e w'=>Env w w'∧NK R E e w'.heap
theorem BA.mono{P:Program}{f:FuncId}{args:Array Value}{H:Aa}{R R' E E':Value→Aa→Prop}(h:BA P f args H R E)(hr:∀v H,R v H→R' v H)(he:∀v H,E v H→E' v H):BA P f args H R' E':=fun w hw=>
 ⟨(h w hw).1,(h w hw).2.mono fun e w' ⟨h1,h2⟩=>⟨h1,h2.mono hr he⟩⟩
theorem Ao.pan{P:Program}{f:FuncId}{args:Array Value}{H:Aa}{R E:Value→Aa→Prop}(h:Ao P f args H R):BA P f args H R E:=fun w hw=>
 ⟨(h w hw).1,(h w hw).2.mono fun e w' ⟨v,he,h1,h2⟩=>by subst he;exact⟨h1,h2⟩⟩
structure Ah(P:Program)(f:FuncId)(args:Array Value)(H:Aa)(K E:Value→Aa→Prop):Prop where
 in_::
 out_:BA P f args H K E
theorem Ah.mk{P:Program}{f:FuncId}{args:Array Value}{H:Aa}{K R E E':Value→Aa→Prop}(h:BA P f args H R E')(k:∀v H',R v H'→K v H')(e:∀v H',E' v H'→E v H'):Ah P f args H K E:=
 ⟨h.mono k e⟩
theorem Ah.of{P:Program}{f:FuncId}{args:Array Value}{H:Aa}{K E:Value→Aa→Prop}(h:Ai P f args H K):Ah P f args H K E:=⟨h.out_.pan⟩
structure AtX(ds:List Deferred)(fr:Fr)(a:Act):Prop where
 tmps:a.tmps.toList=fr
 defers:a.defers=ds
theorem AtX.at_{fr:Fr}{a:Act}(h:AtX [] fr a):At fr a:=⟨h.tmps,h.defers⟩
theorem AtX.bare{ds:List Deferred}{fr:Fr}{a:Act}(h:AtX ds fr a):At fr {tmps:=a.tmps,defers:=[]}:=⟨h.tmps,rfl⟩
theorem AtX.evalF{ds:List Deferred}{fr:Fr}{a:Act}(h:AtX ds fr a):a.eval=evF fr:=by
 rw [←h.bare.evalF];funext x;cases x<;>rfl
theorem AtX.put{ds:List Deferred}{fr:Fr}{a:Act}(h:AtX ds fr a)(dst:Option Tmp)(v:Value):AtX ds (match dst with | none=>fr | some d=>fr.set d v) (a.put dst v):=by
 obtain⟨rfl,h2⟩:=h;cases dst with
 | none=>exact⟨rfl,h2⟩
 | some d=>exact⟨by simp [Act.put],h2⟩
theorem RE{a:Act}{dst:Option Tmp}{v v':Value}(h:({tmps:=a.tmps,defers:=[]}:Act).put dst v=({tmps:=a.tmps,defers:=[]}:Act).put dst v'):a.put dst v=a.put dst v':=by
 cases dst with
 | none=>rfl
 | some d=>
   have:=congrArg Act.tmps h;simp only [Act.put]at this ⊢;rw [this]
def Py(P:Program)(o:Oper)(a:Act)(w:World)(K E:Value→Aa→Prop):Prop:=
 ∀Q:Exit→Act→World→Prop,(∀x w',Env w w'→E x w'.heap→Q (.panic (pe x)) a w')→o.wp P a w (fun a' w'=>∃v,a'=a.put o.dst v∧Env w w'∧K v w'.heap) Q
theorem Ta{P:Program}{o:Oper}{a:Act}{w:World}{K E:Value→Aa→Prop}(h:LO P o {tmps:=a.tmps,defers:=[]} w K):Py P o a w K E:=by
 intro Q _;have h1:=h (fun e _ w=>Q e a w);unfold Oper.wp at h1 ⊢;have ev:({tmps:=a.tmps,defers:=[]}:Act).eval=a.eval:=by funext x;cases x<;>rfl
 rw [ev]at h1;revert h1;generalize (execOp a.eval o).run P w=r;intro h1;cases r with
 | ok nx w'=>
   cases nx with
   | value v=>
     obtain⟨v',e,h2,h3⟩:=h1;exact⟨v',RE e,h2,h3⟩
   | skip=>
     obtain⟨v',e,h2,h3⟩:=h1;exact⟨v',RE e,h2,h3⟩
   | defer d=>
     obtain⟨v',e,h2,h3⟩:=h1;have:=congrArg Act.defers e;cases hdst:o.dst<;>rw [hdst]at this<;>simp [Act.put]at this
   | enter f args=>
     refine Calls.mono h1 ?_;intro e w'' h2;cases e with
     | returned v=>
       obtain⟨v',e,h3,h4⟩:=h2;exact⟨v',RE e,h3,h4⟩
     | panicked c=>exact h2
     | outgrown=>obtain⟨_,w,h3⟩:=h2;exact⟨a,w,h3⟩
   | row row args=>
     refine Rows.mono h1 ?_;intro v w'' h2;obtain⟨v',e,h3,h4⟩:=h2;exact⟨v',RE e,h3,h4⟩
   | _=>exact h1.elim
 | halt s w'=>
   cases s<;>first | exact h1 | exact h1.elim
def PI(P:Program)(f:Value)(args:List Value)(H:Aa)(K E:Value→Aa→Prop):Prop:=
 match f with
 | .func (.func g) first cap=>Ah P g (first.toList++args++cap.toList).toArray H K E
 | _=>False
def My(P:Program)(o:Oper)(fr:Fr)(H:Aa)(K:Value→Aa→Prop)(E:Fr→Value→Aa→Prop):Prop:=
 match o.op with
 | .panic x=>evK fr x fun v=>match v with
   | .iface t y=>E fr (.iface t y) H
   | _=>False
 | .call {callee:=.value f,args, .. }=>evK fr f fun g=>FM fr args.toList fun vs=>PI P g vs H K (E fr)
 | _=>opK P false (fun _=>True) o fr H K
theorem Ah.out{P:Program}{f:FuncId}{args:Array Value}{H:Aa}{K E:Value→Aa→Prop}(h:Ah P f args H K E):BA P f args H K E:=by exact h.out_
theorem EU{P:Program}{o:Oper}{ds:List Deferred}{fr:Fr}{a:Act}{w:World}{K:Value→Aa→Prop}{E:Fr→Value→Aa→Prop}(hat:AtX ds fr a)(h:My P o fr w.heap K E):Py P o a w K (E fr):=by
 unfold My at h;split at h
 ·rename_i x ho;rw [FL]at h;split at h
  ·rename_i t y hx;intro Q hq;have:(execOp a.eval o).run P w= .halt (.panic (.iface t y)) w:=by
    rw [hat.evalF];simp only [execOp,ho,hx];simp [Instr.panic,goPanic]
   unfold Oper.wp;rw [this];exact hq _ w (Env.refl w) h
  ·exact h.elim
 ·rename_i f args argTypes ho;simp only [FL,FN,←Vv]at h;unfold PI at h;split at h
  ·rename_i g first cap hg
   intro Q hq;have e:(first.toList++(Vy (evF fr) args).toList++cap.toList).toArray=first++Vy (evF fr) args++cap:=Array.ext' (by simp)
   have h':=h.out;rw [e]at h';have h1:(execOp a.eval o).run P w=(callFunc g (first++Vy (evF fr) args++cap)).run P w:=by
    rw [hat.evalF];simp only [execOp,ho,resolve,hg,Deferred.ofValue];simp [invoke]
   unfold Oper.wp;rw [h1,(h' w rfl).1];refine(h' w rfl).2.mono ?_;intro e w' ⟨henv,hk⟩;cases e with
   | returned v=>exact⟨v,rfl,henv,hk⟩
   | panicked c=>
     obtain⟨x,rfl,hx⟩:=hk;exact hq x w' henv hx
   | outgrown=>exact hk.elim
  ·exact h.elim
 ·exact Ta (Co hat.bare h)
def Lu(P:Program)(o:Oper)(want:Bool)(t:Nat)(fr:Fr)(H:Aa)(K:Fr→Aa→Prop)(E:Fr→Value→Aa→Prop):Prop:=
 rdK fr t fun v=>match v with
  | .bool b=>AQ b
    (wrK fr t (.bool true) fun fr1=>match want with
     | true=>My P o fr1 H (fun v H'=>Cj o.dst fr1 v fun fr'=>apK K fr' H') E
     | false=>Cj o.dst fr1 undef fun fr'=>apK K fr' H)
    (wrK fr t (.bool false) fun fr1=>match want with
     | false=>My P o fr1 H (fun v H'=>Cj o.dst fr1 v fun fr'=>apK K fr' H') E
     | true=>Cj o.dst fr1 undef fun fr'=>apK K fr' H)
  | .tuple _=>Cj o.dst fr undef fun fr'=>apK K fr' H
  | _=>False
def IG(P:Program)(all:List Oper)(E:Fr→Value→Aa→Prop)(l:List Oper):Fr→Aa→(Fr→Aa→Prop)→Prop:=
 List.rec (motive:=fun _=>Fr→Aa→(Fr→Aa→Prop)→Prop) (fun fr H K=>K fr H) (fun o _ ih fr H K=>
  match o.guard with
  | none=>My P o fr H (fun v H'=>Cj o.dst fr v fun fr'=>ih fr' H' K) E
  | some (j,want)=>match(all[j]?).bind (·.dst)with
    | none=>False
    | some t=>Lu P o want t fr H (fun fr' H'=>ih fr' H' K) E) l
theorem Nx(P:Program)(all rest:List Oper)(o:Oper)(E:Fr→Value→Aa→Prop)(fr:Fr)(H:Aa)(K:Fr→Aa→Prop):IG P all E (o::rest) fr H K=
  (match o.guard with
  | none=>My P o fr H (fun v H'=>Cj o.dst fr v fun fr'=>IG P all E rest fr' H' K) E
  | some (j,want)=>match(all[j]?).bind (·.dst)with
    | none=>False
    | some t=>Lu P o want t fr H (fun fr' H'=>IG P all E rest fr' H' K) E):=rfl
theorem Ra{ops:List Oper}{ds:List Deferred}{fr:Fr}{a:Act}(hat:AtX ds fr a){j t:Nat}(hj:(ops[j]?).bind (·.dst)=some t){b:Bool}(hv:rd fr t= .bool b):yielded ops.toArray a.tmps j=some b:=
 Fc hat.bare hj hv
theorem MR{ops:List Oper}{ds:List Deferred}{fr:Fr}{a:Act}(hat:AtX ds fr a){j t:Nat}(hj:(ops[j]?).bind (·.dst)=some t){vs:Array Value}(hv:rd fr t= .tuple vs):yielded ops.toArray a.tmps j=none:=
 Fd hat.bare hj hv
theorem GE{P:Program}{all:List Oper}{ds:List Deferred}{E:Fr→Value→Aa→Prop}{Q:Exit→Act→World→Prop}{w0:World}(hp:∀x fr a' w',AtX ds fr a'→Env w0 w'→E fr x w'.heap→Q (.panic (pe x)) a' w'):∀(l:List Oper) (fr:Fr) (a:Act) (w:World) (K:Fr→Aa→Prop),AtX ds fr a→Env w0 w→
  (∀fr' a' w',AtX ds fr' a'→Env w0 w'→K fr' w'.heap→Q .normal a' w')→
  IG P all E l fr w.heap K→wpList P all.toArray Q l a w
 | [],fr,a,w,K,hat,he,hq,h=>hq fr a w hat he h
 | o::l,fr,a,w,K,hat,he,hq,h=>by
   have go:∀(want:Bool),(want=true→Py P o a w (fun v H'=>Cj o.dst fr v fun fr'=>IG P all E l fr' H' K) (E fr))→
     (want=false→Cj o.dst fr undef fun fr'=>IG P all E l fr' w.heap K)→
     Region.wanted o (yielded all.toArray a.tmps)=want→wpList P all.toArray Q (o::l) a w:=by
    intro want h1 h2 hw;unfold wpList;rw [hw];cases want with
    | true=>
      refine .inl (Oper.wp_mono ?_ (h1 rfl _ fun x w' henv hx=>hp x fr a w' hat (he.trans henv) hx));rintro a' w' ⟨v,rfl,henv,hk⟩;rw [BF]at hk;exact GE hp l _ _ _ K (hat.put o.dst v) (he.trans henv) hq hk
    | false=>
      have h3:=h2 rfl;rw [BF]at h3;exact GE hp l _ _ _ K (hat.put o.dst undef) he hq h3
   rw [Nx]at h;split at h
   ·rename_i hg;exact go true (fun _=>EU hat h) (fun h=>by cases h) (by simp [Region.wanted,hg])
   ·rename_i j want hg;split at h
    ·exact h.elim
    ·rename_i t ht;unfold Lu at h;simp only [apK]at h;rw [CF]at h;split at h
     ·rename_i b hb;have hy:=Ra hat ht hb;have hs:fr.set t (.bool b)=fr:=Cs hb (by simp [undef]);cases b<;>cases want<;>simp only [AQ,D6,hs]at h
      ·exact go true (fun _=>EU hat h) (fun h=>by cases h) (by simp [Region.wanted,hg,hy])
      ·exact go false (fun h=>by cases h) (fun _=>h) (by simp [Region.wanted,hg,hy])
      ·exact go false (fun h=>by cases h) (fun _=>h) (by simp [Region.wanted,hg,hy])
      ·exact go true (fun _=>EU hat h) (fun h=>by cases h) (by simp [Region.wanted,hg,hy])
     ·rename_i vs hb;exact go false (fun h=>by cases h) (fun _=>h) (by simp [Region.wanted,hg,MR hat ht hb])
     ·exact h.elim
def NJ(E:Fr→Value→Aa→Prop)(l:List Oper):Prop:=∀o∈l,∀d,o.dst=some d→∀fr v x H,E (fr.set d v) x H→E fr x H
theorem CL(E:Value→Aa→Prop)(l:List Oper):NJ (fun _=>E) l:=fun _ _ _ _ _ _ _ _ h=>h
structure Ca(P:Program)(ds:List Deferred)(l:List Oper)(fr:Fr)(H:Aa)(K:Fr→Aa→Prop)(E:Fr→Value→Aa→Prop):Prop where
 in_::
 out_:∀(id:Nat) (Q:Exit→Act→World→Prop) (a:Act) (w:World),AtX ds fr a→w.heap=H→(∀x fr a' w',AtX ds fr a'→Env w w'→E fr x w'.heap→Q (.panic (pe x)) a' w')→
  (NJ E l→∀c,∀o∈l,∀v a w,Q (.panic c) (a.put o.dst v) w→Q (.panic c) a w)→
  (∀fr' a' w',AtX ds fr' a'→Env w w'→K fr' w'.heap→Q .normal a' w')→(Code.region id l.toArray true).wp P Q a w
theorem Ca.of{P:Program}{l:List Oper}{fr:Fr}{H:Aa}{K:Fr→Aa→Prop}{E:Fr→Value→Aa→Prop}(h:As P l fr H K):Ca P [] l fr H K E:=by
 refine⟨fun id Q a w hat hw _ _ hq=>?_⟩;refine Code.wp_mono (Q:=fun e a w=>Q e a w∧∀c,e≠ .panic c) (fun e a w h=>h.1) ?_;exact h.out id _ a w hat.at_ hw (fun c a w h=>h.2 c rfl) fun fr' a' w' h1 h2 h3=>⟨hq fr' a' w' ⟨h1.tmps,h1.defers⟩ h2 h3,fun c=>by simp⟩
def MH(P:Program)(S:Nat→Prop)(Z:List Nat)(H0:Aa)(all:List Oper)(E:Fr→Value→Aa→Prop)(i:Nat)(fr:Fr)(H:Aa)(next:Fr→Aa→Prop):Prop:=
 match all[i]? with
 | none=>False
 | some o=>match o.guard with
   | some _=>False
   | none=>match Z.contains i with
     | true=>My P o fr H (fun v H'=>Cj o.dst fr v fun fr'=>next fr' H') E
     | false=>My P o fr H (fun v H'=>Agr S H0 H'∧Cj o.dst fr v fun fr'=>next fr' H') E
def Om(P:Program)(S:Nat→Prop)(Z:List Nat)(H0:Aa)(all:List Oper)(E:Fr→Value→Aa→Prop)(s:Sch):Fr→Aa→(Fr→Aa→Prop)→Prop:=
 Sch.rec (motive:=fun _=>Fr→Aa→(Fr→Aa→Prop)→Prop) (fun fr H K=>K fr H)
  (fun i _ ih fr H K=>match all[i]? with
   | none=>False
   | some o=>match o.guard with
     | some _=>False
     | none=>match IF o&&Fh P o with
       | true=>Kh P S o fr H fun v=>Cj o.dst fr v fun fr'=>ih fr' H K
       | false=>False)
  (fun i _ ih fr H K=>MH P S Z H0 all E i fr H fun fr' H'=>ih fr' H' K)
  (fun i _ j _ ih ih' fr H K=>(MH P S Z H0 all E i fr H fun fr' H'=>ih fr' H' K)∧MH P S Z H0 all E j fr H fun fr' H'=>ih' fr' H' K) s
theorem R0(P:Program)(S:Nat→Prop)(Z:List Nat)(H0:Aa)(all:List Oper)(E:Fr→Value→Aa→Prop)(i:Nat)(s:Sch)(fr:Fr)(H:Aa)(K:Fr→Aa→Prop):Om P S Z H0 all E (.q i s) fr H K=
  (match all[i]? with
   | none=>False
   | some o=>match o.guard with
     | some _=>False
     | none=>match IF o&&Fh P o with
       | true=>Kh P S o fr H fun v=>Cj o.dst fr v fun fr'=>Om P S Z H0 all E s fr' H K
       | false=>False):=rfl
theorem GP{P:Program}{S:Nat→Prop}{Z:List Nat}{w0:World}{all:List Oper}{ds:List Deferred}{E:Fr→Value→Aa→Prop}{Q:Exit→Act→World→Prop}(hp:∀x fr a' w',AtX ds fr a'→Env w0 w'→E fr x w'.heap→Q (.panic (pe x)) a' w'){i:Nat}{fr:Fr}{a:Act}{w:World}{next:Fr→Aa→Prop}{N:Act→World→Prop}
  (hat:AtX ds fr a) (hc:Env w0 w) (h:MH P S Z w0.heap all E i fr w.heap next)
  (hn:∀fr' a' w',AtX ds fr' a'→Env w0 w'→(Z.contains i=false→Cls w0 S w')→next fr' w'.heap→N a' w'):wpOp P all.toArray Q i N a w:=by
 unfold MH at h;split at h
 ·exact h.elim
 ·rename_i o ho;have ho':all.toArray[i]? =some o:=by simpa using ho
  split at h
  ·exact h.elim
  ·rename_i hg;have hwant:Region.wanted o (yielded all.toArray a.tmps)=true:=by simp [Region.wanted,hg]
   unfold wpOp;rw [ho'];dsimp only;rw [if_pos hwant];split at h
   ·rename_i hz;refine .inl (Oper.wp_mono ?_ (EU hat h _ fun x w' henv hx=>hp x fr a w' hat (hc.trans henv) hx));rintro a' w' ⟨v,rfl,henv,hk⟩;rw [BF]at hk;exact hn _ _ _ (hat.put o.dst v) (hc.trans henv) (fun hne=>by rw [hz]at hne;cases hne) hk
   ·refine .inl (Oper.wp_mono ?_ (EU hat h _ fun x w' henv hx=>hp x fr a w' hat (hc.trans henv) hx));rintro a' w' ⟨v,rfl,henv,hagr,hk⟩;rw [BF]at hk;exact hn _ _ _ (hat.put o.dst v) (hc.trans henv) (fun _=>⟨hc.trans henv,hagr⟩) hk
theorem N0(a:Act)(dst:Option Tmp)(v:Value):(a.put dst v).defers=a.defers:=by cases dst<;>rfl
theorem Ep{P:Program}{S:Nat→Prop}{Z:List Nat}{w0:World}{all:List Oper}{ds:List Deferred}{E:Fr→Value→Aa→Prop}{Q:Exit→Act→World→Prop}(hs:Region.noSelect all.toArray=true)
  (hp:∀x fr a' w',AtX ds fr a'→Env w0 w'→E fr x w'.heap→Q (.panic (pe x)) a' w') (hp2:∀c,∀o∈all,∀v a w,Q (.panic c) (a.put o.dst v) w→Q (.panic c) a w):∀(l:Sch) (listed:Array Bool) (fr:Fr) (a:Act) (w:World) (K:Fr→Aa→Prop),AtX ds fr a→Env w0 w→(MT Z l=false→Cls w0 S w)→HS all.toArray listed→
  (∀fr' a' w',AtX ds fr' a'→Env w0 w'→K fr' w'.heap→Q .normal a' w')→Ds all.toArray Z l listed=true→l.even=true→
  Om P S Z w0.heap all E l fr w.heap K→HP P all.toArray Q (Cls w0 S) Z l.len listed a w
 | .e,listed,fr,a,w,K,hat,he,_,_,hq,hB,_,h=>⟨by simpa [Ds]using hB,hq fr a w hat he h⟩
 | .q i s,listed,fr,a,w,K,hat,he,hc,hsh,hq,hB,hev,h=>by
   have hc:=hc rfl;simp only [Ds,Vb,Vk,Va]at hB;obtain⟨⟨⟨⟨b1,b2⟩,b3⟩,b4⟩,hB2⟩:=hB;rw [R0]at h;split at h
   ·exact h.elim
   ·rename_i o ho;have ho':all.toArray[i]? =some o:=by simpa using ho
    have hri:i∈Region.ready .any all.toArray listed:=by simpa using b1
    split at h
    ·exact h.elim
    ·rename_i hg;have hwant:Region.wanted o (yielded all.toArray a.tmps)=true:=by simp [Region.wanted,hg]
     split at h
     ·obtain⟨v,hv,hk⟩:=DW h;rw [BF]at hk;refine EE (v:=v) (f:=all.toArray.size) ho' (Region.noSelect_spec hs) (fun c a' w' hh=>hp2 c o (Vh ho) v a' w' hh) b3 (fun j hj=>b4 j (by simpa using hj)) s.len listed a w hsh (Region.free_spec ho' b2) hri
       (.inl ⟨hwant,fun w' hw'=>?_⟩) hc ?_
      ·rw [hat.evalF];exact hv w' fun k hk=>(hw'.2 k hk).trans (hc.2 k hk).symm
      ·exact Ep hs hp hp2 s _ _ _ w K (hat.put o.dst v) he (fun _=>hc) (hsh.put hri) hq hB2 hev hk
     ·exact h.elim
 | .f i s,listed,fr,a,w,K,hat,he,hc,hsh,hq,hB,hev,h=>by
   simp only [Ds,Vb,Vw,Vk,beq_iff_eq]at hB;obtain⟨⟨b1,b2⟩,hB2⟩:=hB;refine⟨(fun h0=>by rw [b1]at h0;cases h0),fun j hj=>?_⟩;have hj0:=hj;rw [b1]at hj;obtain rfl:j=i:=by simpa using hj
   refine GP hp hat he h fun fr' a' w' h1 h2 h3 h4=>⟨h3,Ep hs hp hp2 s _ _ _ w' K h1 h2 (fun hz=>?_) (hsh.put hj0) hq hB2 hev h4⟩;rcases b2 with b2 | b2
   ·exact h3 b2
   ·rw [b2]at hz;cases hz
 | .b i s j s',listed,fr,a,w,K,hat,he,hc,hsh,hq,hB,hev,h=>by
   simp only [Ds,Vb,Vw,Vk,beq_iff_eq]at hB;obtain⟨⟨⟨b1,b2⟩,hB2⟩,hB3⟩:=hB;simp only [Sch.even,Vb,beq_iff_eq]at hev;obtain⟨⟨e1,e2⟩,e3⟩:=hev;refine⟨(fun h0=>by rw [b1]at h0;cases h0),fun k hk=>?_⟩;have hk0:=hk;rw [b1]at hk;rcases List.mem_cons.1 hk with rfl | hk
   ·refine GP hp hat he h.1 fun fr' a' w' h1 h2 h3 h4=>⟨h3,Ep hs hp hp2 s _ _ _ w' K h1 h2 (fun hz=>?_) (hsh.put hk0) hq hB2 e1 h4⟩;rcases b2 with b2 | b2
    ·exact h3 b2.1
    ·rw [b2.1]at hz;cases hz
   ·obtain rfl:k=j:=by simpa using hk
    rw [e3];refine GP hp hat he h.2 fun fr' a' w' h1 h2 h3 h4=>⟨h3,Ep hs hp hp2 s' _ _ _ w' K h1 h2 (fun hz=>?_) (hsh.put hk0) hq hB3 e2 h4⟩;rcases b2 with b2 | b2
    ·exact h3 b2.2
    ·rw [b2.2]at hz;cases hz
theorem Ca.held{P:Program}{ds:List Deferred}{l:List Oper}{fr:Fr}{H:Aa}{K:Fr→Aa→Prop}{E:Fr→Value→Aa→Prop}(S:Nat→Prop)(Z:List Nat)(sched:Sch)(hbl:NJ E l)(hm:P.follows .mixedOrders=true)
  (hB:(Region.noSelect l.toArray&&(sched.len==l.length)&&sched.even&&Ds l.toArray Z sched (UX l.length false))=true)
  (h:Om P S Z H l E sched fr H K):Ca P ds l fr H K E:=by
 refine⟨?_⟩;intro id Q a w hat hw hp hp2 hq;subst hw;simp only [Vb,beq_iff_eq]at hB;refine wp_region_any hm (Gc (S:=Cls w S) (Z:=Z) _ _ _ _ ?_);have hsh:HS l.toArray (UX l.length false):=fun j o _ hj=>by
  rw [Array.getD_eq_getD_getElem?,Array.getElem?_replicate]at hj;split at hj<;>simp at hj
 have:=Ep (P:=P) (S:=S) (Z:=Z) (w0:=w) (Q:=Q) hB.1.1.1 hp (hp2 hbl) sched (UX l.length false) fr a {w with drawn:=w.drawn+1} K hat ⟨rfl,rfl,rfl⟩ (fun _=>⟨⟨rfl,rfl,rfl⟩,Agr.refl _ _⟩) hsh hq hB.2 hB.1.2 h;rw [hB.1.1.2]at this;simpa using this
def Dl(ds:List Deferred)(w0:World)(E:Fr→Value→Aa→Prop)(Q:Exit→Fr→Aa→Prop):Exit→Act→World→Prop
 | .panic c,a,w=>∃fr,AtX ds fr a∧Env w0 w∧∃x,c=pe x∧E fr x w.heap
 | .outgrown,_,_=>False
 | e,a,w=>∃fr,AtX ds fr a∧Env w0 w∧Q e fr w.heap
structure DU(P:Program)(ds:List Deferred)(E:Fr→Value→Aa→Prop)(c:Code)(fr:Fr)(H:Aa)(X:List (Nat×(Fr→Aa→Prop)))(kr:Fr→Aa→Prop):Prop where
 in_::
 out_:∀(a:Act) (w:World),AtX ds fr a→w.heap=H→(Code.loop c).wp P (Dl ds w E (Qx (fun _ _=>False) X kr)) a w
structure AO(P:Program)(ds:List Deferred)(E:Fr→Value→Aa→Prop)(x y:Code)(fr:Fr)(H:Aa)(kn:Fr→Aa→Prop)(X:List (Nat×(Fr→Aa→Prop)))(kr:Fr→Aa→Prop):Prop where
 in_::
 out_:∀(a:Act) (w:World),AtX ds fr a→w.heap=H→(Code.seq x y).wp P (Dl ds w E (Qx kn X kr)) a w
def vcP(P:Program)(ds:List Deferred)(E:Fr→Value→Aa→Prop)(c:Code):Fr→Aa→(Fr→Aa→Prop)→List (Nat×(Fr→Aa→Prop))→(Fr→Aa→Prop)→Prop:=
 Code.rec (motive:=fun _=>Fr→Aa→(Fr→Aa→Prop)→List (Nat×(Fr→Aa→Prop))→(Fr→Aa→Prop)→Prop)
  (fun fr H kn _ _=>kn fr H)
  (fun _ ops draw fr H kn _ _=>match draw with
   | false=>IG P ops.toList E ops.toList fr H kn
   | true=>Ca P ds ops.toList fr H kn E)
  (fun a b iha ihb fr H kn X kr=>match HD a with
   | true=>AO P ds E a b fr H kn X kr
   | false=>iha fr H (fun fr' H'=>ihb fr' H' kn X kr) X kr)
  (fun c _ _ ihx ihy fr H kn X kr=>match c with
   | .tmp t=>rdK fr t fun v=>match v with
     | .bool b=>AQ b (wrK fr t (.bool true) fun fr1=>ihx fr1 H kn X kr) (wrK fr t (.bool false) fun fr1=>ihy fr1 H kn X kr)
     | _=>False
   | .const (.bool b)=>AQ b (ihx fr H kn X kr) (ihy fr H kn X kr)
   | _=>False)
  (fun id _ ih fr H kn X kr=>ih fr H kn ((id,kn)::X) kr)
  (fun c _ fr H _ X kr=>DU P ds E c fr H X kr)
  (fun _ _ _ _ _ _ _ _ _ _ _=>False)
  (fun id fr H _ X _=>IE X id fr H)
  (fun _ _ _ _ _ _ _=>False)
  (fun _ _ _ _ _ _=>False)
  (fun _ _ _ _ _ _=>False)
  (fun fr H _ _ kr=>kr fr H)
  (fun _ _ _ _ _ _=>False) c
section
variable(P:Program)(ds:List Deferred)(E:Fr→Value→Aa→Prop)(a b:Code)(fr:Fr)(H:Aa)(kn:Fr→Aa→Prop)(X:List (Nat×(Fr→Aa→Prop)))(kr:Fr→Aa→Prop)
theorem NI(id:Nat)(ops:Array Oper)(draw:Bool):vcP P ds E (.region id ops draw) fr H kn X kr=(match draw with
   | false=>IG P ops.toList E ops.toList fr H kn
   | true=>Ca P ds ops.toList fr H kn E):=rfl
theorem RX:vcP P ds E (.seq a b) fr H kn X kr=(match HD a with
   | true=>AO P ds E a b fr H kn X kr
   | false=>vcP P ds E a fr H (fun fr' H'=>vcP P ds E b fr' H' kn X kr) X kr):=rfl
theorem QS(c:Operand):vcP P ds E (.cond c a b) fr H kn X kr=(match c with
   | .tmp t=>rdK fr t fun v=>match v with
     | .bool x=>AQ x (wrK fr t (.bool true) fun fr1=>vcP P ds E a fr1 H kn X kr) (wrK fr t (.bool false) fun fr1=>vcP P ds E b fr1 H kn X kr)
     | _=>False
   | .const (.bool x)=>AQ x (vcP P ds E a fr H kn X kr) (vcP P ds E b fr H kn X kr)
   | _=>False):=rfl
theorem Pv(id:Nat):vcP P ds E (.block id a) fr H kn X kr=vcP P ds E a fr H kn ((id,kn)::X) kr:=rfl
end
theorem DU.out{P:Program}{ds:List Deferred}{E:Fr→Value→Aa→Prop}{c:Code}{fr:Fr}{H:Aa}{X:List (Nat×(Fr→Aa→Prop))}{kr:Fr→Aa→Prop}(h:DU P ds E c fr H X kr):
  ∀(a:Act) (w:World),AtX ds fr a→w.heap=H→(Code.loop c).wp P (Dl ds w E (Qx (fun _ _=>False) X kr)) a w:=by exact h.out_
theorem AO.out{P:Program}{ds:List Deferred}{E:Fr→Value→Aa→Prop}{x y:Code}{fr:Fr}{H:Aa}{kn:Fr→Aa→Prop}{X:List (Nat×(Fr→Aa→Prop))}{kr:Fr→Aa→Prop}(h:AO P ds E x y fr H kn X kr):
  ∀(a:Act) (w:World),AtX ds fr a→w.heap=H→(Code.seq x y).wp P (Dl ds w E (Qx kn X kr)) a w:=by exact h.out_
theorem Dl.env{ds:List Deferred}{w0 w1:World}{E:Fr→Value→Aa→Prop}{Q:Exit→Fr→Aa→Prop}(henv:Env w0 w1):∀{e:Exit} {a:Act} {w:World},Dl ds w1 E Q e a w→Dl ds w0 E Q e a w
 | .normal,_,_,⟨fr,h1,h2,h3⟩ | .exit _,_,_,⟨fr,h1,h2,h3⟩ | .goto _,_,_,⟨fr,h1,h2,h3⟩ | .ret,_,_,⟨fr,h1,h2,h3⟩=>⟨fr,h1,henv.trans h2,h3⟩
 | .panic c,_,_,⟨fr,h1,h2,h3⟩=>⟨fr,h1,henv.trans h2,h3⟩
theorem Dl.mono{ds:List Deferred}{w0:World}{E:Fr→Value→Aa→Prop}{Q Q':Exit→Fr→Aa→Prop}(hq:∀e fr H,Q e fr H→Q' e fr H):∀{e:Exit} {a:Act} {w:World},Dl ds w0 E Q e a w→Dl ds w0 E Q' e a w
 | .normal,_,_,⟨fr,h1,h2,h3⟩ | .exit _,_,_,⟨fr,h1,h2,h3⟩ | .goto _,_,_,⟨fr,h1,h2,h3⟩ | .ret,_,_,⟨fr,h1,h2,h3⟩=>⟨fr,h1,h2,hq _ _ _ h3⟩
 | .panic c,_,_,h=>h
theorem IA{P:Program}{ds:List Deferred}{E:Fr→Value→Aa→Prop}{x y:Code}{kn k1:Fr→Aa→Prop}{X:List (Nat×(Fr→Aa→Prop))}{kr:Fr→Aa→Prop}{a:Act}{w:World}
  (hx:x.wp P (Dl ds w E (Qx k1 X kr)) a w)
  (hy:∀fr a' w',AtX ds fr a'→Env w w'→k1 fr w'.heap→y.wp P (Dl ds w' E (Qx kn X kr)) a' w'):(Code.seq x y).wp P (Dl ds w E (Qx kn X kr)) a w:=by
 refine wp_seq (Code.wp_mono ?_ hx);intro e a' w' h;cases e with
 | normal=>
   obtain⟨fr,h1,h2,h3⟩:=h;exact Code.wp_mono (fun e a w h=>Dl.env h2 h) (hy fr a' w' h1 h2 h3)
 | exit id=>exact h
 | goto l=>exact h
 | ret=>exact h
 | panic c=>exact h
 | outgrown=>exact h
theorem BP{P:Program}{ds:List Deferred}{E:Fr→Value→Aa→Prop}:∀(c:Code) (fr:Fr) (kn:Fr→Aa→Prop) (X:List (Nat×(Fr→Aa→Prop))) (kr:Fr→Aa→Prop) (a:Act) (w:World),AtX ds fr a→
  vcP P ds E c fr w.heap kn X kr→c.wp P (Dl ds w E (Qx kn X kr)) a w
 | .skip,fr,kn,X,kr,a,w,hat,h=>wp_skip ⟨fr,hat,Env.refl w,h⟩
 | .region id ops draw,fr,kn,X,kr,a,w,hat,h=>by
   rw [NI]at h;cases draw with
   | false=>
     have:=wp_region_lit (P:=P) (id:=id) (l:=ops.toList) (GE (P:=P) (all:=ops.toList) (ds:=ds) (E:=E) (Q:=Dl ds w E (Qx kn X kr)) (w0:=w) (fun x fr a' w' h1 h2 h3=>⟨fr,h1,h2,x,rfl,h3⟩) ops.toList fr a w kn hat (Env.refl w) (fun fr' a' w' h1 h2 h3=>⟨fr',h1,h2,h3⟩) h);simpa using this
   | true=>
     have:=h.out_ id (Dl ds w E (Qx kn X kr)) a w hat rfl (fun x fr a' w' h1 h2 h3=>⟨fr,h1,h2,x,rfl,h3⟩) (fun hbl c o ho v a w' h=>by
      obtain⟨fr2,h1,h2,x,h3,h4⟩:=h;obtain⟨h5,h6⟩:=h1;rw [N0]at h6;refine⟨a.tmps.toList,⟨rfl,h6⟩,h2,x,h3,?_⟩;cases hd:o.dst with
      | none=>rw [hd]at h5;rw [←h5]at h4;exact h4
      | some d=>
        rw [hd]at h5;refine hbl o ho d hd _ v x _ ?_;rw [←h5]at h4;simpa [Act.put]using h4) (fun fr' a' w' h1 h2 h3=>⟨fr',h1,h2,h3⟩)
     simpa using this
 | .seq x y,fr,kn,X,kr,a,w,hat,h=>by
   rw [RX]at h;split at h
   ·exact h.out a w hat rfl
   ·exact IA (BP x fr _ X kr a w hat h) fun fr' a' w' h1 _ h3=>BP y fr' kn X kr a' w' h1 h3
 | .cond c x y,fr,kn,X,kr,a,w,hat,h=>by
   rw [QS]at h;split at h
   ·rename_i t;rw [CF]at h;split at h
    ·rename_i b hb;have hs:fr.set t (.bool b)=fr:=Cs hb (by simp [undef]);have he:a.eval (.tmp t)= .bool b:=by rw [hat.evalF];exact hb
     cases b<;>simp only [AQ,D6,hs]at h
     ·exact wp_cond_false he (BP y fr kn X kr a w hat h)
     ·exact wp_cond_true he (BP x fr kn X kr a w hat h)
    ·exact h.elim
   ·rename_i b;cases b<;>simp only [AQ]at h
    ·exact wp_cond_false rfl (BP y fr kn X kr a w hat h)
    ·exact wp_cond_true rfl (BP x fr kn X kr a w hat h)
   ·exact h.elim
 | .block id c,fr,kn,X,kr,a,w,hat,h=>by
   rw [Pv]at h;refine wp_block (Code.wp_mono ?_ (BP c fr kn _ kr a w hat h));intro e a' w' h;cases e with
   | exit id'=>
     obtain⟨fr',h1,h2,h3⟩:=h;simp only [Qx,IE]at h3;simp only [Exit.inBlock];split at h3
     ·rename_i hid;have:=Nat.eq_of_beq_eq_true hid;rw [if_pos this.symm];exact⟨fr',h1,h2,h3⟩
     ·rename_i hid;have:id≠id':=Nat.ne_of_beq_eq_false hid;rw [if_neg (Ne.symm this)];exact⟨fr',h1,h2,h3⟩
   | normal=>exact h
   | goto l=>exact h
   | ret=>exact h
   | panic c=>exact h
   | outgrown=>exact h
 | .loop c,fr,kn,X,kr,a,w,hat,h=>Code.wp_mono (fun e a w=>Dl.mono fun e fr H hq=>by
   cases e<;>first | exact hq | exact hq.elim) (h.out a w hat rfl)
 | .exit id,fr,kn,X,kr,a,w,hat,h=>wp_exit ⟨fr,hat,Env.refl w,h⟩
 | .ret,fr,kn,X,kr,a,w,hat,h=>wp_ret ⟨fr,hat,Env.refl w,h⟩
 | .rangeFunc ..,_,_,_,_,_,_,_,h=>h.elim
 | .scope _,_,_,_,_,_,_,_,h=>h.elim
 | .label _,_,_,_,_,_,_,_,h=>h.elim
 | .goto _,_,_,_,_,_,_,_,h=>h.elim
 | .refuse _,_,_,_,_,_,_,_,h=>h.elim
theorem DU.mk{P:Program}{ds:List Deferred}{E:Fr→Value→Aa→Prop}{c:Code}{fr:Fr}{H:Aa}{X:List (Nat×(Fr→Aa→Prop))}{kr:Fr→Aa→Prop}{α:Type}(ts:List Nat)(enc:α→List Value)(I:α→Aa→Prop)(m:α→Aa→Nat)
  (h0:IX fr ts fun vs=>∃x,vs=enc x∧I x H)
  (hr:∀(x:α) (H1:Aa) (junk:Nat→Value),I x H1→ET junk fr (E4 c []) fun fr0=>LK fr0 ts (enc x) fun fr1=>
   vcP P ds E c fr1 H1 (fun fr' H'=>Fl (E4 c []) fr fr' (IX fr' ts fun vs=>∃y,vs=enc y∧I y H'∧m y H'<m x H1)) X kr):DU P ds E c fr H X kr:=by
 generalize E4 c []=ws at hr;refine⟨?_⟩;intro a w hat hw;subst hw;have h0':=h0;rw [DM]at h0';obtain⟨x0,hx0,hi0⟩:=h0'
 let J (n:Nat) (a':Act) (w':World):Prop:=∃fr' x,AtX ds fr' a'∧Env w w'∧En (fun _=>undef) fr' ws=En (fun _=>undef) fr ws∧ts.map (rd fr')=enc x∧I x w'.heap∧m x w'.heap=n
 refine IT J ?_ _ a w ⟨fr,x0,hat,Env.refl w,rfl,hx0,hi0,rfl⟩;rintro n a1 w1 ⟨fr1,x1,hat1,henv1,hk1,hx1,hi1,rfl⟩;have h:=hr x1 w1.heap (rd fr1) hi1;rw [BK,Fs,Cd hk1,←hx1,Ey ts fr1]at h;refine Code.wp_mono ?_ (BP c fr1 _ X kr a1 w1 hat1 h);intro e a2 w2 h2;cases e with
 | normal=>
   obtain⟨fr2,hat2,henv2,h2⟩:=h2;simp only [Qx,Fl,BK,DM]at h2;obtain⟨hk2,y,hy,hiy,hm⟩:=h2;exact⟨m y w2.heap,hm,fr2,y,hat2,henv1.trans henv2,hk2,hy,hiy,rfl⟩
 | exit id=>exact Dl.env henv1 h2
 | goto l=>exact Dl.env henv1 h2
 | ret=>exact Dl.env henv1 h2
 | panic c=>exact Dl.env henv1 h2
 | outgrown=>exact h2
theorem AO.run{P:Program}{ds:List Deferred}{E:Fr→Value→Aa→Prop}{x y:Code}{fr:Fr}{H:Aa}{kn:Fr→Aa→Prop}{X:List (Nat×(Fr→Aa→Prop))}{kr:Fr→Aa→Prop}
  (h:vcP P ds E x fr H (fun fr' H'=>vcP P ds E y fr' H' kn X kr) X kr):AO P ds E x y fr H kn X kr:=by
 refine⟨?_⟩;intro a w hat hw;subst hw;exact IA (BP x fr _ X kr a w hat h) fun fr' a' w' h1 _ h3=>BP y fr' kn X kr a' w' h1 h3
theorem AO.cut{P:Program}{ds:List Deferred}{E:Fr→Value→Aa→Prop}{x y:Code}{fr:Fr}{H:Aa}{kn:Fr→Aa→Prop}{X:List (Nat×(Fr→Aa→Prop))}{kr:Fr→Aa→Prop}{α:Type}(ts:List Nat)(enc:α→List Value)(I:α→Aa→Prop)
  (h:vcP P ds E x fr H (fun fr' H'=>Fl (E4 x []) fr fr' (IX fr' ts fun vs=>∃y,vs=enc y∧I y H')) X kr)
  (k:∀(z:α) (H1:Aa) (junk:Nat→Value),I z H1→ET junk fr (E4 x []) fun fr0=>LK fr0 ts (enc z) fun fr1=>vcP P ds E y fr1 H1 kn X kr):AO P ds E x y fr H kn X kr:=by
 generalize E4 x []=ws at h k;refine⟨?_⟩;intro a w hat hw;subst hw;refine IA (BP x fr _ X kr a w hat h) fun fr1 a1 w1 h1 _ h3=>?_;simp only [Fl,BK,DM]at h3;obtain⟨hk,z,hz,hi⟩:=h3;have h:=k z w1.heap (rd fr1) hi;rw [BK,Fs,Cd hk,←hz,Ey ts fr1]at h;exact BP y fr1 kn X kr a1 w1 h1 h
theorem N4{P:Program}{fn:Func}{ds:List Deferred}{fr:Fr}{a:Act}{w:World}{R:Value→Aa→Prop}(hat:AtX ds fr a)(h:Iq P fn.results.toList fr w.heap R):
  ∃v,(results fn a.tmps).run P w= .ok v w∧R v w.heap:=FV (a:={tmps:=a.tmps,defers:=[]}) hat.bare h
theorem BA.of_vc{P:Program}{f:FuncId}{fn:Func}{c:Code}{args:Array Value}{H:Aa}{R E:Value→Aa→Prop}(hf:P.funcs[f]? =some fn)(hb:fn.body=some c)
  (hcall:∀w:World,(callFunc f args).run P w= .ok (.enter f args) w)
  (h:GD (args.toList++UU (fn.ntmps - args.size) undef) fun fr=>vcP P [] (fun _=>E) c fr H (fun fr' H'=>Iq P fn.results.toList fr' H' R) [] (fun fr' H'=>Iq P fn.results.toList fr' H' R)):
  BA P f args H R E:=by
 intro w hw;subst hw;refine⟨hcall w,?_⟩;refine calls_of_wp hf hb ?_;rw [DH]at h;have hat:AtX [] (args.toList++UU (fn.ntmps - args.size) undef) {tmps:=args++UX (fn.ntmps - args.size) undef,defers:=[]}:=⟨by simp,rfl⟩;refine Code.wp_mono ?_ (BP c _ _ _ _ _ w hat h);intro e a' w' h2;have fin:∀fr,AtX [] fr a'→Env w w'→Iq P fn.results.toList fr w'.heap R→a'.defers=[]∧∃v,(results fn a'.tmps).run P w'= .ok v w'∧Env w w'∧R v w'.heap:=by
  intro fr h1 h2 h3;obtain⟨v,hv,hR⟩:=N4 h1 h3;exact⟨h1.defers,v,hv,h2,hR⟩
 cases e with
 | normal=>obtain⟨fr,h1,h2,h3⟩:=h2;exact fin fr h1 h2 h3
 | ret=>obtain⟨fr,h1,h2,h3⟩:=h2;exact fin fr h1 h2 h3
 | exit id=>obtain⟨fr,h1,h2,h3⟩:=h2;exact h3.elim
 | goto l=>obtain⟨fr,h1,h2,h3⟩:=h2;exact h3.elim
 | panic c=>obtain⟨fr,h1,h3,x,h4,h5⟩:=h2;exact⟨h1.defers,h3,x,h4,h5⟩
 | outgrown=>exact h2.elim
def EX(P:Program)(rs:List ResultVar)(fr:Fr)(H:Aa):(List Value→Prop)→Prop:=
 List.rec (motive:=fun _=>(List Value→Prop)→Prop) (fun R=>R []) (fun r _ ih R=>match r with
  | .tmp t=>rdK fr t fun v=>ih fun vs=>R (v::vs)
  | .cell a t=>rdK fr a fun p=>ldK P t p H fun v=>ih fun vs=>R (v::vs)) rs
def I8(vs:List Value):Value:=match vs with
 | [v]=>v
 | vs=>.tuple vs.toArray
def FX(tmps:Array Value)(r:ResultVar):Sem Value:=match r with
 | .tmp t=>pure (tmps.getD t undef)
 | .cell a t=>do loadVar t (←asAddr (tmps.getD a undef))
theorem HM{P:Program}{fr:Fr}{a:Act}{w:World}(hat:At fr a):∀(rs:List ResultVar) (R:List Value→Prop),EX P rs fr w.heap R→
  ∃vs:List Value,(rs.mapM (FX a.tmps)).run P w= .ok vs w∧R vs
 | [],R,h=>⟨[],by simp,h⟩
 | .tmp t::rs,R,h=>by
   have h':rdK fr t (fun v=>EX P rs fr w.heap fun vs=>R (v::vs)):=h;rw [CF]at h';obtain⟨vs,h1,h2⟩:=HM hat rs _ h';have hrd:a.tmps.getD t undef=rd fr t:=hat.eval (.tmp t);have h0:(FX a.tmps (.tmp t)).run P w= .ok (rd fr t) w:=by simp [FX,hrd]
   refine⟨rd fr t::vs,?_,h2⟩;rw [Vx,Sem.run_bind,h0];simp only [Result.andThen_ok,Sem.run_bind,h1,Sem.run_pure]
 | .cell x t::rs,R,h=>by
   have h':rdK fr x (fun p=>ldK P t p w.heap fun v=>EX P rs fr w.heap fun vs=>R (v::vs)):=h;rw [CF]at h';obtain⟨p,v,hp,hv,h2⟩:=EG h';obtain⟨vs,h3,h4⟩:=HM hat rs _ h2;have hrd:a.tmps.getD x undef=rd fr x:=hat.eval (.tmp x);have h0:(FX a.tmps (.cell x t)).run P w= .ok v w:=by simp [FX,hrd,hp,asAddr,hv]
   refine⟨v::vs,?_,h4⟩;rw [Vx,Sem.run_bind,h0];simp only [Result.andThen_ok,Sem.run_bind,h3,Sem.run_pure]
theorem Eh{P:Program}{fn:Func}{ds:List Deferred}{fr:Fr}{a:Act}{w:World}{R:Value→Prop}(hat:AtX ds fr a)(h:EX P fn.results.toList fr w.heap fun vs=>R (I8 vs)):
  ∃v,(results fn a.tmps).run P w= .ok v w∧R v:=by
 obtain⟨vs,h1,h2⟩:=HM (a:={tmps:=a.tmps,defers:=[]}) hat.bare _ _ h;refine⟨I8 vs,?_,h2⟩;have e:results fn a.tmps=(do
  let vs ←fn.results.mapM (FX a.tmps)
  pure (if h:vs.size=1 then vs[0]else .tuple vs)):=rfl
 have e2:(fn.results.mapM (FX a.tmps)).run P w= .ok vs.toArray w:=by
  rw [Array.mapM_eq_mapM_toList];have e3:(List.toArray <$> fn.results.toList.mapM (FX a.tmps))=(fn.results.toList.mapM (FX a.tmps) >>= fun l=>pure l.toArray):=rfl;rw [e3,Sem.run_bind,h1];simp
 rw [e,Sem.run_bind,e2];simp only [Result.andThen_ok,Sem.run_pure]
 match vs with
 | []=>rfl
 | [v]=>rfl
 | _::_::_=>rfl
def UE(o0 o1:Oper)(t0 t1:Nat):Prop:=(∃ats,o0.op= .call {callee:=.builtin .recover,args:= #[],argTypes:=ats})∧o0.guard=none∧o0.dst=some t0∧o1.op= .assign (.tmp t0)∧o1.guard=none∧o1.dst=some t1
inductive S5:FrameMode→FrameMode→Value→Prop
 | ret:S5 .returning .returning .nilIface
 | pan (x:Value):S5 (.panicking (pe x)) (.panicking [{v:=x,recovered:=true}]) x
theorem FG{P:Program}{g:FuncId}{fn:Func}{id0:Nat}{o0 o1:Oper}{t0 t1:Nat}{rest:Code}{args:Array Value}{u u':FrameMode}{rv:Value}{H:Aa}{R:Aa→Prop}(hf:P.funcs[g]? =some fn)(hb:fn.body=some (.seq (.region id0 #[o0,o1] false) rest))
  (hB:UE o0 o1 t0 t1) (hu:S5 u u' rv) (hres:fn.results= #[])
  (h:GD (args.toList++UU (fn.ntmps - args.size) undef) fun fr=>rdK fr t0 fun _=>rdK (fr.set t0 rv) t0 fun v=>v=rv∧wrK fr t0 rv fun fr1=>wrK fr1 t1 rv fun fr2=>vc P rest fr2 H (fun _ H'=>R H') [] (fun _ H'=>R H')):
  ∀w:World,w.heap=H→CallsD P g args u w fun e u2 w'=>e= .returned (.tuple #[])∧u2=u'∧Env w w'∧R w'.heap:=by
 intro w hw;subst hw;rw [DH]at h;simp only [CF,D6]at h;obtain⟨hrv,h⟩:=h;obtain⟨⟨ats,b0⟩,b1,b2,b3,b4,b5⟩:=hB;refine callsD_of_wpS hf hb ?_;intro c₀ cs hc
 let a0:Act:={tmps:=args++UX (fn.ntmps - args.size) undef,defers:=[]}
 have hat0:At (args.toList++UU (fn.ntmps - args.size) undef) a0:=⟨by simp [a0],rfl⟩;refine wpS_seq (wpS_region ?_);have hrun0:(execOp a0.eval o0).run P w= .ok .recover w:=by
  simp only [execOp,b0,resolve];simp [invoke,builtin]
 have key:∀(c':Frame),{c₀ with mode:=u'}=c'→wpOpsS P #[o0,o1] (Exit.thenS (rest.wpS P (bodyPostS P fn c₀ cs fun e u2 w'=>e= .returned (.tuple #[])∧u2=u'∧Env w w'∧R w'.heap)) (bodyPostS P fn c₀ cs fun e u2 w'=>e= .returned (.tuple #[])∧u2=u'∧Env w w'∧R w'.heap)) [1] (a0.put o0.dst rv) (c'::cs) w:=by
  intro c' hc';have hat1:=hat0.put o0.dst rv;have hrun1:(execOp (a0.put o0.dst rv).eval o1).run P w= .ok (.value rv) w:=by
   rw [hat1.evalF,b2];simp only [execOp,b3];have:evF ((args.toList++UU (fn.ntmps - args.size) undef).set t0 rv) (.tmp t0)=rv:=hrv;simp [this]
  have hw1:Region.wanted o1 (yielded #[o0,o1] (a0.put o0.dst rv).tmps)=true:=by simp [Region.wanted,b4]
  unfold wpOpsS;have g1:(#[o0,o1]:Array Oper)[1]? =some o1:=rfl;rw [g1];simp only [hw1,if_true,hrun1];simp only [Oper.upon,wpOpsS,Exit.thenS];refine wpS_of_wp ?_;have hat2:=hat1.put o1.dst rv;rw [b2,b5]at hat2;rw [b2,b5];refine Code.wp_mono ?_ (BH rest _ _ _ _ _ w hat2 h);intro e a' w' h2;have fin:∀fr,At fr a'→Env w w'→R w'.heap→a'.defers=[]∧∃u2,c'::cs={c₀ with mode:=u2}::cs∧∃v,(results fn a'.tmps).run P w'= .ok v w'∧Ending.returned v= .returned (.tuple #[])∧u2=u'∧Env w w'∧R w'.heap:=by
   intro fr h1 h2 h3;refine⟨h1.defers,u',by rw [hc'],.tuple #[],?_,rfl,rfl,h2,h3⟩;simp [results,hres]
  cases e with
  | normal=>obtain⟨fr,h1,h2,h3⟩:=h2;exact fin fr h1 h2 h3
  | ret=>obtain⟨fr,h1,h2,h3⟩:=h2;exact fin fr h1 h2 h3
  | exit id=>obtain⟨fr,h1,h2,h3⟩:=h2;exact h3.elim
  | goto l=>obtain⟨fr,h1,h2,h3⟩:=h2;exact h3.elim
  | panic c=>exact h2.elim
  | outgrown=>exact h2.elim
 have hw0:Region.wanted o0 (yielded #[o0,o1] a0.tmps)=true:=by simp [Region.wanted,b1]
 show wpOpsS P #[o0,o1] _ [0,1] a0 (c₀::cs) w;unfold wpOpsS;have g0:(#[o0,o1]:Array Oper)[0]? =some o0:=rfl;rw [g0];simp only [hw0,if_true,hrun0];cases hu with
 | ret=>
   have:recoverD (c₀::cs)=none:=by simp [recoverD,hc]
   rw [this];exact key c₀ (by rw [←hc])
 | pan=>
   have:recoverD (c₀::cs)=some (rv,{c₀ with mode:=.panicking [{v:=rv,recovered:=true}]}::cs):=by simp [recoverD,hc]
   rw [this];exact key _ rfl
structure Ej(P:Program)(g:FuncId)(args:Array Value)(u u':FrameMode)(H:Aa)(K:Aa→Prop):Prop where
 in_::
 out_:∀w:World,w.heap=H→CallsD P g args u w fun e u2 w'=>e= .returned (.tuple #[])∧u2=u'∧Env w w'∧K w'.heap
theorem Ej.mk{P:Program}{g:FuncId}{args:Array Value}{u u':FrameMode}{H:Aa}{K R:Aa→Prop}(h:∀w:World,w.heap=H→CallsD P g args u w fun e u2 w'=>e= .returned (.tuple #[])∧u2=u'∧Env w w'∧R w'.heap)(k:∀H',R H'→K H'):Ej P g args u u' H K:=
 ⟨fun w hw=>(h w hw).mono fun e u2 w' ⟨h1,h2,h3,h4⟩=>⟨h1,h2,h3,k _ h4⟩⟩
def U3(o1 o2:Oper)(tc:Nat)(g:FuncId)(cap:Array Operand):Prop:=
 o1.op= .makeFunc (.func g) #[] cap∧o1.guard=none∧o1.dst=some tc∧(∃ats,o2.op= .defer {callee:=.value (.tmp tc),args:= #[],argTypes:=ats})∧o2.guard=none∧o2.dst=none
abbrev dfr(g:FuncId)(vs:List Value):Deferred:={target:=.fn (.func g) vs.toArray,args:= #[]}
theorem Ao.of_defer{P:Program}{f:FuncId}{fn:Func}{r0 A B:Code}{idD:Nat}{o1 o2:Oper}{tc:Nat}{g:FuncId}{cap:Array Operand}{args:Array Value}{H:Aa}{R:Value→Aa→Prop}(hf:P.funcs[f]? =some fn)
  (hb:fn.body=some (.seq r0 (.seq A (.seq (.region idD #[o1,o2] false) B)))) (hcall:∀w:World,(callFunc f args).run P w= .ok (.enter f args) w) (hD:U3 o1 o2 tc g cap) (hg:∀(vs:Array Value) (w:World),(callFunc g vs).run P w= .ok (.enter g vs) w)
  (h:GD (args.toList++UU (fn.ntmps - args.size) undef) fun fr=>
   vc P r0 fr H (fun fr1 H1=>vc P A fr1 H1 (fun fr2 H2=>FM fr2 cap.toList fun vs=>wrK fr2 tc (.func (.func g) #[] vs.toArray) fun fr3=>rdK fr3 tc fun fv=>fv= .func (.func g) #[] vs.toArray∧
    vcP P [dfr g vs] (fun fr4 x H4=>Ej P g vs.toArray (.panicking (pe x)) (.panicking [{v:=x,recovered:=true}]) H4 fun H5=>EX P fn.results.toList fr4 H5 fun us=>R (I8 us) H5) B fr3 H2
     (fun fr4 H4=>Ej P g vs.toArray .returning .returning H4 fun H5=>EX P fn.results.toList fr4 H5 fun us=>R (I8 us) H5) []
     (fun fr4 H4=>Ej P g vs.toArray .returning .returning H4 fun H5=>EX P fn.results.toList fr4 H5 fun us=>R (I8 us) H5))
    [] (fun fr4 H4=>EX P fn.results.toList fr4 H4 fun us=>R (I8 us) H4)) [] (fun fr4 H4=>EX P fn.results.toList fr4 H4 fun us=>R (I8 us) H4)):
  Ao P f args H R:=by
 intro w hw;subst hw;refine⟨hcall w,?_⟩;rw [DH]at h;obtain⟨d1,d2,d3,⟨ats,d4⟩,d5,d6⟩:=hD;refine calls_of_wp_defers hf hb ?_
 let a0:Act:={tmps:=args++UX (fn.ntmps - args.size) undef,defers:=[]}
 have hat0:At (args.toList++UU (fn.ntmps - args.size) undef) a0:=⟨by simp [a0],rfl⟩;have early:∀(fr:Fr) (a':Act) (w':World),At fr a'→Env w w'→(EX P fn.results.toList fr w'.heap fun us=>R (I8 us) w'.heap)→Leaves P fn a'.tmps (fun e w'=>∃v,e= .returned v∧Env w w'∧R v w'.heap) a'.defers .returning w':=by
  intro fr a' w' h1 h2 h3;rw [h1.defers];obtain⟨v,e1,e2⟩:=Eh (fn:=fn) (ds:=[]) (R:=fun v=>R v w'.heap) ⟨h1.tmps,h1.defers⟩ h3;exact⟨v,e1,v,rfl,h2,e2⟩
 refine wp_seq (Code.wp_mono ?_ (BH r0 _ _ _ _ a0 w hat0 h));intro e a1 w1 h1;cases e with
 | ret=>obtain⟨fr,k1,k2,k3⟩:=h1;exact early fr a1 w1 k1 k2 k3
 | exit id=>obtain⟨fr,k1,k2,k3⟩:=h1;exact k3.elim
 | goto l=>obtain⟨fr,k1,k2,k3⟩:=h1;exact k3.elim
 | panic c=>exact h1.elim
 | outgrown=>exact h1.elim
 | normal=>
 obtain⟨fr1,k1,k2,k3⟩:=h1;refine wp_seq (Code.wp_mono ?_ (BH A _ _ _ _ a1 w1 k1 k3));intro e a2 w2 h2;cases e with
 | ret=>obtain⟨fr,m1,m2,m3⟩:=h2;exact early fr a2 w2 m1 (k2.trans m2) m3
 | exit id=>obtain⟨fr,m1,m2,m3⟩:=h2;exact m3.elim
 | goto l=>obtain⟨fr,m1,m2,m3⟩:=h2;exact m3.elim
 | panic c=>exact h2.elim
 | outgrown=>exact h2.elim
 | normal=>
 obtain⟨fr2,m1,m2,m3⟩:=h2;have m3:FM fr2 cap.toList _:=m3;rw [FN]at m3;simp only [D6,CF]at m3;obtain⟨m4,m5⟩:=m3;have he2:=k2.trans m2;have hr1:(execOp a2.eval o1).run P w2= .ok (.value (.func (.func g) #[] (cap.toList.map (evF fr2)).toArray)) w2:=by
  rw [m1.evalF];simp only [execOp,d1];simp only [←Vv,Array.toArray_toList];simp [Instr.makeFunc]
 have hat3:=m1.put o1.dst (.func (.func g) #[] (cap.toList.map (evF fr2)).toArray);rw [d3]at hat3;have hr2:(execOp (a2.put o1.dst (.func (.func g) #[] (cap.toList.map (evF fr2)).toArray)).eval o2).run P w2= .ok (.defer (dfr g (cap.toList.map (evF fr2)))) w2:=by
  rw [d3,hat3.evalF];simp only [execOp,d4,resolve];have:evF (fr2.set tc (.func (.func g) #[] (cap.toList.map (evF fr2)).toArray)) (.tmp tc)= .func (.func g) #[] (cap.toList.map (evF fr2)).toArray:=m4;simp [this,Deferred.ofValue]
 refine wp_seq (wp_region_lit (l:=[o1,o2]) ?_);have w1:Region.wanted o1 (yielded #[o1,o2] a2.tmps)=true:=by simp [Region.wanted,d2]
 have w2':∀tm,Region.wanted o2 (yielded #[o1,o2] tm)=true:=fun tm=>by simp [Region.wanted,d5]
 unfold wpList;simp only [w1,if_true];refine .inl ?_;unfold Oper.wp;rw [hr1];simp only [Oper.upon];unfold wpList;simp only [w2',if_true];refine .inl ?_;unfold Oper.wp;rw [hr2];simp only [Oper.upon,wpList,Exit.then];rw [d3];have hat4:AtX [dfr g (cap.toList.map (evF fr2))] (fr2.set tc (.func (.func g) #[] (cap.toList.map (evF fr2)).toArray)) ({(a2.put (some tc) (.func (.func g) #[] (cap.toList.map (evF fr2)).toArray))with defers:=dfr g (cap.toList.map (evF fr2))::(a2.put (some tc) (.func (.func g) #[] (cap.toList.map (evF fr2)).toArray)).defers}.put o2.dst undef):=by
  rw [d6];exact⟨hat3.tmps,by show _::_=_;rw [hat3.defers]⟩
 refine Code.wp_mono ?_ (BP B _ _ _ _ _ w2 hat4 m5);intro e a5 w5 h5;have inv:∀w:World,(invoke (.fn (.func g) (cap.toList.map (evF fr2)).toArray) #[]).run P w= .ok (.enter g (cap.toList.map (evF fr2)).toArray) w:=fun w=>by
  simp only [invoke];rw [Array.empty_append];exact hg _ w
 have fin:∀fr,AtX [dfr g (cap.toList.map (evF fr2))] fr a5→Env w2 w5→(Ej P g (cap.toList.map (evF fr2)).toArray .returning .returning w5.heap fun H5=>EX P fn.results.toList fr H5 fun us=>R (I8 us) H5)→
   Leaves P fn a5.tmps (fun e w'=>∃v,e= .returned v∧Env w w'∧R v w'.heap) a5.defers .returning w5:=by
  intro fr n1 n2 n3;rw [n1.defers];refine leaves_cons (fun h=>by cases h) (inv w5) ((n3.out_ w5 rfl).mono ?_);rintro e u w6 ⟨rfl,rfl,q1,q2⟩;obtain⟨v,e1,e2⟩:=Eh (fn:=fn) (R:=fun v=>R v w6.heap) n1 q2;exact⟨v,e1,v,rfl,(he2.trans n2).trans q1,e2⟩
 cases e with
 | normal=>obtain⟨fr,n1,n2,n3⟩:=h5;exact fin fr n1 n2 n3
 | ret=>obtain⟨fr,n1,n2,n3⟩:=h5;exact fin fr n1 n2 n3
 | exit id=>obtain⟨fr,n1,n2,n3⟩:=h5;exact n3.elim
 | goto l=>obtain⟨fr,n1,n2,n3⟩:=h5;exact n3.elim
 | outgrown=>exact h5.elim
 | panic c=>
   obtain⟨fr,n1,n2,x,rfl,n3⟩:=h5;show Leaves P fn a5.tmps _ a5.defers (.panicking (pe x)) w5;rw [n1.defers];refine leaves_cons (fun h=>by cases h) (inv w5) ((n3.out_ w5 rfl).mono ?_);rintro e u w6 ⟨rfl,rfl,q1,q2⟩;obtain⟨v,e1,e2⟩:=Eh (fn:=fn) (R:=fun v=>R v w6.heap) n1 q2;exact⟨v,e1,v,rfl,(he2.trans n2).trans q1,e2⟩
def QG:ResultVar→Nat
 | .tmp t=>t
 | .cell a _=>a
theorem KB{fr:Fr}{d t:Nat}{v:Value}(h:d≠t):rd (fr.set d v) t=rd fr t:=by
 unfold rd;rw [Vj,Vj,Vc h]
theorem JT{P:Program}{fr:Fr}{d:Nat}{v:Value}{H:Aa}:∀{rs:List ResultVar} {R:List Value→Prop},(∀r∈rs,d≠QG r)→EX P rs (fr.set d v) H R→EX P rs fr H R
 | [],R,_,h=>h
 | .tmp t::rs,R,hd,h=>by
   have h':rdK (fr.set d v) t (fun v'=>EX P rs (fr.set d v) H fun vs=>R (v'::vs)):=h;show rdK fr t (fun v'=>EX P rs fr H fun vs=>R (v'::vs));rw [CF]at h' ⊢;have hne:d≠t:=hd _ Vs;rw [KB hne]at h';exact JT (fun r hr=>hd r (Vq _ hr)) h'
 | .cell x t::rs,R,hd,h=>by
   have h':rdK (fr.set d v) x (fun p=>ldK P t p H fun v'=>EX P rs (fr.set d v) H fun vs=>R (v'::vs)):=h;show rdK fr x (fun p=>ldK P t p H fun v'=>EX P rs fr H fun vs=>R (v'::vs));rw [CF]at h' ⊢;have hne:d≠x:=hd _ Vs;rw [KB hne]at h';have e:(fun v'=>EX P rs (fr.set d v) H fun vs=>R (v'::vs))=fun v'=>EX P rs (fr.set d v) H fun vs=>R (v'::vs):=rfl;revert h';unfold ldK;generalize rd fr x=p;intro h';split at h'
   ·obtain⟨v',e1,e2⟩:=h'.out_;exact⟨⟨v',e1,JT (fun r hr=>hd r (Vq _ hr)) e2⟩⟩
   ·exact h'.elim
theorem Nb{P:Program}{g:FuncId}{vs:Array Value}{rs:List ResultVar}{R:Value→Aa→Prop}{l:List Oper}(hb:(l.all fun o=>match o.dst with | none=>true | some d=>rs.all fun r=> !(d==QG r))=true):
  NJ (fun fr4 x H4=>Ej P g vs (.panicking (pe x)) (.panicking [{v:=x,recovered:=true}]) H4 fun H5=>EX P rs fr4 H5 fun us=>R (I8 us) H5) l:=by
 intro o ho d hd fr v x H h;have h1:=Va.1 hb o ho;rw [hd]at h1;refine Ej.mk h.out_ fun H' h2=>JT (fun r hr=>?_) h2;have:=Va.1 h1 r hr;simpa using this
theorem Ao.of_vcL{P:Program}{f:FuncId}{fn:Func}{c:Code}{args:Array Value}{H:Aa}{R:Value→Aa→Prop}(hf:P.funcs[f]? =some fn)(hb:fn.body=some c)
  (hcall:∀w:World,(callFunc f args).run P w= .ok (.enter f args) w)
  (h:GD (args.toList++UU (fn.ntmps - args.size) undef) fun fr=>vc P c fr H (fun fr' H'=>EX P fn.results.toList fr' H' fun us=>R (I8 us) H') [] (fun fr' H'=>EX P fn.results.toList fr' H' fun us=>R (I8 us) H')):
  Ao P f args H R:=by
 intro w hw;subst hw;refine⟨hcall w,?_⟩;refine calls_of_wp hf hb ?_;rw [DH]at h;have hat:At (args.toList++UU (fn.ntmps - args.size) undef) {tmps:=args++UX (fn.ntmps - args.size) undef,defers:=[]}:=⟨by simp,rfl⟩;refine Code.wp_mono ?_ (BH c _ _ _ _ _ w hat h);intro e a' w' h2;have fin:∀fr,At fr a'→Env w w'→(EX P fn.results.toList fr w'.heap fun us=>R (I8 us) w'.heap)→a'.defers=[]∧∃v,(results fn a'.tmps).run P w'= .ok v w'∧∃v',Ending.returned v= .returned v'∧Env w w'∧R v' w'.heap:=by
  intro fr h1 h2 h3;obtain⟨v,hv,hR⟩:=Eh (fn:=fn) (ds:=[]) (R:=fun v=>R v w'.heap) ⟨h1.tmps,h1.defers⟩ h3;exact⟨h1.defers,v,hv,v,rfl,h2,hR⟩
 cases e with
 | normal=>obtain⟨fr,h1,h2,h3⟩:=h2;exact fin fr h1 h2 h3
 | ret=>obtain⟨fr,h1,h2,h3⟩:=h2;exact fin fr h1 h2 h3
 | exit id=>obtain⟨fr,h1,h2,h3⟩:=h2;exact h3.elim
 | goto l=>obtain⟨fr,h1,h2,h3⟩:=h2;exact h3.elim
 | panic c=>exact h2.elim
 | outgrown=>exact h2.elim
section
variable{α:Type}{ps qs l:List α}{i j:Nat}{p q:α}
theorem lgL(h:ps[i]? =some p):(ps++qs)[i]? =some p:=by rw [Vl (UR.1 h).1];exact h
theorem lsL(h:ps[i]? =some p):(ps++qs).set i q=ps.set i q++qs:=Vr _ _ (UR.1 h).1
theorem lgR(ps l:List α)(j:Nat):(ps++l)[ps.length+j]? =l[j]? :=by
 rw [UY (Vg _ _)];congr 1;omega
theorem lsR(ps l:List α)(j:Nat)(x:α):(ps++l).set (ps.length+j) x=ps++l.set j x:=by
 rw [Vp _ _ (Vg _ _)];congr 2;omega
theorem lgS(h:ps[i]? =some p):(ps.set i q)[i]? =some q:=Vf (UR.1 h).1
theorem U8(h:ps[i]? =some p):ps.set i p=ps:=by
 refine Vu fun j=>?_;by_cases hj:i=j
 ·subst hj;rw [lgS h,h]
 ·rw [Vc hj]
theorem DB(ps l:List α):(ps++l)[ps.length]? =l[0]? :=lgR ps l 0
theorem Ms(ps l:List α)(x:α):(ps++l).set ps.length x=ps++l.set 0 x:=lsR ps l 0 x
end
section
variable{B:Nat→Prop}{H0 H:Aa}{ps qs:List Pc}{e:TypeId}{b:Nat}{l:List Value}
theorem StB.lft(st:StB B H0 H (ps++qs)):StB B H0 H ps:=
 ⟨st.old,st.lt0,st.size,fun p hp=>st.oks p (UV _ hp),fun p hp=>st.rng p (UV _ hp),(Vi.1 st.dis).1⟩
theorem StB.subl(st:StB B H0 H ps)(h:List.Sublist qs ps):StB B H0 H qs:=
 ⟨st.old,st.lt0,st.size,fun p hp=>st.oks p (h.subset hp),fun p hp=>st.rng p (h.subset hp),st.dis.sublist h⟩
theorem Be{P:Program}{t o:Nat}{cs:List Value}{K:Aa→Prop}(st:StB B H0 H ps)(i:Nat)(ht:(P.info? t).map (·.size)=some cs.length)(hp:ps[i]? =some (pB e b l))(ho:o+cs.length≤l.length)(hv:cs.all (·.oneCell')=true)
  (k:∀H',StB B H0 H' (ps.set i (pB e b (Ac l o cs)))→Agr (fun k=>k≠b) H H'→H'.size=H.size→K H'):CP P (Instr.storeAt t (.pointer (some ⟨b,o,none⟩)) (.agg cs.toArray)) H K:=by
 refine VC.stN ht (st.at_ i hp) ho hv ?_;intro H' hb' ha' hs';exact k H' (st.upd i hp (ha'.mono fun k hk hkb=>hk.2 hkb) _ hb' (fun k hk=>.inl hk) (fun k hk=>by rw [hs'];exact(st.in_ i hp hk).2) (by omega)) ha' hs'
theorem QK{P:Program}{t o:Nat}{v:Value}{K:Aa→Prop}(st:StB B H0 H ps)(i:Nat)(ht:C3 P t)(hp:ps[i]? =some (pB e b l))(ho:o<l.length)(hv:v.oneCell'=true)
  (k:∀H',StB B H0 H' (ps.set i (pB e b (l.set o v)))→Agr (fun k=>k≠b) H H'→H'.size=H.size→K H'):CP P (Instr.storeAt t (.pointer (some ⟨b,o,none⟩)) v) H K:=by
 refine VC.st1 ht (st.at_ i hp) ho hv ?_;intro H' hb' ha' hs';exact k H' (st.upd i hp (ha'.mono fun k hk hkb=>hk.2 hkb) _ hb' (fun k hk=>.inl hk) (fun k hk=>by rw [hs'];exact(st.in_ i hp hk).2) (by omega)) ha' hs'
theorem A8{l cs:List Value}(h:cs.length=l.length):Ac l 0 cs=cs:=by unfold Ac;simp [h]
end
end Go.VC
namespace Go.Proofs.YtlnmhfhdjnenoaaGreatDoor
open Go.VC Go.Lib
def bt(t:ByteArray)(i:Nat):Nat:=match t.data[i]? with
 | some b=>b.toNat
 | none=>256
theorem CI{t:ByteArray}{i:Nat}(h:i<t.size):∃b,t.data[i]? =some b∧bt t i=b.toNat∧bt t i<256:=by
 have hl:i<t.data.size:=h;refine⟨t.data[i],UZ hl,?_,?_⟩
 ·unfold bt;rw [UZ hl]
 ·unfold bt;rw [UZ hl];exact UInt8.toNat_lt _
theorem Cb{t:ByteArray}{i:Nat}(h:¬i<t.size):bt t i=256:=by
 have hl:¬i<t.data.size:=h;unfold bt;rw [Array.getElem?_eq_none (by omega)]
theorem CX{t:ByteArray}{i:Nat}(h:bt t i≠256):i<t.size:=by
 apply Classical.byContradiction;intro hn;exact h (Cb hn)
def CT(c:Nat):Option Nat:=if 48≤c∧c≤57 then some (c - 48)else if 97≤c∧c≤102 then some (c - 87)else none
theorem FP{c v:Nat}(h:CT c=some v):v<16:=by
 unfold CT at h;split at h
 ·cases h;omega
 ·split at h
  ·cases h;omega
  ·cases h
def R2:ByteArray:=⟨#[48,49,50,51,52,53,54,55,56,57,97,98,99,100,101,102]⟩
theorem Nk(c:Nat)(hc:c<256):indexByte R2.data.toList (UInt8.ofNat c)=match CT c with | some v=>(v:Int) | none=> -1:=by
 have:∀c:Fin 256,indexByte R2.data.toList (UInt8.ofNat c.1)=match CT c.1 with | some v=>(v:Int) | none=> -1:=by decide+kernel
 exact this ⟨c,hc⟩
def F1(t:ByteArray)(i:Nat):Sum Nat (Nat×Nat):=
 if bt t i=256 then .inl i else if bt t i=110 then .inr (10,i+1)else if bt t i=114 then .inr (13,i+1)else if bt t i=116 then .inr (9,i+1)
 else if bt t i=120 then match CT (bt t (i+1))with
  | none=>.inl (i+1)
  | some a=>match CT (bt t (i+2))with
    | none=>.inl (i+2)
    | some b=>.inr (16*a+b,i+3)
 else if bt t i<32∨126<bt t i∨(48≤bt t i∧bt t i≤57)∨(97≤bt t i∧bt t i≤122)∨(65≤bt t i∧bt t i≤90)then .inl i else .inr (bt t i,i+1)
def Bk(t s:ByteArray)(i:Nat):Sum Nat (Nat×Nat):=
 if bt t i=92 then F1 t (i+1)else if bt t i<32∨126<bt t i∨spB s (bt t i)=true then .inl i else .inr (bt t i,i+1)
def F0(t:ByteArray)(lo j:Nat)(x:BitVec 256)(f:Nat→BitVec 256→Sum Nat (BitVec 256×Nat)):Sum Nat (BitVec 256×Nat):=
 if bt t j=45 then(match Bk t Bg (j+1)with
  | .inl e=>.inl e
  | .inr (hi,k)=>if hi<lo then .inl (j+1)else f k (x ||| AK lo hi))
 else f j (x ||| AK lo lo)
def C9(t:ByteArray):Nat→Nat→BitVec 256→Sum Nat (BitVec 256×Nat)
 | 0,i,_=>.inl i
 | n+1,i,x=>if bt t i=93 then .inr (x,i+1)else match Bk t Bg i with
   | .inl e=>.inl e
   | .inr (lo,j)=>F0 t lo j x (C9 t n)
def Gp(t:ByteArray)(i:Nat):Sum Nat (BitVec 256×Nat):=
 match C9 t (t.size+1) (if bt t i=94 then i+1 else i) 0#256 with
 | .inl e=>.inl e
 | .inr (x,k)=>.inr (if bt t i=94 then ~~~x else x,k)
def Bm(t:ByteArray)(i:Nat):Sum Nat (BitVec 256×Nat):=
 if bt t i=46 then .inr (~~~(AK 10 10),i+1)else if bt t i=91 then Gp t (i+1)else match Bk t Da i with
 | .inl e=>.inl e
 | .inr (b,k)=>.inr (AK b b,k)
theorem Rr{t:ByteArray}{i:Nat}{c j:Nat}(h:F1 t i= .inr (c,j)):c<256∧i<j∧j≤t.size:=by
 unfold F1 at h;split at h
 ·cases h
 ·rename_i h0;have hi:=CX h0;obtain⟨b,-,-,hb⟩:=CI hi;split at h
  ·cases h;omega
  ·split at h
   ·cases h;omega
   ·split at h
    ·cases h;omega
    ·split at h
     ·split at h
      ·cases h
      ·rename_i a ha;split at h
       ·cases h
       ·rename_i b2 hb2;cases h;have h1:=FP ha;have h2:=FP hb2;have h3:i+2<t.size:=CX fun e=>by rw [e]at hb2;cases hb2
        omega
     ·split at h
      ·cases h
      ·cases h;omega
theorem CE{t s:ByteArray}{i:Nat}{c j:Nat}(h:Bk t s i= .inr (c,j)):c<256∧i<j∧j≤t.size:=by
 unfold Bk at h;split at h
 ·have:=Rr h;omega
 ·split at h
  ·cases h
  ·rename_i h1;cases h;have hi:i<t.size:=CX fun e=>h1 (.inr (.inl (by omega)));obtain⟨b,-,-,hb⟩:=CI hi;omega
theorem L1{t:ByteArray}:∀{n i:Nat} {x y:BitVec 256} {k:Nat},C9 t n i x= .inr (y,k)→i<k∧k≤t.size
 | 0,i,x,y,k,h=>by cases h
 | n+1,i,x,y,k,h=>by
   unfold C9 at h;split at h
   ·rename_i h0;cases h;have hi:i<t.size:=CX fun e=>by omega
    omega
   ·split at h
    ·cases h
    ·rename_i lo j h1;have:=CE h1;unfold F0 at h;split at h
     ·split at h
      ·cases h
      ·rename_i hi k2 h2;have:=CE h2;split at h
       ·cases h
       ·have:=L1 h;omega
     ·have:=L1 h;omega
theorem HK{t:ByteArray}{i:Nat}{y:BitVec 256}{k:Nat}(h:Bm t i= .inr (y,k)):i<k∧k≤t.size:=by
 unfold Bm at h;split at h
 ·rename_i h0;cases h;have hi:i<t.size:=CX fun e=>by omega
  omega
 ·split at h
  ·unfold Gp at h;split at h
   ·cases h
   ·rename_i x k2 h1;cases h;have:=L1 h1;split at this<;>omega
  ·split at h
   ·cases h
   ·rename_i b k2 h1;cases h;have:=CE h1;omega
theorem E7:Tryz.prog.underlying 9=some .string:=rfl
abbrev rdL(t:ByteArray)(i:Nat):List Value:=[.string t,.int .i64 (i:Int)]
abbrev pRd(r:Nat)(t:ByteArray)(i:Nat):Pc:=pB 206 r (rdL t i)
def D3(c i:Nat):Value:=.iface 27 (.agg #[.int .i64 (c:Int),.int .i64 (i:Int),.string ⟨#[]⟩])
theorem GI{H:Aa}{r i:Nat}{t:ByteArray}(hb:Blk H r 206 (rdL t i)):Bv Tryz.prog 139 #[.pointer (some ⟨r,0,none⟩)] H (.tuple #[.int .u8 (if bt t i=256 then 0 else(bt t i:Int)),.bool (decide (bt t i≠256))]):=by
 refine Ao.of_vc Tryz.func139 rfl (Tryz.call139 _) (As.lex rfl (by kernel_rfl) (VC.fa A3 ?_));refine ld1 (v:=.int .i64 (i:Int)) ct3 (by rw [hb.cell];rfl) trivial ?_;refine VC.fa Lg ?_;refine ld1 (v:=.string t) ct9 (by rw [hb.cell];rfl) trivial ?_;by_cases hi:i<t.size
 ·obtain⟨b,h1,h2,h3⟩:=CI hi;have d1:decide ((i:Int)<(t.size:Int))=true:=decide_eq_true (by omega);(conv=>whnf);rw [d1];refine As.lex rfl (by kernel_rfl) (VC.fa Lg ?_);refine ld1 (v:=.string t) ct9 (by rw [hb.cell];rfl) trivial ?_;refine VC.fa A3 ?_;refine ld1 (v:=.int .i64 (i:Int)) ct3 (by rw [hb.cell];rfl) trivial ?_;refine CS E7 rfl h1 ?_;(conv=>whnf);refine⟨?_,Agr.refl _ _⟩;rw [if_neg (by omega),decide_eq_true (by omega),h2]
 ·have h2:=Cb hi;have d1:decide ((i:Int)<(t.size:Int))=false:=decide_eq_false (by omega);(conv=>whnf);rw [d1];(conv=>whnf);refine⟨?_,Agr.refl _ _⟩;rw [if_pos h2,decide_eq_false (by omega)]
theorem CQ{H:Aa}{r:Nat}{e:Nat}:BA Tryz.prog 140 #[.pointer (some ⟨r,0,none⟩),.int .i64 (e:Int)] H (fun _ _=>False) (fun x H'=>x=D3 10 e∧H'=H):=by
 refine BA.of_vc Tryz.func140 rfl (Tryz.call140 _) (Av Tryz.underlying27 rfl _ rfl [.int .i64 10,.int .i64 (e:Int),.string ⟨#[]⟩] rfl ?_);(conv=>whnf);exact⟨rfl,rfl⟩
theorem Cu{α:Type}{ps:List α}{i:Nat}{p:α}(h:ps[i]? =some p):ps.set i p=ps:=by
 refine Vu fun j=>?_;by_cases hj:i=j
 ·subst hj;rw [Vf (UR.1 h).1,h]
 ·rw [Vc hj]
theorem GX{α:Type}{ps:List α}{i:Nat}{p q:α}(h:ps[i]? =some p):(ps.set i q)[i]? =some q:=Vf (UR.1 h).1
theorem Su{B:Nat→Prop}{H0 H:Aa}{ps:List Pc}{k r i:Nat}{t:ByteArray}(ht:t.size≤1152921504606846976)(st:StB B H0 H ps)(hp:ps[k]? =some (pRd r t i)):
  BA Tryz.prog 143 #[.pointer (some ⟨r,0,none⟩)] H (fun v H'=>∃c:Nat,CT (bt t i)=some c∧v= .int .u8 (c:Int)∧StB B H0 H' (ps.set k (pRd r t (i+1))))
   (fun x H'=>CT (bt t i)=none∧x=D3 10 i∧StB B H0 H' (ps.set k (pRd r t i))):=by
 refine BA.of_vc Tryz.func143 rfl (Tryz.call143 _) (Ah.of (Af (GI (st.blk k hp)) fun H1 ha1=>?_));have st1:=st.call ha1;by_cases h0:bt t i=256
 ·rw [if_pos h0,decide_eq_false (by omega)];refine Ah.of (Af (Jr R2 0 H1) fun H2 ha2=>?_);have st2:=st1.call ha2;refine AO.run (VC.fa A3 ?_);refine ld1 (v:=.int .i64 ((i:Nat):Int)) ct3 (by rw [(st2.blk k hp).cell];rfl) trivial ?_;refine Ah.mk CQ (fun _ _ h=>h.elim) ?_;rintro _ _ ⟨rfl,rfl⟩;exact⟨by rw [h0];rfl,rfl,by rw [Cu hp];exact st2⟩
 ·have hi:=CX h0;obtain⟨b,hb1,hb2,hb3⟩:=CI hi;rw [if_neg h0,decide_eq_true (by omega)];refine Ah.of (Af (Jr R2 (bt t i) H1) fun H2 ha2=>?_);have st2:=st1.call ha2;rw [Nk _ hb3];cases hx:CT (bt t i)with
  | none=>
    refine AO.run (VC.fa A3 ?_);refine ld1 (v:=.int .i64 ((i:Nat):Int)) ct3 (by rw [(st2.blk k hp).cell];rfl) trivial ?_;refine Ah.mk CQ (fun _ _ h=>h.elim) ?_;rintro _ _ ⟨rfl,rfl⟩;exact⟨rfl,rfl,by rw [Cu hp];exact st2⟩
  | some c=>
    have hc:=FP hx;have d1:decide ((c:Int)<0)=false:=decide_eq_false (by omega);refine AO.run ?_;(conv=>whnf);rw [d1];refine VC.fa A3 ?_;refine ld1 (v:=.int .i64 ((i:Nat):Int)) ct3 (by rw [(st2.blk k hp).cell];rfl) trivial ?_;(conv=>whnf);rw [w64 (x:=((i:Nat):Int)+1) (by omega) (by omega)];refine VC.fa A3 (AG st2 k ct3 hp (by simp) rfl fun H3 st3=>?_);(conv=>whnf);rw [w8 (x:=(c:Int)) (by omega) (by omega)];(conv=>whnf);exact⟨c,rfl,rfl,st3⟩
theorem Hw{B:Nat→Prop}{H0 H:Aa}{ps:List Pc}(hE:DP H0)(hB:B 0)(st:StB B H0 H ps):DP H:=
 ⟨hE.1.eq (st.old _ hB),st.up hB⟩
theorem UC{a b:Nat}(hb:b<16):a*2 ^ 4 ||| b=16*a+b:=by
 have:=Nat.two_pow_add_eq_or_of_lt (i:=4) (b:=b) (by simpa using hb) a;rw [Nat.mul_comm a,←this]
theorem PQ{B:Nat→Prop}{H0 H:Aa}{ps:List Pc}{k r i:Nat}{t:ByteArray}(hE:DP H0)(hEB:B 0)(ht:t.size≤1152921504606846976)(st:StB B H0 H ps)(hp:ps[k]? =some (pRd r t i)):
  BA Tryz.prog 142 #[.pointer (some ⟨r,0,none⟩)] H (fun v H'=>∃c j:Nat,F1 t i= .inr (c,j)∧v= .int .u8 (c:Int)∧StB B H0 H' (ps.set k (pRd r t j)))
   (fun x H'=>∃e j:Nat,F1 t i= .inl e∧x=D3 10 e∧StB B H0 H' (ps.set k (pRd r t j))):=by
 refine BA.of_vc Tryz.func142 rfl (Tryz.call142 _) (Ah.of (Af (GI (st.blk k hp)) fun H1 ha1=>?_));have st1:=st.call ha1;by_cases h0:bt t i=256
 ·rw [if_pos h0,decide_eq_false (by omega)];refine AO.run ?_;(conv=>whnf);refine VC.fa A3 ?_;refine ld1 (v:=.int .i64 ((i:Nat):Int)) ct3 (by rw [(st1.blk k hp).cell];rfl) trivial ?_;refine Ah.mk CQ (fun _ _ h=>h.elim) ?_;rintro _ _ ⟨rfl,rfl⟩;exact⟨i,i,by unfold F1;rw [if_pos h0],rfl,by rw [Cu hp];exact st1⟩
 have hi:=CX h0;obtain⟨b,hb1,hb2,hb3⟩:=CI hi;rw [if_neg h0,decide_eq_true (by omega)];obtain⟨c,hc⟩:∃c,c=bt t i:=⟨_,rfl⟩;rw [←hc]at h0 hb3 ⊢;refine AO.run (ldN (cs:=Nh) Sk (Hw hE hEB st1).1 trivial ?_);(conv=>whnf);refine DU.mk [22] (fun n:Nat=>[.int .i64 (n:Int)]) (fun n H1=>n≤3∧(∀j,j<n→(Gg j).1≠c)∧StB B H0 H1 ps) (fun n _=>3 - n) ?_ ?_
 ·(conv=>whnf);exact⟨0,rfl,by omega,fun j hj=>by omega,st1⟩
 ·rintro n G junk1 ⟨hn,hno,stg⟩;refine AQ.mk (fun hz=>?_) (fun hz=>?_)<;>simp only [decide_eq_true_eq,decide_eq_false_iff_not]at hz
  ·have hex:Nh.toArray.extract (n*2) (n*2+2)= #[.int .u8 ((Gg n).1:Int),.int .u8 ((Gg n).2:Int)]:=by
    have:n=0∨n=1∨n=2:=by omega
    rcases this with rfl | rfl | rfl<;>rfl
   have hsg:(Gg n).1=c→F1 t i= .inr ((Gg n).2,i+1):=fun e=>by
    have:n=0∨n=1∨n=2:=by omega
    unfold F1;rw [←hc,if_neg h0];rcases this with rfl | rfl | rfl<;>(subst e;rfl)
   have h1b:(Gg n).1<256∧(Gg n).2<256:=by
    have:n=0∨n=1∨n=2:=by omega
    rcases this with rfl | rfl | rfl<;>decide
   refine Ua Sn Sj (by omega) (by omega) ?_;rw [Int.toNat_natCast,hex];generalize hl:(Gg n).1=l at*;generalize (Gg n).2=v at*;refine Ag (.agg #[.int .u8 0,.int .u8 0]) [.int .u8 0,.int .u8 0] Sp rfl ?_;intro p2 H2 hp2 hs2 hb2 ha2;have st2:=stg.box hp2 hs2 hb2 ha2;refine Ay (cs:=[.int .u8 (l:Int),.int .u8 (v:Int)]) st2 ps.length rfl (by rw [UY (UP _),Vn];rfl) (UP _) rfl fun H3 st3=>?_;rw [Vp _ _ (UP _),Vn,Ae (by rfl)]at st3;have hb3:Blk H3 p2 188 [.int .u8 (l:Int),.int .u8 (v:Int)]:=st3.blk ps.length (by rw [UY (UP _),Vn];rfl);have hpk:(ps++[pB 188 p2 [.int .u8 (l:Int),.int .u8 (v:Int)]])[k]? =some (pRd r t i):=by
    rw [Vl (UR.1 hp).1];exact hp
   have cutR:∀{H':Aa} {q:Pc},StB B H0 H' ((ps++[pB 188 p2 [.int .u8 (l:Int),.int .u8 (v:Int)]]).set k q)→StB B H0 H' (ps.set k q):=fun h=>by
    rw [Vr _ _ (UR.1 hp).1]at h;exact⟨h.old,h.lt0,h.size,fun p hp=>h.oks p (UV _ hp),fun p hp=>h.rng p (UV _ hp),(Vi.1 h.dis).1⟩
   (conv=>whnf);try (refine AO.run ?_)
   refine VC.fa Oe ?_;refine ld1 (v:=.int .u8 (l:Int)) ct5 (by rw [hb3.cell];rfl) trivial ?_;by_cases he:l=c
   ·have d1:((l:Int)==(c:Int))=true:=by rw [he];exact beq_self_eq_true _
    (conv=>whnf);rw [d1];refine VC.fa A3 ?_;refine ld1 (v:=.int .i64 ((i:Nat):Int)) ct3 (by rw [(st3.blk k hpk).cell];rfl) trivial ?_;(conv=>whnf);rw [w64 (x:=((i:Nat):Int)+1) (by omega) (by omega)];refine VC.fa A3 (AG st3 k ct3 hpk (by simp) rfl fun H4 st4=>?_);have hb4:Blk H4 p2 188 [.int .u8 (l:Int),.int .u8 (v:Int)]:=st4.blk ps.length (by
     rw [Vc (by have:=(UR.1 hp).1;omega),UY (UP _),Vn];rfl)
    refine VC.fa Of ?_;refine ld1 (v:=.int .u8 (v:Int)) ct5 (by rw [hb4.cell];rfl) trivial ?_;(conv=>whnf);exact⟨v,i+1,hsg he,rfl,cutR st4⟩
   ·have d1:((l:Int)==(c:Int))=false:=beq_eq_false_iff_ne.2 (by omega);(conv=>whnf);rw [d1];(conv=>whnf);rw [w64 (x:=(n:Int)+1) (by omega) (by omega)];refine⟨rfl,n+1,rfl,⟨by omega,fun j hj=>?_,⟨st3.old,st3.lt0,st3.size,fun p hp=>st3.oks p (UV _ hp),fun p hp=>st3.rng p (UV _ hp),(Vi.1 st3.dis).1⟩⟩,by omega⟩;rcases Nat.lt_or_eq_of_le (Nat.le_of_lt_succ hj)with hj | rfl
    ·exact hno j hj
    ·rw [hl];exact he
  ·obtain rfl:n=3:=by omega
   have n0:(110:Nat)≠c:=hno 0 (by omega);have n1:(114:Nat)≠c:=hno 1 (by omega);have n2:(116:Nat)≠c:=hno 2 (by omega);have hes:F1 t i=(if c=120 then match CT (bt t (i+1))with
     | none=>.inl (i+1)
     | some a=>match CT (bt t (i+2))with
       | none=>.inl (i+2)
       | some b=>.inr (16*a+b,i+3)
    else if c<32∨126<c∨(48≤c∧c≤57)∨(97≤c∧c≤122)∨(65≤c∧c≤90)then .inl i else .inr (c,i+1)):=by
    unfold F1;rw [←hc,if_neg h0,if_neg (Ne.symm n0),if_neg (Ne.symm n1),if_neg (Ne.symm n2)]
   by_cases hx:c=120
   ·rw [if_pos hx]at hes;have d1:((c:Int)==(120:Int))=true:=by rw [hx];rfl
    (conv=>whnf);try (refine AO.run ?_)
    (conv=>whnf);rw [d1];refine VC.fa A3 ?_;refine ld1 (v:=.int .i64 ((i:Nat):Int)) ct3 (by rw [(stg.blk k hp).cell];rfl) trivial ?_;(conv=>whnf);rw [w64 (x:=((i:Nat):Int)+1) (by omega) (by omega)];refine VC.fa A3 (AG stg k ct3 hp (by simp) rfl fun H4 st4=>?_);have hp4:(ps.set k (pRd r t (i+1)))[k]? =some (pRd r t (i+1)):=GX hp;replace st4:StB B H0 H4 (ps.set k (pRd r t (i+1))):=st4;refine Ah.mk (Su ht st4 hp4) ?_ ?_
    ·rintro _ H5 ⟨a,ha,rfl,st5⟩;have hal:=FP ha;rw [Ve]at st5;have hp5:(ps.set k (pRd r t (i+1+1)))[k]? =some (pRd r t (i+1+1)):=GX hp;refine Tv (b:=4) (by decide) (Qf (by omega)) (Ah.mk (Su ht st5 hp5) ?_ ?_)
     ·rintro _ H6 ⟨b2,hb2',rfl,st6⟩;have hbl:=FP hb2';rw [Ve]at st6;refine vor (Qf (by omega)) (Qf (by omega)) ?_;rw [UC hbl];(conv=>whnf);exact⟨16*a+b2,i+3,by rw [hes,ha];show(match CT (bt t (i+1+1))with | none=>_ | some b=>_)=_;rw [hb2'],rfl,st6⟩
     ·rintro _ H6 ⟨hn,rfl,st6⟩;rw [Ve]at st6;exact⟨i+2,i+2,by rw [hes,ha];show(match CT (bt t (i+1+1))with | none=>_ | some b=>_)=_;rw [hn],rfl,st6⟩
    ·rintro _ H5 ⟨hn,rfl,st5⟩;rw [Ve]at st5;exact⟨i+1,i+1,by rw [hes,hn],rfl,st5⟩
   ·rw [if_neg hx]at hes;have d1:((c:Int)==(120:Int))=false:=beq_eq_false_iff_ne.2 (by omega);(conv=>whnf);try (refine AO.run ?_)
    (conv=>whnf);rw [d1];clear d1;refine AO.run ?_;(conv=>whnf);by_cases hq00:c<32
    ·skip
     have d1:decide ((c:Int)<32)=true:=decide_eq_true (by omega);(conv=>whnf);rw [d1];clear d1;(conv=>whnf);refine VC.fa A3 ?_;refine ld1 (v:=.int .i64 ((i:Nat):Int)) ct3 (by rw [(stg.blk k hp).cell];rfl) trivial ?_;refine Ah.mk CQ (fun _ _ h=>h.elim) ?_;rintro _ _ ⟨rfl,rfl⟩;exact⟨i,i,by rw [hes,if_pos (by omega)],rfl,by rw [Cu hp];exact stg⟩
    ·skip
     have d1:decide ((c:Int)<32)=false:=decide_eq_false (by omega);(conv=>whnf);rw [d1];clear d1;by_cases hq10:126<c
     ·skip
      have d1:decide ((c:Int)>126)=true:=decide_eq_true (by omega);(conv=>whnf);rw [d1];clear d1;(conv=>whnf);refine VC.fa A3 ?_;refine ld1 (v:=.int .i64 ((i:Nat):Int)) ct3 (by rw [(stg.blk k hp).cell];rfl) trivial ?_;refine Ah.mk CQ (fun _ _ h=>h.elim) ?_;rintro _ _ ⟨rfl,rfl⟩;exact⟨i,i,by rw [hes,if_pos (by omega)],rfl,by rw [Cu hp];exact stg⟩
     ·skip
      have d1:decide ((c:Int)>126)=false:=decide_eq_false (by omega);(conv=>whnf);rw [d1];clear d1;by_cases hq20:48≤c
      ·skip
       have d1:decide ((c:Int)≥48)=true:=decide_eq_true (by omega);(conv=>whnf);rw [d1];clear d1;by_cases hq21:c≤57
       ·skip
        have d1:decide ((c:Int)≤57)=true:=decide_eq_true (by omega);(conv=>whnf);rw [d1];clear d1;(conv=>whnf);refine VC.fa A3 ?_;refine ld1 (v:=.int .i64 ((i:Nat):Int)) ct3 (by rw [(stg.blk k hp).cell];rfl) trivial ?_;refine Ah.mk CQ (fun _ _ h=>h.elim) ?_;rintro _ _ ⟨rfl,rfl⟩;exact⟨i,i,by rw [hes,if_pos (by omega)],rfl,by rw [Cu hp];exact stg⟩
       ·skip
        have d1:decide ((c:Int)≤57)=false:=decide_eq_false (by omega);(conv=>whnf);rw [d1];clear d1;by_cases hq30:97≤c
        ·skip
         have d1:decide ((c:Int)≥97)=true:=decide_eq_true (by omega);(conv=>whnf);rw [d1];clear d1;by_cases hq31:c≤122
         ·skip
          have d1:decide ((c:Int)≤122)=true:=decide_eq_true (by omega);(conv=>whnf);rw [d1];clear d1;(conv=>whnf);refine VC.fa A3 ?_;refine ld1 (v:=.int .i64 ((i:Nat):Int)) ct3 (by rw [(stg.blk k hp).cell];rfl) trivial ?_;refine Ah.mk CQ (fun _ _ h=>h.elim) ?_;rintro _ _ ⟨rfl,rfl⟩;exact⟨i,i,by rw [hes,if_pos (by omega)],rfl,by rw [Cu hp];exact stg⟩
         ·skip
          have d1:decide ((c:Int)≤122)=false:=decide_eq_false (by omega);(conv=>whnf);rw [d1];clear d1;have d1:decide ((c:Int)≥65)=true:=decide_eq_true (by omega);(conv=>whnf);rw [d1];clear d1;have d1:decide ((c:Int)≤90)=false:=decide_eq_false (by omega);(conv=>whnf);rw [d1];clear d1;(conv=>whnf);refine VC.fa A3 ?_;refine ld1 (v:=.int .i64 ((i:Nat):Int)) ct3 (by rw [(stg.blk k hp).cell];rfl) trivial ?_;(conv=>whnf);rw [w64 (x:=((i:Nat):Int)+1) (by omega) (by omega)];refine VC.fa A3 (AG stg k ct3 hp (by simp) rfl fun H4 st4=>?_);(conv=>whnf);exact⟨c,i+1,by rw [hes,if_neg (by omega)],rfl,st4⟩
        ·skip
         have d1:decide ((c:Int)≥97)=false:=decide_eq_false (by omega);(conv=>whnf);rw [d1];clear d1;by_cases hq40:65≤c
         ·skip
          have d1:decide ((c:Int)≥65)=true:=decide_eq_true (by omega);(conv=>whnf);rw [d1];clear d1;by_cases hq41:c≤90
          ·skip
           have d1:decide ((c:Int)≤90)=true:=decide_eq_true (by omega);(conv=>whnf);rw [d1];clear d1;(conv=>whnf);refine VC.fa A3 ?_;refine ld1 (v:=.int .i64 ((i:Nat):Int)) ct3 (by rw [(stg.blk k hp).cell];rfl) trivial ?_;refine Ah.mk CQ (fun _ _ h=>h.elim) ?_;rintro _ _ ⟨rfl,rfl⟩;exact⟨i,i,by rw [hes,if_pos (by omega)],rfl,by rw [Cu hp];exact stg⟩
          ·skip
           have d1:decide ((c:Int)≤90)=false:=decide_eq_false (by omega);(conv=>whnf);rw [d1];clear d1;(conv=>whnf);refine VC.fa A3 ?_;refine ld1 (v:=.int .i64 ((i:Nat):Int)) ct3 (by rw [(stg.blk k hp).cell];rfl) trivial ?_;(conv=>whnf);rw [w64 (x:=((i:Nat):Int)+1) (by omega) (by omega)];refine VC.fa A3 (AG stg k ct3 hp (by simp) rfl fun H4 st4=>?_);(conv=>whnf);exact⟨c,i+1,by rw [hes,if_neg (by omega)],rfl,st4⟩
         ·skip
          have d1:decide ((c:Int)≥65)=false:=decide_eq_false (by omega);(conv=>whnf);rw [d1];clear d1;(conv=>whnf);refine VC.fa A3 ?_;refine ld1 (v:=.int .i64 ((i:Nat):Int)) ct3 (by rw [(stg.blk k hp).cell];rfl) trivial ?_;(conv=>whnf);rw [w64 (x:=((i:Nat):Int)+1) (by omega) (by omega)];refine VC.fa A3 (AG stg k ct3 hp (by simp) rfl fun H4 st4=>?_);(conv=>whnf);exact⟨c,i+1,by rw [hes,if_neg (by omega)],rfl,st4⟩
      ·skip
       have d1:decide ((c:Int)≥48)=false:=decide_eq_false (by omega);(conv=>whnf);rw [d1];clear d1;have d1:decide ((c:Int)≥97)=false:=decide_eq_false (by omega);(conv=>whnf);rw [d1];clear d1;have d1:decide ((c:Int)≥65)=false:=decide_eq_false (by omega);(conv=>whnf);rw [d1];clear d1;(conv=>whnf);refine VC.fa A3 ?_;refine ld1 (v:=.int .i64 ((i:Nat):Int)) ct3 (by rw [(stg.blk k hp).cell];rfl) trivial ?_;(conv=>whnf);rw [w64 (x:=((i:Nat):Int)+1) (by omega) (by omega)];refine VC.fa A3 (AG stg k ct3 hp (by simp) rfl fun H4 st4=>?_);(conv=>whnf);exact⟨c,i+1,by rw [hes,if_neg (by omega)],rfl,st4⟩
theorem FR{B:Nat→Prop}{H0 H:Aa}{ps:List Pc}{k r i:Nat}{t s:ByteArray}(hE:DP H0)(hEB:B 0)(ht:t.size≤1152921504606846976)(st:StB B H0 H ps)(hp:ps[k]? =some (pRd r t i)):
  BA Tryz.prog 136 #[.pointer (some ⟨r,0,none⟩),.string s] H (fun v H'=>∃c j:Nat,Bk t s i= .inr (c,j)∧v= .int .u8 (c:Int)∧StB B H0 H' (ps.set k (pRd r t j)))
   (fun x H'=>∃e j:Nat,Bk t s i= .inl e∧x=D3 10 e∧StB B H0 H' (ps.set k (pRd r t j))):=by
 refine BA.of_vc Tryz.func136 rfl (Tryz.call136 _) (Ah.of (Af (GI (st.blk k hp)) fun H1 ha1=>?_));have st1:=st.call ha1;by_cases h0:bt t i=256
 ·rw [if_pos h0,decide_eq_false (by omega)];refine AO.run ?_;(conv=>whnf);refine VC.fa A3 ?_;refine ld1 (v:=.int .i64 ((i:Nat):Int)) ct3 (by rw [(st1.blk k hp).cell];rfl) trivial ?_;refine Ah.mk CQ (fun _ _ h=>h.elim) ?_;rintro _ _ ⟨rfl,rfl⟩;exact⟨i,i,by unfold Bk;rw [h0,if_neg (by decide),if_pos (.inr (.inl (by decide)))],rfl,by rw [Cu hp];exact st1⟩
 have hi:=CX h0;obtain⟨b,hb1,hb2,hb3⟩:=CI hi;rw [if_neg h0,decide_eq_true (by omega)];obtain⟨c,hc⟩:∃c,c=bt t i:=⟨_,rfl⟩;rw [←hc]at h0 hb3 ⊢;by_cases h92:c=92
 ·have d1:((c:Int)==(92:Int))=true:=by rw [h92];rfl
  have ho:Bk t s i=F1 t (i+1):=by unfold Bk;rw [←hc,if_pos h92]
  (conv=>whnf);rw [d1];refine VC.fa A3 ?_;refine ld1 (v:=.int .i64 ((i:Nat):Int)) ct3 (by rw [(st1.blk k hp).cell];rfl) trivial ?_;(conv=>whnf);rw [w64 (x:=((i:Nat):Int)+1) (by omega) (by omega)];refine VC.fa A3 (AG st1 k ct3 hp (by simp) rfl fun H4 st4=>?_);replace st4:StB B H0 H4 (ps.set k (pRd r t (i+1))):=st4;have hp4:(ps.set k (pRd r t (i+1)))[k]? =some (pRd r t (i+1)):=GX hp;refine Ah.mk (PQ hE hEB ht st4 hp4) ?_ ?_
  ·rintro _ H5 ⟨a,j,ha,rfl,st5⟩;rw [Ve]at st5;(conv=>whnf);exact⟨a,j,by rw [ho];exact ha,rfl,st5⟩
  ·rintro _ H5 ⟨e,j,ha,rfl,st5⟩;rw [Ve]at st5;exact⟨e,j,by rw [ho];exact ha,rfl,st5⟩
 have d0:((c:Int)==(92:Int))=false:=beq_eq_false_iff_ne.2 (by omega);have ho:Bk t s i=if c<32∨126<c∨spB s c=true then .inl i else .inr (c,i+1):=by unfold Bk;rw [←hc,if_neg h92]
 (conv=>whnf);rw [d0];refine AO.run ?_;(conv=>whnf);by_cases hq00:c<32
 ·skip
  have d1:decide ((c:Int)<32)=true:=decide_eq_true (by omega);(conv=>whnf);rw [d1];clear d1;(conv=>whnf);refine VC.fa A3 ?_;refine ld1 (v:=.int .i64 ((i:Nat):Int)) ct3 (by rw [(st1.blk k hp).cell];rfl) trivial ?_;refine Ah.mk CQ (fun _ _ h=>h.elim) ?_;rintro _ _ ⟨rfl,rfl⟩;exact⟨i,i,by rw [ho,if_pos (by omega)],rfl,by rw [Cu hp];exact st1⟩
 ·skip
  have d1:decide ((c:Int)<32)=false:=decide_eq_false (by omega);(conv=>whnf);rw [d1];clear d1;by_cases hq10:126<c
  ·skip
   have d1:decide ((c:Int)>126)=true:=decide_eq_true (by omega);(conv=>whnf);rw [d1];clear d1;(conv=>whnf);refine VC.fa A3 ?_;refine ld1 (v:=.int .i64 ((i:Nat):Int)) ct3 (by rw [(st1.blk k hp).cell];rfl) trivial ?_;refine Ah.mk CQ (fun _ _ h=>h.elim) ?_;rintro _ _ ⟨rfl,rfl⟩;exact⟨i,i,by rw [ho,if_pos (by omega)],rfl,by rw [Cu hp];exact st1⟩
  ·skip
   have d1:decide ((c:Int)>126)=false:=decide_eq_false (by omega);(conv=>whnf);rw [d1];clear d1;refine Ah.of (Af (Jr s c H1) fun H2 ha2=>?_);have st2:=st1.call ha2;(conv=>whnf);rw [O3];cases hsp:spB s c with
   | true=>
     (conv=>whnf);refine VC.fa A3 ?_;refine ld1 (v:=.int .i64 ((i:Nat):Int)) ct3 (by rw [(st2.blk k hp).cell];rfl) trivial ?_;refine Ah.mk CQ (fun _ _ h=>h.elim) ?_;rintro _ _ ⟨rfl,rfl⟩;exact⟨i,i,by rw [ho,if_pos (.inr (.inr hsp))],rfl,by rw [Cu hp];exact st2⟩
   | false=>
     (conv=>whnf);refine VC.fa A3 ?_;refine ld1 (v:=.int .i64 ((i:Nat):Int)) ct3 (by rw [(st2.blk k hp).cell];rfl) trivial ?_;(conv=>whnf);rw [w64 (x:=((i:Nat):Int)+1) (by omega) (by omega)];refine VC.fa A3 (AG st2 k ct3 hp (by simp) rfl fun H4 st4=>?_);(conv=>whnf);exact⟨c,i+1,by rw [ho,if_neg (by rw [hsp];simp;omega)],rfl,st4⟩
def AV(a:ReM):ReM:=.alt a .eps
def PK(q:Option ReM)(p:ReM):ReM:=match q with
 | none=>p
 | some q=>.cat q p
def B9(a:ReM)(m:Nat):Nat→Option ReM
 | 0=>none
 | k+1=>some (PK (B9 a m k) (if k<m then a else AV a))
def BG(a:ReM)(m:Nat)(n:Int):ReM:=
 if n<0 then(if m=0 then .star a else .cat ((B9 a m m).getD .eps) (.star a))else if n=0 then .eps else(B9 a m n.toNat).getD .eps
structure AF where
 place:Int
 alt:Option ReM
 meet:Option ReM
 sign:Nat
 row:Option ReM
 factor:Option ReM
def Aw(f:AF):AF:=match f.factor with
 | none=>f
 | some p=>{f with row:=some (PK f.row p),factor:=none}
def BV(f:AF):AF:=
 let g:=Aw f
 let r:=g.row.getD .eps
 {g with meet:=some (match g.meet with | none=>r | some q=>if g.sign=38 then .and_ q r else .minus q r),row:=none}
def Cl(f:AF):AF:=
 let g:=BV f
 let r:=g.meet.getD .eps
 {g with alt:=some (match g.alt with | none=>r | some q=>.alt q r),meet:=none}
def DJ(place:Int):AF:=⟨place,none,none,0,none,none⟩
def Do(t:ByteArray)(i:Nat):Bool:=decide (48≤bt t i∧bt t i≤57)
def Bz(t:ByteArray):Nat→Nat→Nat→Nat×Nat
 | 0,i,v=>(v,i)
 | k+1,i,v=>if Do t i then Bz t k (i+1) (10*v+(bt t i - 48))else(v,i)
def upM(t:ByteArray)(m i:Nat):Sum (Nat×Nat) (Int×Nat):=
 if bt t i=44 then(if bt t (i+1)=125 then .inr (-1,i+1)else if Do t (i+1)then .inr (((Bz t 3 (i+1) 0).1:Int),(Bz t 3 (i+1) 0).2)else .inl (20,i+1))else .inr ((m:Int),i)
def E1(t:ByteArray)(from_ m:Nat)(n:Int)(i:Nat):Sum (Nat×Nat) (Nat×Int×Nat):=
 if bt t i=125 then(if 255<m∨255<n∨(0≤n∧n<(m:Int))then .inl (22,from_)else .inr (m,n,i+1))else .inl (20,i)
def BD(t:ByteArray)(from_:Nat):Sum (Nat×Nat) (Nat×Int×Nat):=
 if Do t (from_+1)then(match upM t (Bz t 3 (from_+1) 0).1 (Bz t 3 (from_+1) 0).2 with
  | .inl e=>.inl e
  | .inr (n,i)=>E1 t from_ (Bz t 3 (from_+1) 0).1 n i)
 else .inl (20,from_+1)
theorem Fm{t:ByteArray}:∀(k i v:Nat),i≤(Bz t k i v).2∧(Bz t k i v).2≤i+k∧(i≤t.size→(Bz t k i v).2≤t.size)
 | 0,i,v=>⟨UP _,UP _,fun h=>h⟩
 | k+1,i,v=>by
   unfold Bz;split
   ·rename_i h;obtain⟨h1,h2,h3⟩:=Fm (t:=t) k (i+1) (10*v+(bt t i - 48));unfold Do at h;have h:=of_decide_eq_true h;have hi:i<t.size:=CX (by omega);exact⟨by omega,by omega,fun _=>h3 (by omega)⟩
   ·exact⟨UP _,by omega,fun h=>h⟩
theorem Jv{t:ByteArray}:∀(k i v:Nat),(Bz t k i v).1<(v+1)*10 ^ k
 | 0,i,v=>by unfold Bz;simp
 | k+1,i,v=>by
   unfold Bz;split
   ·rename_i h;unfold Do at h;have h:=of_decide_eq_true h;have h1:=Jv (t:=t) k (i+1) (10*v+(bt t i - 48));refine Nat.lt_of_lt_of_le h1 ?_;rw [Nat.pow_succ,Nat.mul_comm (10 ^ k) 10,←Nat.mul_assoc];exact Nat.mul_le_mul_right _ (by omega)
   ·show v<(v+1)*10 ^ (k+1);have:1≤10 ^ (k+1):=Nat.one_le_pow _ _ (by omega);have:=Nat.mul_le_mul (UP (v+1)) this;omega
theorem Hr{t:ByteArray}{p m j:Nat}{n:Int}(h:BD t p= .inr (m,n,j)):p<j∧j≤t.size∧m≤255∧n≤255∧(0≤n→(m:Int)≤n)∧ -1≤n:=by
 unfold BD at h;split at h
 ·obtain⟨a1,a2,-⟩:=Fm (t:=t) 3 (p+1) 0;generalize Bz t 3 (p+1) 0=q at h a1 a2;split at h
  ·cases h
  ·rename_i n2 i2 hu;have hi2:q.2≤i2∧ -1≤n2:=by
    unfold upM at hu;split at hu
    ·split at hu
     ·cases hu;exact⟨by omega,by omega⟩
     ·split at hu
      ·obtain⟨b1,b2,-⟩:=Fm (t:=t) 3 (q.2+1) 0;cases hu;exact⟨by omega,by omega⟩
      ·cases hu
    ·cases hu;exact⟨UP _,by omega⟩
   unfold E1 at h;split at h
   ·rename_i h125;split at h
    ·cases h
    ·rename_i hc;cases h;have:i2<t.size:=CX (by omega);refine⟨by omega,by omega,?_,?_,?_,hi2.2⟩<;>omega
   ·cases h
 ·cases h
def E6(c:Nat):Bool:=c==42|| c==43|| c==63|| c==123
def DT(t:ByteArray)(i:Nat):Sum (Nat×Nat) (Nat×Int×Nat):=
 if bt t i=42 then .inr (0,-1,i+1)else if bt t i=43 then .inr (1,-1,i+1)else if bt t i=63 then .inr (0,1,i+1)else BD t i
structure RdS where
 i:Nat
 f:AF
 fs:List AF
def BO(t:ByteArray)(s:RdS):Sum (Nat×Nat) RdS:=
 if E6 (bt t s.i)then(match s.f.factor with
  | none=>.inl (20,s.i)
  | some a=>match DT t s.i with
    | .inl e=>.inl e
    | .inr (m,n,k)=>.inr ⟨k,{s.f with factor:=some (BG a m n)},s.fs⟩)
 else if bt t s.i=124 then .inr ⟨s.i+1,Cl s.f,s.fs⟩
 else if bt t s.i=38∨bt t s.i=45 then .inr ⟨s.i+1,{BV s.f with sign:=bt t s.i},s.fs⟩
 else if bt t s.i=41 then(match s.fs with
  | []=>.inl (20,s.i)
  | g::r=>.inr ⟨s.i+1,{g with factor:=(Cl s.f).alt},r⟩)
 else if bt t s.i=40 then(if 1000≤s.fs.length then .inl (23,s.i)else .inr ⟨s.i+1,DJ s.i,Aw s.f::s.fs⟩)
 else match Bm t s.i with
  | .inl e=>.inl (10,e)
  | .inr (x,k)=>.inr ⟨k,{Aw s.f with factor:=some (.cls x)},s.fs⟩
theorem M4{t:ByteArray}{s s':RdS}(h:BO t s= .inr s')(hi:s.i<t.size):s.i<s'.i∧s'.i≤t.size:=by
 unfold BO at h;split at h
 ·rename_i hp;split at h
  ·cases h
  ·split at h
   ·cases h
   ·rename_i m n k hpm;cases h;unfold DT at hpm;split at hpm
    ·cases hpm;exact⟨UW _,hi⟩
    ·split at hpm
     ·cases hpm;exact⟨UW _,hi⟩
     ·split at hpm
      ·cases hpm;exact⟨UW _,hi⟩
      ·have:=Hr hpm;exact⟨this.1,this.2.1⟩
 ·split at h
  ·cases h;exact⟨UW _,hi⟩
  ·split at h
   ·cases h;exact⟨UW _,hi⟩
   ·split at h
    ·split at h
     ·cases h
     ·cases h;exact⟨UW _,hi⟩
    ·split at h
     ·split at h
      ·cases h
      ·cases h;exact⟨UW _,hi⟩
     ·split at h
      ·cases h
      ·rename_i x k hr;cases h;exact HK hr
def Pf(s:RdS):Sum (Nat×Int) ReM:=match s.fs with
 | []=>let r:=(Cl s.f).alt.getD .eps;if 2000<r.nodes then .inl (24,0)else .inr r
 | _::_=>.inl (21,s.f.place)
def Qi(e:Nat×Nat):Nat×Int:=(e.1,(e.2:Int))
def F8(t:ByteArray):Nat→RdS→Sum (Nat×Int) ReM
 | 0,s=>Pf s
 | n+1,s=>if s.i<t.size then(match BO t s with
   | .inl e=>.inl (Qi e)
   | .inr s'=>F8 t n s')else Pf s
def BC(t:ByteArray)(s:RdS):Sum (Nat×Int) ReM:=F8 t (t.size - s.i) s
theorem EC{t:ByteArray}:∀(n m:Nat) (s:RdS),t.size - s.i≤n→t.size - s.i≤m→F8 t n s=F8 t m s
 | 0,0,s,_,_=>rfl
 | 0,m+1,s,h,_=>by unfold F8;rw [if_neg (by omega)]
 | n+1,0,s,_,h=>by unfold F8;rw [if_neg (by omega)]
 | n+1,m+1,s,h1,h2=>by
   unfold F8;by_cases hi:s.i<t.size
   ·rw [if_pos hi,if_pos hi];cases hs:BO t s with
    | inl e=>rfl
    | inr s'=>
      have:=M4 hs hi;exact EC n m s' (by omega) (by omega)
   ·rw [if_neg hi,if_neg hi]
theorem D8{t:ByteArray}{s s':RdS}(hi:s.i<t.size)(h:BO t s= .inr s'):BC t s=BC t s':=by
 have hk:=M4 h hi;have e:BC t s=F8 t (t.size - s.i - 1+1) s:=EC _ _ _ (UP _) (by omega);rw [e,F8,if_pos hi,h];exact EC _ _ _ (by omega) (UP _)
theorem DL{t:ByteArray}{s:RdS}{e:Nat×Nat}(hi:s.i<t.size)(h:BO t s= .inl e):BC t s= .inl (Qi e):=by
 have e1:BC t s=F8 t (t.size - s.i - 1+1) s:=EC _ _ _ (UP _) (by omega);rw [e1,F8,if_pos hi,h]
theorem JN{t:ByteArray}{s:RdS}(hi:¬s.i<t.size):BC t s=Pf s:=by
 unfold BC;rw [show t.size - s.i=0 by omega];rfl
def DK(t:ByteArray):Sum (Nat×Int) ReM:=if 1048576<t.size then .inl (1,0)else BC t ⟨0,DJ (-1),[]⟩
end Go.Proofs.YtlnmhfhdjnenoaaGreatDoor
namespace Go.VC
theorem StB.rebase{B:Nat→Prop}{H0 H:Aa}{ps:List Pc}(st:StB B H0 H ps):StB B H H ps:=⟨Agr.refl _ _,fun k hk=>st.up hk,UP _,st.oks,st.rng,st.dis⟩
theorem StB.widen{B:Nat→Prop}{H0 H H':Aa}{ps:List Pc}(st:StB B H0 H ps)(ha:Agr (Old H) H H')(N:Nat→Prop)(hN:∀k,N k→H.size≤k∧k<H'.size):StB (fun k=>B k∨N k) H' H' ps:=by
 have st':=st.call ha;refine⟨Agr.refl _ _,fun k hk=>?_,UP _,st'.oks,fun p hp k hk=>⟨fun hB=>?_,(st'.rng p hp k hk).2⟩,st'.dis⟩
 ·rcases hk with hk | hk
  ·exact st'.up hk
  ·exact(hN k hk).2
 ·rcases hB with hB | hB
  ·exact(st.rng p hp k hk).1 hB
  ·have:=(st.rng p hp k hk).2;have:=(hN k hB).1;omega
end Go.VC
namespace Go.Proofs.YtlnmhfhdjnenoaaGreatDoor
open Go.VC Go.Lib
inductive ROp
 | alt
 | cat
 | and_
 | minus
def opR:ROp→ReM→ReM→ReM
 | .alt=>.alt
 | .cat=>.cat
 | .and_=>.and_
 | .minus=>.minus
def opF:ROp→FuncId
 | .alt=>53
 | .cat=>101
 | .and_=>79
 | .minus=>80
theorem K3(op:ROp)(a b:ReM):(opR op a b).nodes=1+a.nodes+b.nodes:=by cases op<;>rfl
def szR(r:ReM):Nat:=min r.nodes 2001
def Ab(r:ReM)(fn:Value):List Value:=[.int .i64 ((szR r:Nat):Int),fn]
inductive Ck(B:Nat→Prop)(H:Aa):Value→ReM→Prop
 | leaf {b:Nat} {r:ReM}:B b→Blk H b 24 [Ad r]→Ck B H (.func (.func 108) #[] #[.pointer (some ⟨b,0,none⟩)]) r
 | join {b1 b2 b3:Nat} {va vb:Value} {ra rb:ReM} (op:ROp):B b1→B b2→B b3→Blk H b1 135 [.func (.func (opF op)) #[] #[]]→Blk H b2 77 (Ab ra va)→Blk H b3 77 (Ab rb vb)→
   Ck B H va ra→Ck B H vb rb→Ck B H (.func (.func 82) #[] #[.pointer (some ⟨b1,0,none⟩),.pointer (some ⟨b2,0,none⟩),.pointer (some ⟨b3,0,none⟩)]) (opR op ra rb)
 | star {b:Nat} {va:Value} {ra:ReM}:B b→Blk H b 77 (Ab ra va)→Ck B H va ra→Ck B H (.func (.func 124) #[] #[.pointer (some ⟨b,0,none⟩)]) (.star ra)
theorem Ck.frame{B B':Nat→Prop}{H H':Aa}{v:Value}{r:ReM}(h:Ck B H v r)(k:Agr B H H')(s:∀k,B k→B' k):Ck B' H' v r:=by
 induction h with
 | leaf h1 h2=>exact .leaf (s _ h1) (h2.agr k h1)
 | join op h1 h2 h3 h4 h5 h6 _ _ ih1 ih2=>exact .join op (s _ h1) (s _ h2) (s _ h3) (h4.agr k h1) (h5.agr k h2) (h6.agr k h3) ih1 ih2
 | star h1 h2 _ ih=>exact .star (s _ h1) (h2.agr k h1) ih
theorem OE{B:Nat→Prop}{H H':Aa}(ha:Agr B H H')(hB:∀k,B k→k<H.size){k:Nat}(hk:B k):k<H'.size:=by
 have h:=ha k hk;rw [UZ (hB k hk)]at h;exact(Array.getElem?_eq_some_iff.1 h).1
theorem UB(op:ROp)(a b:ReM)(H:Aa):Bv Tryz.prog (opF op) #[Ad a,Ad b] H (Ad (opR op a b)):=by
 obtain⟨T1,v1,e1⟩:=F4 a;obtain⟨T2,v2,e2⟩:=F4 b;cases op with
 | alt=>
   show Bv Tryz.prog 53 #[Ad a,Ad b] H (.iface 163 (.agg #[Ad a,Ad b]));rw [e1,e2];refine Ao.of_vc Tryz.func53 rfl (Tryz.call53 _) (Av Tryz.underlying163 rfl _ rfl [.iface T1 v1,.iface T2 v2] rfl ?_);(conv=>whnf);exact⟨rfl,Agr.refl _ _⟩
 | cat=>
   show Bv Tryz.prog 101 #[Ad a,Ad b] H (.iface 132 (.agg #[Ad a,Ad b]));rw [e1,e2];refine Ao.of_vc Tryz.func101 rfl (Tryz.call101 _) (Av Tryz.underlying132 rfl _ rfl [.iface T1 v1,.iface T2 v2] rfl ?_);(conv=>whnf);exact⟨rfl,Agr.refl _ _⟩
 | and_=>
   show Bv Tryz.prog 79 #[Ad a,Ad b] H (.iface 166 (.agg #[Ad a,Ad b]));rw [e1,e2];refine Ao.of_vc Tryz.func79 rfl (Tryz.call79 _) (Av Tryz.underlying166 rfl _ rfl [.iface T1 v1,.iface T2 v2] rfl ?_);(conv=>whnf);exact⟨rfl,Agr.refl _ _⟩
 | minus=>
   show Bv Tryz.prog 80 #[Ad a,Ad b] H (.iface 167 (.agg #[Ad a,Ad b]));rw [e1,e2];refine Ao.of_vc Tryz.func80 rfl (Tryz.call80 _) (Av Tryz.underlying167 rfl _ rfl [.iface T1 v1,.iface T2 v2] rfl ?_);(conv=>whnf);exact⟨rfl,Agr.refl _ _⟩
theorem Jd(cap:Array Value):(((#[]:Array Value).toList++([]:List Value))++cap.toList).toArray=cap:=by simp
theorem SL{B:Nat→Prop}{H:Aa}{v:Value}{r:ReM}(h:Ck B H v r)(hB:∀k,B k→k<H.size):∃g cap,v= .func (.func g) #[] cap∧∀H',Agr B H H'→Bv Tryz.prog g cap H' (Ad r):=by
 induction h with
 | @leaf b r h1 h2=>
   refine⟨_,_,rfl,fun H' ha=>?_⟩;have hb:=h2.agr ha h1;refine Ao.of_vc Tryz.func108 rfl (Tryz.call108 _) ?_;refine ld1 (v:=Ad r) C8 (by rw [hb.cell];rfl) trivial ?_;(conv=>whnf);exact⟨rfl,Agr.refl _ _⟩
 | @join b1 b2 b3 va vb ra rb op h1 h2 h3 h4 h5 h6 _ _ ih1 ih2=>
   refine⟨_,_,rfl,fun H' ha=>?_⟩;have k4:=h4.agr ha h1;have k5:=h5.agr ha h2;have k6:=h6.agr ha h3;obtain⟨g1,c1,rfl,p1⟩:=ih1;obtain⟨g2,c2,rfl,p2⟩:=ih2;refine Ao.of_vc Tryz.func82 rfl (Tryz.call82 _) (As.held (Old H') 9 (sq [0,1,2,4,5] (.f 3 (.f 6 (.f 7 (.f 8 .e))))) rfl (by kernel_rfl) ?_);refine ld1 (v:=.func (.func (opF op)) #[] #[]) TL (by rw [k4.cell];rfl) k4.lt ?_;refine VC.fa Lq ?_;refine ld1 (v:=.func (.func g1) #[] c1) Rm (by rw [k5.cell];rfl) k5.lt ?_;refine VC.fa Lq ?_;refine ld1 (v:=.func (.func g2) #[] c2) Rm (by rw [k6.cell];rfl) k6.lt ?_;(conv=>whnf);rw [Jd];refine Af (p1 H' ha) fun G1 ga1=>?_;refine⟨ga1,?_⟩;have ha2:Agr B H G1:=ha.trans (ga1.mono fun k hk=>OE ha hB hk);(conv=>whnf);rw [Jd];refine Af (p2 G1 ha2) fun G2 ga2=>?_;have ga3:=ga1.trans (ga2.mono fun k hk=>A0 ga1 hk);refine⟨ga3,?_⟩;refine Af (UB op ra rb G2) fun G3 ga4=>?_;have ga5:=ga3.trans (ga4.mono fun k hk=>A0 ga3 hk);refine⟨ga5,?_⟩;(conv=>whnf);refine⟨ga5,?_⟩;exact⟨rfl,ga5⟩
 | @star b va ra h1 h2 _ ih=>
   refine⟨_,_,rfl,fun H' ha=>?_⟩;have k2:=h2.agr ha h1;obtain⟨g1,c1,rfl,p1⟩:=ih;refine Ao.of_vc Tryz.func124 rfl (Tryz.call124 _) (VC.fa Lq ?_);refine ld1 (v:=.func (.func g1) #[] c1) Rm (by rw [k2.cell];rfl) trivial ?_;(conv=>whnf);rw [Jd];refine Af (p1 H' ha) fun G1 ga1=>?_;obtain⟨T1,v1,e1⟩:=F4 ra;show _;rw [show Ad (.star ra)= .iface 165 (.agg #[Ad ra])from rfl];rw [e1];refine Av Tryz.underlying165 rfl _ rfl [.iface T1 v1] rfl ?_;(conv=>whnf);exact⟨rfl,ga1⟩
structure LP(B:Nat→Prop)(H:Aa)(ps:List Pc)(r:ReM)(v:Value)(H':Aa):Prop where
 ex:∃(B':Nat→Prop) (fn:Value),v= .agg (Ab r fn).toArray∧(∀k,B k→B' k)∧Agr (Old H) H H'∧StB B' H' H' ps∧Ck B' H' fn r
theorem Ck.fn{B:Nat→Prop}{H:Aa}{v:Value}{r:ReM}(h:Ck B H v r):∃g c,v= .func (.func g) #[] c:=by
 cases h<;>exact⟨_,_,rfl⟩
theorem BZ{l:List Value}{r:ReM}{v:Value}(h:l.length=2):Ac l 0 (Ab r v)=Ab r v:=A8 (by rw [h];rfl)
theorem Au{H:Aa}{b:Nat}{r:ReM}{v:Value}(h:Blk H b 77 (Ab r v)):Bo H b 0 (Ab r v):=h.cells (fun j v hv=>by rw [Vd];exact hv)
def Aj:List Value:=[.int .i64 0,.nilFunc]
theorem CG:(Tryz.prog.info? 77).bind (·.zero)=some (.agg Aj.toArray):=by kernel_rfl
theorem Mb(n:Nat)(hn:n<1152921504606846976)(H:Aa):Bv Tryz.prog 81 #[.int .i64 (n:Int)] H (.int .i64 ((min n 2001:Nat):Int)):=by
 refine Ao.of_vc Tryz.func81 rfl (Tryz.call81 _) (Ur ?_);(conv=>whnf);refine⟨?_,Agr.refl _ _⟩
 congr 1
 split<;>omega
theorem E3(r:ReM):szR r≤2001:=Nat.min_le_right _ _
theorem Lx{B:Nat→Prop}{H0 H:Aa}{ps:List Pc}{r:ReM}(st:StB B H0 H ps)(hr:r.nodes=1):Ao Tryz.prog 98 #[Ad r] H (LP B H ps r):=by
 refine Ao.of_vc Tryz.func98 rfl (Tryz.call98 _) ?_;obtain⟨T1,v1,e1⟩:=F4 r;rw [e1];refine BM [.iface T1 v1] rfl ?_;intro b1 H1 hq1 hs1 hb1 ha1;refine Ag (.agg Aj.toArray) Aj CG rfl ?_;intro q H2 hq2 hs2 hb2 ha2;refine Av Tryz.underlying77 rfl _ rfl (Ab r (.func (.func 108) #[] #[.pointer (some ⟨b1,0,none⟩)])) (by unfold Ab szR;rw [hr];rfl) ?_;refine VC.stN (cs:=Ab r (.func (.func 108) #[] #[.pointer (some ⟨b1,0,none⟩)])) rfl hb2 (by simp [Ab,Aj]) rfl ?_;intro H3 hb3 ha3 hs3;rw [BZ rfl]at hb3;refine ldN (cs:=Ab r (.func (.func 108) #[] #[.pointer (some ⟨b1,0,none⟩)])) Bj (Au hb3) trivial ?_;have ag2:Agr (Old H) H H2:=(ha1.mono fun k hk=>by have:k<H.size:=hk;omega).trans (ha2.mono fun k hk=>by have:k<H.size:=hk;omega);have ag3:Agr (Old H) H H3:=ag2.trans (ha3.mono fun k hk=>by have:k<H.size:=hk;omega);have k1:Blk H3 b1 24 [Ad r]:=by
  rw [e1];exact(hb1.agr ha2 (show b1<q by omega)).agr ha3 (show b1≠q by omega)
 exact⟨_,_,rfl,fun k hk=>.inl hk,ag3,st.widen ag3 (fun k=>k=b1) (fun k hk=>by omega),.leaf (.inr rfl) k1⟩
theorem E2{B:Nat→Prop}{H0 H:Aa}{ps:List Pc}{ra rb:ReM}{va vb:Value}(op:ROp)(st:StB B H0 H ps)(ga:Ck B H va ra)(gb:Ck B H vb rb):
  Ao Tryz.prog 52 #[.agg (Ab ra va).toArray,.agg (Ab rb vb).toArray,.func (.func (opF op)) #[] #[]] H (LP B H ps (opR op ra rb)):=by
 obtain⟨g1,c1,rfl⟩:=ga.fn;obtain⟨g2,c2,rfl⟩:=gb.fn;have z1:=E3 ra;have z2:=E3 rb;refine Ao.of_vc Tryz.func52 rfl (Tryz.call52 _) (BM (Ab ra (.func (.func g1) #[] c1)) rfl ?_);intro b2 H1 hq1 hs1 hb1 ha1;refine BM (Ab rb (.func (.func g2) #[] c2)) rfl ?_;intro b3 H2 hq2 hs2 hb2 ha2;refine BM [.func (.func (opF op)) #[] #[]] rfl ?_;intro b1 H3 hq3 hs3 hb3 ha3;refine Ag (.agg Aj.toArray) Aj CG rfl ?_;intro q H4 hq4 hs4 hb4 ha4;have k2:Blk H4 b2 77 (Ab ra (.func (.func g1) #[] c1)):=((hb1.agr ha2 (show b2<b3 by omega)).agr ha3 (show b2<b1 by omega)).agr ha4 (show b2<q by omega);have k3:Blk H4 b3 77 (Ab rb (.func (.func g2) #[] c2)):=(hb2.agr ha3 (show b3<b1 by omega)).agr ha4 (show b3<q by omega);have k1:Blk H4 b1 135 [.func (.func (opF op)) #[] #[]]:=hb3.agr ha4 (show b1<q by omega);refine VC.fa Lp ?_;refine ld1 (v:=.int .i64 ((szR ra:Nat):Int)) ct3 (by rw [k2.cell];rfl) trivial ?_;(conv=>whnf);rw [w64 (x:=1+((szR ra:Nat):Int)) (by omega) (by omega)];refine VC.fa Lp ?_;refine ld1 (v:=.int .i64 ((szR rb:Nat):Int)) ct3 (by rw [k3.cell];rfl) trivial ?_;(conv=>whnf);rw [w64 (x:=1+((szR ra:Nat):Int)+((szR rb:Nat):Int)) (by omega) (by omega)];rw [show 1+((szR ra:Nat):Int)+((szR rb:Nat):Int)=((1+szR ra+szR rb:Nat):Int) by omega];refine Af (Mb (1+szR ra+szR rb) (by omega) H4) fun H5 ha5=>?_;have hsz:min (1+szR ra+szR rb) 2001=szR (opR op ra rb):=by unfold szR;rw [K3];omega
 rw [hsz];have fnv:=Ab (opR op ra rb) (.func (.func 82) #[] #[.pointer (some ⟨b1,0,none⟩),.pointer (some ⟨b2,0,none⟩),.pointer (some ⟨b3,0,none⟩)]);refine Av Tryz.underlying77 rfl _ rfl (Ab (opR op ra rb) (.func (.func 82) #[] #[.pointer (some ⟨b1,0,none⟩),.pointer (some ⟨b2,0,none⟩),.pointer (some ⟨b3,0,none⟩)])) rfl (VC.stN (cs:=Ab (opR op ra rb) (.func (.func 82) #[] #[.pointer (some ⟨b1,0,none⟩),.pointer (some ⟨b2,0,none⟩),.pointer (some ⟨b3,0,none⟩)])) rfl (hb4.agr ha5 hb4.lt) (by simp [Ab,Aj]) rfl ?_);intro H6 hb6 ha6 hs6;rw [BZ rfl]at hb6;refine ldN (cs:=Ab (opR op ra rb) (.func (.func 82) #[] #[.pointer (some ⟨b1,0,none⟩),.pointer (some ⟨b2,0,none⟩),.pointer (some ⟨b3,0,none⟩)])) Bj (Au hb6) trivial ?_;have ag4:Agr (Old H) H H4:=(((ha1.mono fun k hk=>by have:k<H.size:=hk;omega).trans (ha2.mono fun k hk=>by have:k<H.size:=hk;omega)).trans (ha3.mono fun k hk=>by have:k<H.size:=hk;omega)).trans (ha4.mono fun k hk=>by have:k<H.size:=hk;omega);have ag6:Agr (Old H) H H6:=(ag4.trans (ha5.mono fun k hk=>A0 ag4 hk)).trans (ha6.mono fun k hk=>by have:k<H.size:=hk;omega);have l5:=DI ha5;have m:∀{b:Nat} {e:TypeId} {l:List Value},Blk H4 b e l→b≠q→Blk H6 b e l:=fun h hne=>(h.agr ha5 h.lt).agr ha6 hne;have agB:Agr B H H6:=ag6.mono fun k hk=>st.up hk;exact⟨_,_,rfl,fun k hk=>.inl hk,ag6,st.widen ag6 (fun k=>k=b1∨k=b2∨k=b3) (fun k hk=>by rcases hk with rfl | rfl | rfl<;>omega),
  .join op (.inr (.inl rfl)) (.inr (.inr (.inl rfl))) (.inr (.inr (.inr rfl))) (m k1 (by omega)) (m k2 (by omega)) (m k3 (by omega)) (ga.frame agB fun k hk=>.inl hk) (gb.frame agB fun k hk=>.inl hk)⟩
theorem JZ{B:Nat→Prop}{H0 H:Aa}{ps:List Pc}{ra:ReM}{va:Value}(st:StB B H0 H ps)(ga:Ck B H va ra):
  Ao Tryz.prog 109 #[.agg (Ab ra va).toArray] H (LP B H ps (.star ra)):=by
 obtain⟨g1,c1,rfl⟩:=ga.fn;have z1:=E3 ra;refine Ao.of_vc Tryz.func109 rfl (Tryz.call109 _) (BM (Ab ra (.func (.func g1) #[] c1)) rfl ?_);intro b2 H1 hq1 hs1 hb1 ha1;refine Ag (.agg Aj.toArray) Aj CG rfl ?_;intro q H4 hq4 hs4 hb4 ha4;have k2:Blk H4 b2 77 (Ab ra (.func (.func g1) #[] c1)):=hb1.agr ha4 (show b2<q by omega);refine VC.fa Lp ?_;refine ld1 (v:=.int .i64 ((szR ra:Nat):Int)) ct3 (by rw [k2.cell];rfl) trivial ?_;(conv=>whnf);rw [w64 (x:=1+((szR ra:Nat):Int)) (by omega) (by omega)];rw [show 1+((szR ra:Nat):Int)=((1+szR ra:Nat):Int) by omega];refine Af (Mb (1+szR ra) (by omega) H4) fun H5 ha5=>?_;have hsz:min (1+szR ra) 2001=szR (.star ra):=by unfold szR;show _=min (1+ra.nodes) 2001;omega
 rw [hsz];refine Av Tryz.underlying77 rfl _ rfl (Ab (.star ra) (.func (.func 124) #[] #[.pointer (some ⟨b2,0,none⟩)])) rfl (VC.stN (cs:=Ab (.star ra) (.func (.func 124) #[] #[.pointer (some ⟨b2,0,none⟩)])) rfl (hb4.agr ha5 hb4.lt) (by simp [Ab,Aj]) rfl ?_);intro H6 hb6 ha6 hs6;rw [BZ rfl]at hb6;refine ldN (cs:=Ab (.star ra) (.func (.func 124) #[] #[.pointer (some ⟨b2,0,none⟩)])) Bj (Au hb6) trivial ?_;have ag4:Agr (Old H) H H4:=(ha1.mono fun k hk=>by have:k<H.size:=hk;omega).trans (ha4.mono fun k hk=>by have:k<H.size:=hk;omega);have ag6:Agr (Old H) H H6:=(ag4.trans (ha5.mono fun k hk=>A0 ag4 hk)).trans (ha6.mono fun k hk=>by have:k<H.size:=hk;omega);have l5:=DI ha5;have agB:Agr B H H6:=ag6.mono fun k hk=>st.up hk;exact⟨_,_,rfl,fun k hk=>.inl hk,ag6,st.widen ag6 (fun k=>k=b2) (fun k hk=>by omega),.star (.inr rfl) ((k2.agr ha5 k2.lt).agr ha6 (show b2≠q by omega)) (ga.frame agB fun k hk=>.inl hk)⟩
theorem Jt{B:Nat→Prop}{H0 H:Aa}{ps:List Pc}{ra:ReM}{va:Value}(st:StB B H0 H ps)(ga:Ck B H va ra):
  Ao Tryz.prog 110 #[.agg (Ab ra va).toArray] H (LP B H ps (AV ra)):=by
 obtain⟨g1,c1,rfl⟩:=ga.fn;refine Ao.of_vc Tryz.func110 rfl (Tryz.call110 _) (BM (Ab ra (.func (.func g1) #[] c1)) rfl ?_);intro b2 H1 hq1 hs1 hb1 ha1;refine Ag (.agg Aj.toArray) Aj CG rfl ?_;intro q H4 hq4 hs4 hb4 ha4;have k2:Blk H4 b2 77 (Ab ra (.func (.func g1) #[] c1)):=hb1.agr ha4 (show b2<q by omega);have ag4:Agr (Old H) H H4:=(ha1.mono fun k hk=>by have:k<H.size:=hk;omega).trans (ha4.mono fun k hk=>by have:k<H.size:=hk;omega);have st4:=(st.skip hq1 ha1).box hq4 hs4 hb4 ha4;refine As.heldZ (Old H4) [5] (sq [0,1,2] (.f 3 (.f 4 (.f 5 .e)))) rfl (by kernel_rfl) (ldN (cs:=Ab ra (.func (.func g1) #[] c1)) Bj (Au k2) k2.lt (Av Tryz.underlying127 rfl _ rfl [] rfl (Ai.mk (Lx (r:=.eps) st4 rfl) ?_)));rintro _ H5 ⟨B1,f1,rfl,s1,a1,st5,ge⟩;refine⟨a1,?_⟩;have agB5:Agr B H H5:=(ag4.trans (a1.mono fun k hk=>A0 ag4 hk)).mono fun k hk=>st.up hk;refine Ai.mk (E2 .alt st5 (ga.frame agB5 s1) ge) ?_;rintro _ H6 ⟨B2,f2,rfl,s2,a2,st6,gj⟩;have a12:=a1.trans (a2.mono fun k hk=>A0 a1 hk);refine⟨a12,?_⟩;obtain⟨g2,c2,rfl⟩:=gj.fn;refine Be (cs:=Ab (AV ra) (.func (.func g2) #[] c2)) st6 _ rfl (DB _ _) (by simp [Ab,Aj]) rfl fun H7 st7 ha7 hs7=>?_;rw [Ms,BZ rfl]at st7;have hb7:Blk H7 q 77 (Ab (AV ra) (.func (.func g2) #[] c2)):=st7.blk _ (DB _ _);refine ldN (cs:=Ab (AV ra) (.func (.func g2) #[] c2)) Bj (Au hb7) trivial ?_;have ag6:Agr (Old H) H H6:=ag4.trans (a12.mono fun k hk=>A0 ag4 hk);exact⟨B2,_,rfl,fun k hk=>s2 k (s1 k hk),ag6.trans (ha7.mono fun k hk=>by have:k<H.size:=hk;omega),st7.lft.rebase,gj.frame st7.old fun k hk=>hk⟩
end Go.Proofs.YtlnmhfhdjnenoaaGreatDoor
