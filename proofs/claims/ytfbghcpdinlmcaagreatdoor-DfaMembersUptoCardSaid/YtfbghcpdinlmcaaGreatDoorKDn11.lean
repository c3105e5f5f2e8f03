/- Parts of the proof: PDdz, PPow6, PLaid6, PPow8, VOpen, POpenS, POpen5, VTop, PTabIn -/
import Derived.Test.YtfbghcpdinlmcaaGreatDoorKDn7
import Derived.Test.YtfbghcpdinlmcaaGreatDoorKDn3
import Derived.Test.YtfbghcpdinlmcaaGreatDoorKDn10
import Derived.Test.YtfbghcpdinlmcaaGreatDoorKDn8
import Derived.Test.YtfbghcpdinlmcaaGreatDoorRows
import Derived.Lib.LaidTab
import Derived.OpenShut
import Derived.ChangeSame
import Derived.Deep.DeepHandedRow
import Derived.ProofKit
import Derived.Test.YtfbghcpdinlmcaaGreatDoorKDn2
import Derived.Test.YtfbghcpdinlmcaaGreatDoorKDn1
import Derived.JoinedCond
import Derived.WideKeyArgs
set_option maxHeartbeats 64000000
open List renaming mem_append_right → Aa2, mem_append_left → Aa3, append_nil → Aa4, cons → Aa5
open Nat renaming le_refl → Aa0
open Option renaming some → Aa1
set_option linter.unusedVariables false
set_option linter.unusedSimpArgs false
set_option maxRecDepth 100000
namespace Go.Proofs.YtfbghcpdinlmcaaGreatDoor
open Go.VC Go.Lib
attribute [local irreducible] Cp HQ Aw
theorem US(a:NfM)(w:List Nat):w.foldl (AR a) (Ig a)=Q1 a w:=by
 have key:∀k,k≤w.length→(w.take k).foldl (AR a) (Ig a)=Q1 a (w.take k):=by
  intro k
  induction k with
  | zero=>intro _;rfl
  | succ k ih=>
    intro hk;obtain⟨b,hb⟩:∃b,w[k]? =some b:=⟨_,List.getElem?_eq_getElem (by omega)⟩;rw [←UT hb,←ih (by omega),Ac hb,List.foldl_append];rfl
 have:=key w.length (Aa0 _);rwa [List.take_length]at this
theorem Ly{α β γ:Type}(f:γ→β→γ)(g:α→β):∀(l:List α) (x:γ),(l.map g).foldl f x=l.foldl (fun q b=>f q (g b)) x
 | [],_=>rfl
 | a::l,x=>Ly f g l _
theorem JZ{a:NfM}{F:List (List Int)}{st:Int→Nat→Int}{fi:Int→Bool}(h:E7 a F st fi):∀(w:List Nat) (q:Nat) (x:List Int),(∀c∈w,c<256)→F[q]? =some x→∃t:Nat,w.foldl st (q:Int)=(t:Int)∧F[t]? =some (w.foldl (AR a) x)
 | [],q,x,_,hq=>⟨q,rfl,hq⟩
 | b::w,q,x,hw,hq=>by
   obtain⟨t,e,ht⟩:=h.st q b x hq (hw b (by simp));obtain⟨u,e2,hu⟩:=JZ h w t (AR a x b) (fun c hc=>hw c (by simp [hc])) ht;exact⟨u,by rw [List.foldl_cons,e];exact e2,hu⟩
theorem VF(s:ByteArray):∀c∈byN s,c<256:=fun c hc=>by
 unfold byN at hc;obtain⟨b,-,rfl⟩:=List.mem_map.1 hc;exact b.toNat_lt
theorem V5{a:NfM}{F:List (List Int)}{o:Option AM}(h:E7 a F (C4 o) (HP o))(h0:F[0]? =some (Ig a))(s:ByteArray):Fb o s=Tz a (byN s):=by
 obtain⟨t,e,ht⟩:=JZ h (byN s) 0 _ (VF s) h0;have e1:Ku o s s.size=(byN s).foldl (C4 o) ((0:Nat):Int):=by
  unfold Ku byN;rw [Ly,List.take_of_length_le (by rw [Array.length_toList];exact Aa0 _)];rfl
 unfold Fb;rw [e1,e,h.fi t _ ht,US,VV]
theorem IL(s:ByteArray)(b:Int)(H:Aa)(hpow:HX Tryz.prog H)(hE:Fx H):B8 Tryz.prog 9 #[.string s,.int .i64 b] H (.bool true):=by
 refine Al.of_vc Tryz.func9 rfl (Tryz.call9 _) (Ao (Ps H) fun H1 ha1=>?_);have st1:=(St.nil H).call ha1;refine Ag.mk (RN (t:=s) (Er hE hE.2 st1.old)) ?_;rintro v H2 ⟨ha2,hPa⟩;have st2:=st1.call ha2;have hOk:=JI s;unfold JU at hPa;cases hpm:D8 s with
 | inl e=>
   obtain⟨c,p⟩:=e;rw [hpm]at hPa hOk;obtain⟨k1,k2,k3,k4⟩:V1 s c p:=hOk;replace hPa:v= .tuple #[.nilIface,.agg (fiL c p).toArray]:=hPa;subst hPa;refine Ak (.agg (fiL 0 0).toArray) (fiL 0 0) O8 rfl ?_;intro q4 H3 hq3 hs3 hb3 ha3;have st3:=st2.box hq3 hs3 hb3 ha3;refine AI (cs:=fiL c p) st3 0 rfl rfl (Aa0 _) rfl fun H4 st4=>?_;have e4:Ae (fiL 0 0) 0 (fiL c p)=fiL c p:=A8 rfl;rw [e4]at st4;refine Ag.mk (IR s H4) ?_;rintro v5 H5 ⟨ha5,hPd⟩;have st5:=st4.call ha5;unfold F0 at hPd;rw [hpm]at hPd;replace hPd:v5= .tuple #[.agg reZ.toArray,.int .i64 (c:Int),.int .i64 p]:=hPd;subst hPd;refine Ak _ reZ Jm rfl ?_;intro q5 H6 hq6 hs6 hb6 ha6;have st6:=st5.box hq6 hs6 hb6 ha6;refine AI (cs:=reZ) st6 1 rfl rfl (Aa0 _) rfl fun H7 st7=>(ldN (cs:=fiL c p) Jw (RB (st7.blk 0 rfl)) trivial (A6 Tryz.underlying68 rfl _ O8 (fiL 0 0) rfl ?_));have hple:=M3 hpm;have hpr:inK .i64 p:=Bu (by unfold AD;omega);refine Rq (c:=c) (p:=p) (c':=0) (p':=0) (by omega) hpr (by decide) (Bs (x:=0) (by decide)) ?_;rw [decide_eq_false (show¬(c=0∧p=0)from fun h=>k1 h.1)];have d1:((c:Int)==0)=false:=beq_eq_false_iff_ne.2 (by omega);have d2:((c:Int) != 0)=true:=bne_iff_ne.2 (by omega);(conv=>whnf);rw [d1];refine Lf Tryz.underlying4 ?_;(conv=>whnf);rw [d2];(conv=>whnf);exact⟨rfl,st7.old⟩
 | inr r=>
   rw [hpm]at hPa hOk;have hn:r.nodes≤2000:=hOk;replace hPa:v= .tuple #[A5 r,.agg (fiL 0 0).toArray]:=hPa;subst hPa;obtain⟨T1,v1,e1⟩:=Fk r;refine Ak (.agg (fiL 0 0).toArray) (fiL 0 0) O8 rfl ?_;intro q4 H3 hq3 hs3 hb3 ha3;have st3:=st2.box hq3 hs3 hb3 ha3;refine AI (cs:=fiL 0 0) st3 0 rfl rfl (Aa0 _) rfl fun H4 st4=>?_;have e4:Ae (fiL 0 0) 0 (fiL 0 0)=fiL 0 0:=A8 rfl;rw [e4]at st4;refine Ag.mk (IR s H4) ?_;rintro v5 H5 ⟨ha5,hPd⟩;unfold F0 at hPd;rw [hpm]at hPd;obtain⟨ns,na,nc,Av,rfl,hT,hnl,hNs,hSl⟩:=hPd;obtain⟨na',nc',e5,st5⟩:=st4.got ha5 hSl;injection e5 with e51 e52 e53
   subst e51;subst e53;refine Ak _ reZ Jm rfl ?_;intro q5 H6 hq6 hs6 hb6 ha6;have st6:=st5.box hq6 hs6 hb6 ha6;refine AI (cs:=reL (.slice na ns.length nc) (Av:Int)) st6 2 rfl rfl (Aa0 _) rfl fun H7 st7=>?_;rw [A8 (show(reL (.slice na ns.length nc) (Av:Int)).length=reZ.length from rfl)]at st7;refine ldN (cs:=fiL 0 0) Jw (RB (st7.blk 0 rfl)) trivial (A6 Tryz.underlying68 rfl _ O8 (fiL 0 0) rfl (Rq (c:=0) (p:=0) (c':=0) (p':=0) (by decide) (Bs (x:=0) (by decide)) (by decide) (Bs (x:=0) (by decide)) ?_));rw [decide_eq_true (show(0:Nat)=0∧(0:Int)=0 from⟨rfl,rfl⟩)];(conv=>whnf);refine Lf Tryz.underlying4 ?_;(conv=>whnf);try (refine Am.run ?_)
   refine CB (by omega) (st7.blk 2 rfl) Dr trivial (st7.view 1 rfl) fun v8 hv8=>(Ao (OV (fun k hk=>hk) hv8) fun H8 ha8=>?_);have st8:=st7.call ha8;rw [M6 hT hNs];cases hpl:r.plain with
   | false=>
     (conv=>whnf);exact⟨rfl,st8.old⟩
   | true=>
     obtain⟨hrng,hel⟩:=UC hpl hn;refine Ag.mk (QX r hpl (by omega) H8) ?_;rintro _ H9 ⟨ha9,hv⟩;rw [if_neg (by omega)]at hv;obtain⟨ea,ec,rfl,hown⟩:=hv;obtain⟨ea',ec',e9,st9⟩:=st8.got ha9 hown;injection e9 with e91 e92 e93
     subst e91;subst e93;refine Ak _ nfZ OQ rfl ?_;intro y H10 hy hs10 hb10 ha10;have st10:=st9.box hy hs10 hb10 ha10;refine AI (cs:=nfL (AA r) (.slice ea (AA r).edges.length ec)) st10 4 rfl rfl (Aa0 _) rfl fun H11 st11=>?_;rw [Ax (show(nfL (AA r) (.slice ea (AA r).edges.length ec)).length=nfZ.length from rfl)]at st11;refine CB (by omega) (st11.blk 2 rfl) Dr trivial (st11.view 1 rfl) fun v12 hv12=>(Ag.mk (Oy hpl hn (fun k hk=>hk) hv12 hT) ?_);rintro _ H12 ⟨ha12,da,dc,rfl,hown12⟩;obtain⟨da',dc',e12,st12⟩:=st11.got ha12 hown12;injection e12 with e121 e122 e123
     subst e121;subst e123;refine Ak _ nfZ OR rfl ?_;intro z H13 hz hs13 hb13 ha13;have st13:=st12.box hz hs13 hb13 ha13;refine AI (cs:=nfL (AA r) (.slice da (AA r).edges.length dc)) st13 6 rfl rfl (Aa0 _) rfl fun H14 st14=>?_;rw [Ax (show(nfL (AA r) (.slice da (AA r).edges.length dc)).length=nfZ.length from rfl)]at st14;refine N4 hrng hel (st14.blk 4 rfl) NY trivial (st14.view 3 rfl) fun v15 hv15=>(Ag.mk (TP (b:=b) (S:=Old H14) (fun k hk=>hk) hv15 (hpow.agr st14.old)) ?_);rintro r15 H15 ⟨ha15,hr15⟩;have st15:=st14.call ha15;obtain⟨vA,e0,hrA,hrE⟩:∃vA e0,r15= .tuple #[vA,.int .i64 e0]∧(match FZ (AA r) b with | .error e=>vA= .pointer none∧e0=e | .ok F=>e0=0∧KU (AA r) F H14 H15 vA):=by
      cases hd:FZ (AA r) b with
      | error e=>rw [hd]at hr15;exact⟨_,_,hr15,rfl,rfl⟩
      | ok F=>rw [hd]at hr15;obtain⟨w,h1,h2⟩:=hr15;exact⟨w,0,h1,rfl,h2⟩
     subst hrA;refine N3 hrng hel (st15.blk 6 rfl) Sp trivial (st15.view 5 rfl) fun w16 hw16=>(Ag.mk (TQ (b:=b) (S:=Old H15) (fun k hk=>hk) hw16) ?_);rintro r16 H16 ⟨ha16,l,hl8,ho8,hr8⟩;obtain⟨hrB,hrF⟩:r16= .tuple #[.agg l.toArray,.int .i64 e0]∧(match FZ (AA r) b with | .error e=>e0=e∧vA= .pointer none | .ok F=>e0=0∧KU (AA r) F H14 H15 vA∧Tr (AA r) F H15 H16 (.agg l.toArray)):=by
      cases hd:FZ (AA r) b with
      | error e=>
        rw [hd]at hr8 hrE;obtain⟨h1,rfl⟩:=hrE;exact⟨hr8,rfl,h1⟩
      | ok F=>
        rw [hd]at hr8 hrE;obtain⟨rfl,h2⟩:=hrE;exact⟨hr8.1,rfl,h2,hr8.2⟩
     subst hrB;have st16:=st15.call ha16;refine Ak _ zD rfl (by kernel_rfl) ?_;intro p9 H17 hp9 hs17 hb17 ha17;have u17:=(St.nil H16).box hp9 hs17 hb17 ha17;refine AI (cs:=l) u17 0 (by rw [hl8];rfl) rfl (by rw [hl8];decide) ho8 fun H18 u18=>?_;rw [CO (by rw [hl8];rfl)]at u18;have st18:=st16.cat u18;have d3:(e0 != e0)=false:=by simp
     (conv=>whnf);rw [d3];cases hd:FZ (AA r) b with
     | error e=>
       rw [hd]at hrF;obtain⟨rfl,rfl⟩:=hrF;have hee:=O1 hd;have d4:(e0 != 0)=true:=by simpa using hee.1
       (conv=>whnf);rw [d4];refine Wx Kr ?_;(conv=>whnf);exact⟨rfl,st18.old⟩
     | ok F=>
       rw [hd]at hrF;obtain⟨rfl,⟨o,hvA,hL,hnA⟩,D,hvD,hDok,hLD,hnD⟩:=hrF;obtain⟨m,hbm,hm1,hm2,hdet⟩:=Rj hd;obtain⟨hF1,hF2,hFn,hF0⟩:=O2 hm1 hdet;have hvA0:=hvA;obtain⟨pb,rfl,hown9,hok,-⟩:=hvA0;have hof:o.final.length=F.length:=by rw [hok.fl];exact hnA
       obtain⟨q1,q2⟩:=Xa hFn hL hLD hnA hnD hDok.fl hof;have h1518:Agr (Old H15) H15 H18:=ha16.trans (u18.old.mono fun k hk=>As ha16 hk);have sA:Db (Old H18) H18 (.pointer (some ⟨pb,0,none⟩)) (some o):=(hvA.frame (h1518.mono fun k hk=>hk.2)).mono fun k hk=>As h1518 hk.2;have sD:HW (Old H18) H18 (.agg l.toArray) D:=(hvD.frame (u18.old.mono fun k hk=>hk.2)).mono fun k hk=>As u18.old hk.2;refine RP Kr ?_;refine ldN (cs:=l) (by rw [hl8];exact MM) ((st18.blk 7 rfl).cells fun j v hv=>by rw [Nat.zero_add];exact hv) trivial ?_;refine Ao (XV (fun k hk=>hk) sA sD hDok (by rw [hnA,hnD]) q1 q2) fun H19 ha19=>?_;(conv=>whnf);exact⟨rfl,(st18.call ha19).old⟩
theorem Na(s t:ByteArray)(H:Aa)(hts:t.size≤1048576)(hpow:HX Tryz.prog H)(hE:Fx H):B8 Tryz.prog 10 #[.string s,.string t] H (.bool true):=by
 refine Al.of_vc Tryz.func10 rfl (Tryz.call10 _) (Ao (Ps H) fun H1 ha1=>?_);have st1:=(St.nil H).call ha1;refine Ag.mk (RN (t:=s) (Er hE hE.2 st1.old)) ?_;rintro v H2 ⟨ha2,hPa⟩;have st2:=st1.call ha2;have hOk:=JI s;unfold JU at hPa;cases hpm:D8 s with
 | inl e=>
   obtain⟨c,p⟩:=e;rw [hpm]at hPa hOk;obtain⟨k1,k2,k3,k4⟩:V1 s c p:=hOk;replace hPa:v= .tuple #[.nilIface,.agg (fiL c p).toArray]:=hPa;subst hPa;refine Ak (.agg (fiL 0 0).toArray) (fiL 0 0) O8 rfl ?_;intro q4 H3 hq3 hs3 hb3 ha3;have st3:=st2.box hq3 hs3 hb3 ha3;refine AI (cs:=fiL c p) st3 0 rfl rfl (Aa0 _) rfl fun H4 st4=>?_;have e4:Ae (fiL 0 0) 0 (fiL c p)=fiL c p:=A8 rfl;rw [e4]at st4;refine Ag.mk (IR s H4) ?_;rintro v5 H5 ⟨ha5,hPd⟩;have st5:=st4.call ha5;unfold F0 at hPd;rw [hpm]at hPd;replace hPd:v5= .tuple #[.agg reZ.toArray,.int .i64 (c:Int),.int .i64 p]:=hPd;subst hPd;refine Ak _ reZ Jm rfl ?_;intro q5 H6 hq6 hs6 hb6 ha6;have st6:=st5.box hq6 hs6 hb6 ha6;refine AI (cs:=reZ) st6 1 rfl rfl (Aa0 _) rfl fun H7 st7=>(ldN (cs:=fiL c p) Jw (RB (st7.blk 0 rfl)) trivial (A6 Tryz.underlying68 rfl _ O8 (fiL 0 0) rfl ?_));have hple:=M3 hpm;have hpr:inK .i64 p:=Bu (by unfold AD;omega);refine Rq (c:=c) (p:=p) (c':=0) (p':=0) (by omega) hpr (by decide) (Bs (x:=0) (by decide)) ?_;rw [decide_eq_false (show¬(c=0∧p=0)from fun h=>k1 h.1)];have d1:((c:Int)==0)=false:=beq_eq_false_iff_ne.2 (by omega);have d2:((c:Int) != 0)=true:=bne_iff_ne.2 (by omega);(conv=>whnf);rw [d1];refine Lf Tryz.underlying4 ?_;(conv=>whnf);rw [d2];(conv=>whnf);exact⟨rfl,st7.old⟩
 | inr r=>
   rw [hpm]at hPa hOk;have hn:r.nodes≤2000:=hOk;replace hPa:v= .tuple #[A5 r,.agg (fiL 0 0).toArray]:=hPa;subst hPa;obtain⟨T1,v1,e1⟩:=Fk r;refine Ak (.agg (fiL 0 0).toArray) (fiL 0 0) O8 rfl ?_;intro q4 H3 hq3 hs3 hb3 ha3;have st3:=st2.box hq3 hs3 hb3 ha3;refine AI (cs:=fiL 0 0) st3 0 rfl rfl (Aa0 _) rfl fun H4 st4=>?_;have e4:Ae (fiL 0 0) 0 (fiL 0 0)=fiL 0 0:=A8 rfl;rw [e4]at st4;refine Ag.mk (IR s H4) ?_;rintro v5 H5 ⟨ha5,hPd⟩;unfold F0 at hPd;rw [hpm]at hPd;obtain⟨ns,na,nc,Av,rfl,hT,hnl,hNs,hSl⟩:=hPd;obtain⟨na',nc',e5,st5⟩:=st4.got ha5 hSl;injection e5 with e51 e52 e53
   subst e51;subst e53;refine Ak _ reZ Jm rfl ?_;intro q5 H6 hq6 hs6 hb6 ha6;have st6:=st5.box hq6 hs6 hb6 ha6;refine AI (cs:=reL (.slice na ns.length nc) (Av:Int)) st6 2 rfl rfl (Aa0 _) rfl fun H7 st7=>?_;rw [A8 (show(reL (.slice na ns.length nc) (Av:Int)).length=reZ.length from rfl)]at st7;refine ldN (cs:=fiL 0 0) Jw (RB (st7.blk 0 rfl)) trivial (A6 Tryz.underlying68 rfl _ O8 (fiL 0 0) rfl (Rq (c:=0) (p:=0) (c':=0) (p':=0) (by decide) (Bs (x:=0) (by decide)) (by decide) (Bs (x:=0) (by decide)) ?_));rw [decide_eq_true (show(0:Nat)=0∧(0:Int)=0 from⟨rfl,rfl⟩)];(conv=>whnf);refine Lf Tryz.underlying4 ?_;(conv=>whnf);try (refine Am.run ?_)
   refine CB (by omega) (st7.blk 2 rfl) Dr trivial (st7.view 1 rfl) fun v8 hv8=>(Ao (OV (fun k hk=>hk) hv8) fun H8 ha8=>?_);have st8:=st7.call ha8;rw [M6 hT hNs];cases hpl:r.plain with
   | false=>
     (conv=>whnf);exact⟨rfl,st8.old⟩
   | true=>
     obtain⟨hrng,hel⟩:=UC hpl hn;refine Ag.mk (QX r hpl (by omega) H8) ?_;rintro _ H9 ⟨ha9,hv⟩;rw [if_neg (by omega)]at hv;obtain⟨ea,ec,rfl,hown⟩:=hv;obtain⟨ea',ec',e9,st9⟩:=st8.got ha9 hown;injection e9 with e91 e92 e93
     subst e91;subst e93;refine Ak _ nfZ OQ rfl ?_;intro y H10 hy hs10 hb10 ha10;have st10:=st9.box hy hs10 hb10 ha10;refine AI (cs:=nfL (AA r) (.slice ea (AA r).edges.length ec)) st10 4 rfl rfl (Aa0 _) rfl fun H11 st11=>?_;rw [Ax (show(nfL (AA r) (.slice ea (AA r).edges.length ec)).length=nfZ.length from rfl)]at st11;refine CB (by omega) (st11.blk 2 rfl) Dr trivial (st11.view 1 rfl) fun v12 hv12=>(Ag.mk (Oy hpl hn (fun k hk=>hk) hv12 hT) ?_);rintro _ H12 ⟨ha12,da,dc,rfl,hown12⟩;obtain⟨da',dc',e12,st12⟩:=st11.got ha12 hown12;injection e12 with e121 e122 e123
     subst e121;subst e123;refine Ak _ nfZ OR rfl ?_;intro z H13 hz hs13 hb13 ha13;have st13:=st12.box hz hs13 hb13 ha13;refine AI (cs:=nfL (AA r) (.slice da (AA r).edges.length dc)) st13 6 rfl rfl (Aa0 _) rfl fun H14 st14=>?_;rw [Ax (show(nfL (AA r) (.slice da (AA r).edges.length dc)).length=nfZ.length from rfl)]at st14;refine N4 hrng hel (st14.blk 4 rfl) NY trivial (st14.view 3 rfl) fun v15 hv15=>(Ag.mk (TP (b:=4096) (S:=Old H14) (fun k hk=>hk) hv15 (hpow.agr st14.old)) ?_);rintro r15 H15 ⟨ha15,hr15⟩;have st15:=st14.call ha15;obtain⟨vA,e0,hrA,hrE⟩:∃vA e0,r15= .tuple #[vA,.int .i64 e0]∧(match FZ (AA r) 4096 with | .error e=>vA= .pointer none∧e0=e | .ok F=>e0=0∧KU (AA r) F H14 H15 vA):=by
      cases hd:FZ (AA r) 4096 with
      | error e=>rw [hd]at hr15;exact⟨_,_,hr15,rfl,rfl⟩
      | ok F=>rw [hd]at hr15;obtain⟨w,h1,h2⟩:=hr15;exact⟨w,0,h1,rfl,h2⟩
     subst hrA;refine N3 hrng hel (st15.blk 6 rfl) Sp trivial (st15.view 5 rfl) fun w16 hw16=>(Ag.mk (TQ (b:=4096) (S:=Old H15) (fun k hk=>hk) hw16) ?_);rintro r16 H16 ⟨ha16,l,hl8,ho8,hr8⟩;obtain⟨hrB,hrF⟩:r16= .tuple #[.agg l.toArray,.int .i64 e0]∧(match FZ (AA r) 4096 with | .error e=>e0=e∧vA= .pointer none | .ok F=>e0=0∧KU (AA r) F H14 H15 vA∧Tr (AA r) F H15 H16 (.agg l.toArray)):=by
      cases hd:FZ (AA r) 4096 with
      | error e=>
        rw [hd]at hr8 hrE;obtain⟨h1,rfl⟩:=hrE;exact⟨hr8,rfl,h1⟩
      | ok F=>
        rw [hd]at hr8 hrE;obtain⟨rfl,h2⟩:=hrE;exact⟨hr8.1,rfl,h2,hr8.2⟩
     subst hrB;have st16:=st15.call ha16;refine Ak _ zD rfl (by kernel_rfl) ?_;intro p9 H17 hp9 hs17 hb17 ha17;have u17:=(St.nil H16).box hp9 hs17 hb17 ha17;refine AI (cs:=l) u17 0 (by rw [hl8];rfl) rfl (by rw [hl8];decide) ho8 fun H18 u18=>?_;rw [CO (by rw [hl8];rfl)]at u18;have st18:=st16.cat u18;have d3:(e0 != e0)=false:=by simp
     (conv=>whnf);rw [d3];cases hd:FZ (AA r) 4096 with
     | error e=>
       rw [hd]at hrF;obtain⟨rfl,rfl⟩:=hrF;have hee:=O1 hd;have d4:(e0 != 0)=true:=by simpa using hee.1
       (conv=>whnf);rw [d4];(conv=>whnf);exact⟨rfl,st18.old⟩
     | ok F=>
       rw [hd]at hrF;obtain⟨rfl,⟨o,hvA,hL,hnA⟩,D,hvD,hDok,hLD,hnD⟩:=hrF;obtain⟨m,hbm,hm1,hm2,hdet⟩:=Rj hd;obtain⟨hF1,hF2,hFn,hF0⟩:=O2 hm1 hdet;have hvA0:=hvA;obtain⟨pb,rfl,hown9,hok,-⟩:=hvA0;have hof:o.final.length=F.length:=by rw [hok.fl];exact hnA
       obtain⟨q1,q2⟩:=Xa hFn hL hLD hnA hnD hDok.fl hof;have h1518:Agr (Old H15) H15 H18:=ha16.trans (u18.old.mono fun k hk=>As ha16 hk);have sA:Db (Old H18) H18 (.pointer (some ⟨pb,0,none⟩)) (some o):=(hvA.frame (h1518.mono fun k hk=>hk.2)).mono fun k hk=>As h1518 hk.2;have sD:HW (Old H18) H18 (.agg l.toArray) D:=(hvD.frame (u18.old.mono fun k hk=>hk.2)).mono fun k hk=>As u18.old hk.2;refine CB (by omega) (st18.blk 2 rfl) Dr trivial (st18.view 1 rfl) fun v19 hv19=>(Ao (U5 (fun k hk=>hk) hv19 hT (by omega)) fun H19 ha19=>?_);have st19:=st18.call ha19;refine Ao (Jv (s:=t) (fun k hk=>hk) ((sA.frame ha19).mono fun k hk=>As ha19 hk) (by unfold maxLen;omega)) fun H20 ha20=>?_;have st20:=st19.call ha20;have key:Fb (some o) t=SL (byN t) r:=(V5 hL hF0 t).trans (Bool.eq_iff_iff.2 ((SO hpl (by have:=Dm r;omega) (byN t)).trans (U3 (byN t) r).symm));refine WZ Tryz.underlying4 ?_;rw [key,beq_self_eq_true];cases hmb:SL (byN t) r with
       | false=>
         (conv=>whnf);exact⟨rfl,st20.old⟩
       | true=>
         have hal:E8 (some o) 0=true:=So hok (key.trans hmb) 0 (Nat.zero_le _);have s20:Db (Old H20) H20 (.pointer (some ⟨pb,0,none⟩)) (some o):=((((sA.frame ha19).mono fun k hk=>As ha19 hk).frame ha20).mono fun k hk=>As ha20 hk);refine Ao (VN s20) fun H21 ha21=>?_;rw [hal];(conv=>whnf);exact⟨rfl,(st20.call ha21).old⟩
theorem Rl(s:ByteArray)(b:Int)(S:Nat→Prop)(H:Aa)(hs:s.size≤1048576)(hT:HX Tryz.prog H)(hE:Fx H):B8 Tryz.prog 9 #[.string s,.int .i64 b] H (.bool true):=IL s b H hT hE
theorem Nb(s t:ByteArray)(S:Nat→Prop)(H:Aa)(hs:s.size≤1048576)(ht:t.size≤1048576)(hT:HX Tryz.prog H)(hE:Fx H):B8 Tryz.prog 10 #[.string s,.string t] H (.bool true):=Na s t H ht hT hE
end Go.Proofs.YtfbghcpdinlmcaaGreatDoor
namespace Go.Proofs.YtfbghcpdinlmcaaGreatDoor
open Go.VC Go.Lib
theorem Ze:Tryz.prog.globalNamed UL=some 1:=by kernel_rfl
theorem XT:(Tryz.prog.globals[1]?).map (·.type)=some 362:=by kernel_rfl
theorem Zd:Tryz.prog.cellsOf 362=20:=by kernel_rfl
theorem XS:Tryz.prog.cellsOf 99=1:=by kernel_rfl
theorem UM:(Rows.laid_internal_strconv_uint64pow10:DataW Unit)=tabData .u64 pow10Tab:=by kernel_rfl
def Zk:List Int:=[0,1,28,2,29,14,24,3,30,22,20,15,25,17,4,8,31,27,13,23,21,19,16,7,26,12,18,6,11,5,10,9]
def Yg:Array Value:=(Zk.map (Value.int .u8)).toArray
def Zl:List Int:=[0,1,56,2,57,49,28,3,61,58,42,50,38,29,17,4,62,47,59,36,45,43,51,22,53,39,33,30,24,18,12,5,63,55,48,27,60,41,37,16,46,35,44,21,52,32,23,11,54,26,40,15,34,20,31,10,25,14,19,9,13,8,7,6]
def Yh:Array Value:=(Zl.map (Value.int .u8)).toArray
def Yi:List Int:=[1,10,100,1000,10000,100000,1000000,10000000,100000000,1000000000,10000000000,100000000000,1000000000000,10000000000000,100000000000000,1000000000000000,10000000000000000,100000000000000000,1000000000000000000,10000000000000000000]
def WH:Array Value:=(Yi.map (Value.int .u64)).toArray
def N8(vs:Array Value):Obj→Obj
 | .cells _ t frozen=>.cells vs t frozen
 | o=>o
noncomputable def Xg(os:Os):World:=
 {World.holding Tryz.prog os ⟨#[], #[],[]⟩with heap:=(((World.holding Tryz.prog os ⟨#[], #[],[]⟩).heap.modify 3 (N8 Yg)).modify 4 (N8 Yh)).modify 1 (N8 WH)}
end Go.Proofs.YtfbghcpdinlmcaaGreatDoor
namespace Go.Proofs.YtfbghcpdinlmcaaGreatDoor
open Go.VC Go.Lib
open Go.ChangeShapes Go.WideShapes Go.ChangeAt Go.RowKit
theorem TZ:Tryz.prog.globalNamed "loupe/class.escapes" =some 0:=by kernel_rfl
theorem X1:(Tryz.prog.globals[0]?).map (·.type)=some 336:=by kernel_rfl
theorem YG:Tryz.prog.cellsOf 336=6:=by kernel_rfl
theorem TY:Tryz.prog.cellsOf 335=2:=by kernel_rfl
theorem YH:Tryz.prog.underlying 336=some (.array 3 335):=by kernel_rfl
theorem N7{enc:TypeId×Value→Unit}{w:World}{base:Nat}{sp:Nat→Bool}{held:Bool}{fuel:Nat}{cs:List Value}{a b:Int}{p:List MemPlace}
  (h:DataW.trod enc Tryz.prog w base sp held fuel 335 cs=some (.agg [.lit (.int .u8 a),.lit (.int .u8 b)],p)):cs=[.int .u8 a,.int .u8 b]:=by
 obtain⟨y0,y1,m,e,hl,h0,h1⟩:=trod_struct2 Tryz.underlying335 h;obtain⟨n0,e0,r0,-⟩:=DataW.trod_int Tryz.underlying5 h0;obtain⟨n1,e1,r1,-⟩:=DataW.trod_int Tryz.underlying5 h1;subst r0;subst r1;injection e with e2 e3
 injection e2 with e2
 simp only [Aa5.injEq,DataW.lit.injEq,Lit.int.injEq,true_and,and_true]at e2;rw [TY]at hl
 match cs,hl with
 | [x,y],_=>
   have e0:[x]=[Value.int .u8 n0]:=e0;have e1:[y]=[Value.int .u8 n1]:=e1;injection e0 with e0
   injection e1 with e1
   rw [e0,e1,←e2.1,←e2.2]
theorem S7{enc:TypeId×Value→Unit}{w:World}{base:Nat}{sp:Nat→Bool}{held:Bool}{fuel:Nat}{cs:List Value}{p:List MemPlace}
  (h:DataW.trod enc Tryz.prog w base sp held fuel 336 cs=some (Rows.laid_loupe_class_escapes,p)):cs=TX:=by
 obtain⟨xs,m,-,e,hl,hx,hi⟩:=DataW.trod_array YH h;rw [YG]at hl;injection e with e1 e2
 have e1:(Rows.laid_loupe_class_escapes:DataW Unit)= .agg (xs.map (·.1)):=e1;unfold Rows.laid_loupe_class_escapes at e1;injection e1 with e1
 match xs,hx with
 | [x0,x1,x2],_=>
   simp only [List.map_cons,List.map_nil,Aa5.injEq,and_true]at e1;obtain⟨r0,r1,r2⟩:=e1;have h0:=hi 0 (by decide);have h1:=hi 1 (by decide);have h2:=hi 2 (by decide);rw [TY]at h0 h1 h2;have k0:=N7 (p:=x0.2) (h0.trans (by rw [r0];rfl));have k1:=N7 (p:=x1.2) (h1.trans (by rw [r1];rfl));have k2:=N7 (p:=x2.2) (h2.trans (by rw [r2];rfl))
   match cs,hl with
   | [a,b,c,d,e,f],_=>
     have k0:[a,b]=_:=k0;have k1:[c,d]=_:=k1;have k2:[e,f]=_:=k2;simp only [Aa5.injEq,and_true]at k0 k1 k2;obtain⟨rfl,rfl⟩:=k0;obtain⟨rfl,rfl⟩:=k1;obtain⟨rfl,rfl⟩:=k2;rfl
theorem Jr{W:World}(h:laidMetH Tryz.prog Rows.dfaMembersUptoRow.laid W):HX Tryz.prog W.heap∧Fx W.heap:=by
 obtain⟨ps,⟨g0,t0,cs0,f0,p0,q0,hg0,ht0,hv0,hd0,⟨g1,t1,cs1,f1,p1,q1,hg1,ht1,hv1,hd1,⟨g2,t2,cs2,f2,p2,q2,hg2,ht2,hv2,hd2,⟨g3,t3,cs3,f3,p3,q3,hg3,ht3,hv3,hd3,-,-⟩,-⟩,-⟩,-⟩,-⟩:=h;constructor
 ·have hW:TabIs Tryz.prog W UL .u64 pow10Tab:=by
   obtain rfl:=Aa1.inj (Ze.symm.trans hg2);obtain rfl:=Aa1.inj (XT.symm.trans ht2);rw [UM]at hd2;unfold TabIs;rw [hv2,←cells_of_tab Tryz.underlying362 Tryz.underlying99 XS Zd hd2]
  intro w hw;exact Sg hW fun k _=>by rw [hw]
 ·obtain rfl:=Aa1.inj (TZ.symm.trans hg3);obtain rfl:=Aa1.inj (X1.symm.trans ht3);have hc:=S7 hd3;refine⟨fun j v hj=>?_,?_⟩
  ·have:=World.var?_cell TZ hv3 j;rw [Nat.zero_add];have h2:cs3[j]? =some v:=by
    rw [←Array.getElem?_toList,hc];exact hj
   rw [h2]at this;exact this
  ·unfold World.var? at hv3;rw [TZ]at hv3;apply Classical.byContradiction;intro hn;simp only [Option.bind_some]at hv3;rw [Array.getElem?_eq_none (by omega)]at hv3;simp at hv3
noncomputable def Qh(os:Os):World:=
 {Xg os with heap:=(Xg os).heap.modify 0 (N8 TX.toArray)}
end Go.Proofs.YtfbghcpdinlmcaaGreatDoor
namespace Go.VC
open Go.Proofs.YtfbghcpdinlmcaaGreatDoor.Rows (uptoBulk uptoBulkAll)
def InW(W:World)(k:Nat):Prop:=k<W.heap.size
def szL{α:Type}(sz:α→Nat):List α→Nat
 | []=>1
 | x::xs=>sz x+szL sz xs
theorem Vj{α:Type}(sz:α→Nat)(x:α):∀xs:List α,szL sz (xs++[x])=szL sz xs+sz x
 | []=>by simp [szL];omega
 | y::ys=>by simp only [List.cons_append,szL,Vj sz x ys];omega
theorem AS{α:Type}{sz:α→Nat}(h:∀x,1≤sz x):∀xs:List α,xs.length+1≤szL sz xs
 | []=>Aa0 _
 | y::ys=>by have:=AS h ys;have:=h y;simp only [List.length_cons,szL];omega
section
variable{H:Type}{enc:TypeId×Value→H}{P:Program}{W:World}{t e:TypeId}
end
end Go.VC
namespace Go.Proofs.YtfbghcpdinlmcaaGreatDoor
open Go.VC Go
structure Z9(W:World)(v:Value)(cells:List (BitVec 256))(next:List (List Int))(final:List Bool):Prop where
 rep:∃ca na fa cc nc fc,v= .agg #[.slice ca cells.length cc,.slice na next.length nc,.slice fa final.length fc]∧SlD Dz (InW W) W.heap ca cc cells∧SlD GP (InW W) W.heap na nc next∧SlD A1 (InW W) W.heap fa fc final
end Go.Proofs.YtfbghcpdinlmcaaGreatDoor
namespace Go.VC
open Go.ChangeShapes Go.WideShapes Go.ChangeAt Go.RowKit
theorem OG{W W':World}{may:MemPlace→Prop}(he:Env W W')(h:Agr (Old W.heap) W.heap W'.heap):W.keptBut W' may:=by
 refine⟨he.os,he.output,fun i hi=>?_⟩;rw [h i hi];split<;>simp_all
theorem Md{W W':World}(h:Agr (Old W.heap) W.heap W'.heap)(a:Addr)(ha:a.block<W.heap.size):W'.frozen? a=W.frozen? a:=by
 unfold World.frozen?;rw [h a.block ha]
theorem Mg{W W':World}(h:Agr (Old W.heap) W.heap W'.heap):∀p:MemPlace,p.block<W.heap.size→W.sameAt W' p
 | .cell b o,hb=>by
   show W'.cell? ⟨b,o,none⟩=W.cell? ⟨b,o,none⟩;rw [Gl,Gl];exact K1 (h b hb)
 | .map b,hb=>h b hb
section
variable{H:Type}{enc:TypeId×Value→H}{P:Program}
theorem Oc{W W':World}{sp:Nat→Bool}(hl:laidOutB P=true)(ha:Agr (Old W.heap) W.heap W'.heap):∀{ts:List TypeId} {vs:List Value} {ds:List (DataW H)} {ps:List MemPlace},(∀t∈ts,P.readableRec t=true∧t<P.types.size)→
  DataW.TrodAll enc P W 0 (fun _=>true) true ts vs ds ps→(∀p∈ps,p.block<W.heap.size)→(∀p∈ps,sp p.block=true)→DataW.TrodAll enc P W' 0 sp true ts vs ds ps
 | [],vs,ds,ps,_,h,_,_=>by
   obtain⟨rfl,rfl,rfl⟩:=trodAll_nil h;exact trodAll_mk0
 | t::ts,vs,ds,ps,ht,h,hlt,hsp=>by
   obtain⟨v,vs',d,ds',p,q,rfl,rfl,rfl,h1,h2⟩:=trodAll_cons h;have ht0:=ht t List.mem_cons_self;exact trodAll_cons_mk (WideElems.Trod_stays hl ht0.1 ht0.2 h1 (fun x hx=>Mg ha x (hlt x (Aa3 _ hx))) fun x hx=>hsp x (Aa3 _ hx))
    (Oc hl ha (fun x hx=>ht x (List.mem_cons_of_mem _ hx)) h2 (fun x hx=>hlt x (Aa2 _ hx)) fun x hx=>hsp x (Aa2 _ hx))
theorem Yj{w:World}{base:Nat}{sp:Nat→Bool}{hd:Bool}{t:TypeId}{b:Bool}(h:P.underlying t=some .bool):DataW.Trod enc P w base sp hd t (.bool b) (.lit (.bool b)) []:=⟨1,by simp [DataW.trod,Value.cells,h]⟩
theorem ST{f:Func}{s:ChangeSpec}{apart fresh handsOn again:Bool}{W W':World}{args:Array Value}{ds gs:List (DataW H)}{before:List MemPlace}{bt:TypeId}
  (hW:DataW.Whole enc P f.params.toList s.vars apart W args.toList ds gs before) (hv:s.vars=[]) (hfn:(s.fn H (ds++gs)).results=[.lit (.bool true)]∧(s.fn H (ds++gs)).args=ds∧(s.fn H (ds++gs)).vars=[])
  (hl:laidOutB P=true) (hp:f.params.toList.all (fun t=>P.readableRec t&&decide (t<P.types.size))=true) (hr:f.resultTypes= #[bt]) (hu:P.underlying bt=some .bool)
  (he:Env W W') (ha:Agr (Old W.heap) W.heap W'.heap):s.post enc P f apart fresh handsOn again W args (.bool true) W':=by
 have hlt:=hW.lt;have hW':=hW;obtain⟨pa,pv,hA,hV,hbe,hz,hn⟩:=hW;rw [hv]at hV;obtain⟨rfl,rfl⟩:=trodVars_none hV;rw [Aa4]at hbe;subst hbe;obtain⟨hres,hargs,hvars⟩:=hfn;have hk:W.keptBut W' (fun _=>False):=OG he ha;have hpp:∀t∈f.params.toList,P.readableRec t=true∧t<P.types.size:=fun t ht=>by
  have:=List.all_eq_true.1 hp t ht;simpa using this
 have hst:∀sp:Nat→Bool,(∀p∈before,sp p.block=true)→DataW.TrodAll enc P W' 0 sp true f.params.toList args.toList (s.fn H (ds++[])).args before:=fun sp hsp=>by
  rw [hargs];exact Oc hl ha hpp hA hlt hsp
 have hrs:∀(b:Nat) (sp:Nat→Bool) (hd:Bool),DataW.TrodAll enc P W' b sp hd f.resultTypes.toList ((Value.bool true).resultList f.resultTypes.size) (s.fn H (ds++[])).results []:=fun b sp hd=>by
  rw [hres,hr];exact trodAll_mk1 (Yj hu)
 have hvs:∀sp:Nat→Bool,DataW.TrodVars enc P W' sp s.vars (s.fn H (ds++[])).vars []:=fun sp=>by
  rw [hvars,hv];rfl
 have hok:∀(j:Nat) (t:TypeId) (r:Value),f.resultTypes[j]? =some t→((Value.bool true).resultList f.resultTypes.size)[j]? =some r→Value.okWide P W' .any 0 t r:=ok_one hr rfl (okWide_bool_mk hu true);refine⟨ds,[],before,[],before,[],hW',hrs _ _ _,hst _ (fun p hp=>decide_eq_true (hlt p hp)),hvs _,World.keptBut_mono (fun p hp=>hp.elim) hk,fun _=>?_⟩;refine⟨hok,_,_,([]++before)++[],⟨[]++before,[],trodAll_append (hst _ (fun _ _=>rfl)) (hrs _ _ _),hvs _,rfl,?_,?_⟩,?_⟩
 ·intro b off hp;simp only [List.nil_append,Aa4]at hp;rw [Md ha _ (hlt _ hp)];exact hz b off hp
 ·intro hap;have:=hn hap;simpa using this
 ·intro p hp _;simpa using hp
end
end Go.VC
namespace Go.Proofs.YtfbghcpdinlmcaaGreatDoor
open Go.VC
theorem ZT:ownKnob Tryz.prog.godebug=none:=by kernel_rfl
theorem YT:laidOutB Tryz.prog=true:=by kernel_rfl
theorem Ve{H:Type}{ds:List (DataW H)}(h:Rows.uptoSmall H ds=true):Rows.uptoBulkAll ds≤1048576:=by simpa [Rows.uptoSmall]using h
end Go.Proofs.YtfbghcpdinlmcaaGreatDoor
