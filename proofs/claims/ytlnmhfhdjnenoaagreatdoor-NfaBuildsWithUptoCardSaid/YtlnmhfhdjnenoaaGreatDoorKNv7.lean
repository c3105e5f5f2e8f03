/- Parts of the proof: PPrt3, VJoin, PWt3, PNfa7, PWt4, PPa9, PPa10, PPa11, PPErr, PDp1, PSpk04, PDTx, VElem, PDp2, PDp3 -/
import Derived.Test.YtlnmhfhdjnenoaaGreatDoorKNv3
import Derived.Test.YtlnmhfhdjnenoaaGreatDoorKNv6
import Derived.Test.YtlnmhfhdjnenoaaGreatDoorKNv1
import Derived.Test.YtlnmhfhdjnenoaaGreatDoorKNv2
import Derived.Test.YtlnmhfhdjnenoaaGreatDoorKNv4
import Derived.Test.YtlnmhfhdjnenoaaGreatDoorKNv5
set_option maxHeartbeats 64000000
open Bool renaming noConfusion → Va
open List renaming length_append → UL, length_cons → UN, length_nil → UO, length_singleton → UP, getElem?_eq_some_iff → UR, mem_cons_of_mem → US, mem_cons_self → UT, append_assoc → UU, mem_append_right → UV, append_sublist_append_left → UW, append_nil → UX, getElem?_set_ne → UY, mem_cons → UZ, not_mem_nil → Vb, getElem?_eq_getElem → Vc, getElem?_set_self → Vd, all_eq_true → Vf, take_length → Vg, nil_sublist → Vh, length_set → Vi, replicate → Vj
open Nat renaming zero_add → UM, le_refl → UQ, zero_le → Ve
set_option linter.unusedVariables false
set_option linter.unusedSimpArgs false
set_option maxRecDepth 100000
namespace Go.Proofs.YtlnmhfhdjnenoaaGreatDoor
open Go.VC Go.Lib
theorem Te(r:ReM)(H:Aa):Bv Tryz.prog 97 #[.int .i64 (Uh r)] H (.int .i64 (AC r:Int)):=by
 cases r
 all_goals
  refine Ao.of_vc Tryz.func97 rfl (Tryz.call97 _) ?_;(conv=>whnf)
  try (refine Al.run ?_)
  (conv=>whnf)
  try (refine Al.run ?_)
  (conv=>whnf)
  try (refine Al.run ?_)
  (conv=>whnf)
  try (refine Al.run ?_)
  (conv=>whnf);exact⟨rfl,Agr.refl _ _⟩
theorem HU{r:ReM}{ns:List RnM}{i:Nat}(need:Nat)(ht:Bc ns r i)(hn:r.nodes≤1000000)
  (hb:∀{S:Nat→Prop} {H:Aa} {v:Value} {root:Int},(∀k,S k→k<H.size)→ReV S H v ns root→Bv Tryz.prog 48 #[v,.int .i64 (i:Int)] H (.string (bA (Am r))))
  {S:Nat→Prop} {H:Aa} {v:Value} {root:Int} (hS:∀k,S k→k<H.size) (hv:ReV S H v ns root):
  Bv Tryz.prog 77 #[v,.int .i64 (i:Int),.int .i64 (need:Int)] H (.string (bA (AR (AC r) need (Am r)))):=by
 obtain⟨d,hd,hop⟩:=ht.head;obtain⟨hl,na,nc,rfl,h1⟩:=hv;have lr:=Bi r;refine Ao.of_vc Tryz.func77 rfl (Tryz.call77 _) (BM (reL (.slice na ns.length nc) root) rfl ?_);intro p H1 hp hs1 hb1 ha1;have st1:=(St.nil H).box hp hs1 hb1 ha1;refine Ct hl (st1.blk 0 rfl) Dd trivial (h1.frame (st1.old.mono hS)) fun v5 hv5=>(Af (hb (fun k hk=>st1.up (hS k hk)) hv5) fun H2 ha2=>?_);have st2:=st1.call ha2;refine fa Cm ?_;refine ld1 (v:=.slice na ns.length nc) C0 (by rw [(st2.blk 0 rfl).cell];rfl) trivial ?_;refine ixr (i:=i) CU (h1.frame (st2.old.mono hS)) hd rfl ?_;rintro b2 o2 c2 hS2 hc2 ⟨rfl,hok⟩;refine fa Bt (ld1 (v:=.int .i64 d.op) ct3 (hc2 0 _ (Ch d)) trivial ?_);rw [hop];refine Af (Te r H2) fun H3 ha3=>?_;have st3:=st2.call ha3;by_cases hk:AC r<need
 ·have d1:decide ((AC r:Int)<(need:Int))=true:=decide_eq_true (by omega);(conv=>whnf);rw [d1];refine Bl (AX (u:=[40]) (v:=Am r) (by simp only [UL,UN,UO];omega)) ?_;rw [show(⟨#[40]⟩:ByteArray)=bA [40]from rfl,A7];refine Bl (AX (u:=[40]++Am r) (v:=[41]) (by simp only [UL,UN,UO];omega)) ?_;rw [show(⟨#[41]⟩:ByteArray)=bA [41]from rfl,A7];(conv=>whnf);exact⟨by rw [Ex hk],st3.old⟩
 ·have d1:decide ((AC r:Int)<(need:Int))=false:=decide_eq_false (by omega);(conv=>whnf);rw [d1];(conv=>whnf);exact⟨by rw [EF hk],st3.old⟩
theorem SA:∀(r:ReM) {S:Nat→Prop} {H:Aa} {v:Value} {ns:List RnM} {root:Int} {i:Nat},r.nodes≤1000000→(∀k,S k→k<H.size)→ReV S H v ns root→Bc ns r i→
  Bv Tryz.prog 48 #[v,.int .i64 (i:Int)] H (.string (bA (Am r))):=fun r=>by
 induction r with
 | eps=>
   intro S H v ns root i hn hS hv ht;obtain⟨d,hd,hop⟩:=ht;obtain⟨hl,na,nc,rfl,h1⟩:=hv;refine Ao.of_vc Tryz.func48 rfl (Tryz.call48 _) (BM (reL (.slice na ns.length nc) root) rfl ?_);intro p H1 hp hs1 hb1 ha1;have st1:=(St.nil H).box hp hs1 hb1 ha1;refine fa Cm ?_;refine ld1 (v:=.slice na ns.length nc) C0 (by rw [(st1.blk 0 rfl).cell];rfl) trivial ?_;refine ixr (i:=i) CU (h1.frame (st1.old.mono hS)) hd rfl ?_;rintro b2 o2 c2 hS2 hc2 ⟨rfl,hok⟩;refine ldN (cs:=rnL d) (by rw [Aq];exact Gn) hc2 trivial ?_;refine Ag _ rnZ FY rfl ?_;intro x H3 hx hs3 hb3 ha3;have st3:=st1.box hx hs3 hb3 ha3;refine Ay (cs:=rnL d) st3 1 (by rw [Aq];rfl) rfl (by rw [Aq,AP];decide) (Br d) fun H4 st4=>?_;rw [Ae (show(rnL d).length=rnZ.length by rw [Aq,AP])]at st4;have hb4:=st4.blk 1 rfl;have hp4:=st4.blk 0 rfl;refine fa Bt ?_;refine ld1 (v:=.int .i64 d.op) ct3 (by rw [hb4.cell];exact Ch d) trivial ?_;(conv=>whnf);rw [hop];(conv=>whnf);try (refine Al.run ?_)
   (conv=>whnf);try (refine Al.run ?_)
   (conv=>whnf);exact⟨rfl,st4.old⟩
 | cls s=>
   intro S H v ns root i hn hS hv ht;obtain⟨d,hd,hop,hset⟩:=ht;obtain⟨hl,na,nc,rfl,h1⟩:=hv;refine Ao.of_vc Tryz.func48 rfl (Tryz.call48 _) (BM (reL (.slice na ns.length nc) root) rfl ?_);intro p H1 hp hs1 hb1 ha1;have st1:=(St.nil H).box hp hs1 hb1 ha1;refine fa Cm ?_;refine ld1 (v:=.slice na ns.length nc) C0 (by rw [(st1.blk 0 rfl).cell];rfl) trivial ?_;refine ixr (i:=i) CU (h1.frame (st1.old.mono hS)) hd rfl ?_;rintro b2 o2 c2 hS2 hc2 ⟨rfl,hok⟩;refine ldN (cs:=rnL d) (by rw [Aq];exact Gn) hc2 trivial ?_;refine Ag _ rnZ FY rfl ?_;intro x H3 hx hs3 hb3 ha3;have st3:=st1.box hx hs3 hb3 ha3;refine Ay (cs:=rnL d) st3 1 (by rw [Aq];rfl) rfl (by rw [Aq,AP];decide) (Br d) fun H4 st4=>?_;rw [Ae (show(rnL d).length=rnZ.length by rw [Aq,AP])]at st4;have hb4:=st4.blk 1 rfl;have hp4:=st4.blk 0 rfl;refine fa Bt ?_;refine ld1 (v:=.int .i64 d.op) ct3 (by rw [hb4.cell];exact Ch d) trivial ?_;(conv=>whnf);rw [hop];(conv=>whnf);try (refine Al.run ?_)
   (conv=>whnf);try (refine Al.run ?_)
   (conv=>whnf);refine fa Ls ?_;refine ldN (cs:=Ar d.set) (by rw [Ap];exact Kf) (hb4.cells fun j v hv=>by rw [UM];exact L9 d j v hv) trivial ?_;refine Af (Pk (f:=fun b=>d.set.getLsbD b) (x:=d.set) fun i _=>rfl) fun H5 ha5=>?_;have st5:=st4.call ha5;(conv=>whnf);exact⟨by rw [hset];rfl,st5.old⟩
 | cat a b iha ihb=>
   intro S H v ns root i hn hS hv ht;obtain⟨d,j,k,hd,hop,hl1,hl2,hta,htb⟩:=ht;obtain⟨hl,na,nc,rfl,h1⟩:=hv;simp only [ReM.nodes]at hn;have la:=Bi a;have lb:=Bi b;have wa:=AN (AC a) 2 (Am a);have wb:=AN (AC b) 3 (Am b);rw [show Am (.cat a b)=AR (AC a) 2 (Am a)++AR (AC b) 3 (Am b)from rfl];have ca:=fun{S:Nat→Prop} {H:Aa} {v:Value} {root:Int} (h1:∀k,S k→k<H.size) (h2:ReV S H v ns root)=>HU 2 hta (by omega) (fun h3 h4=>iha (by omega) h3 h4 hta) h1 h2;have cb:=fun{S:Nat→Prop} {H:Aa} {v:Value} {root:Int} (h1:∀k,S k→k<H.size) (h2:ReV S H v ns root)=>HU 3 htb (by omega) (fun h3 h4=>ihb (by omega) h3 h4 htb) h1 h2;generalize AR (AC a) 2 (Am a)=u at*;generalize AR (AC b) 3 (Am b)=w at*;refine Ao.of_vc Tryz.func48 rfl (Tryz.call48 _) (BM (reL (.slice na ns.length nc) root) rfl ?_);intro p H1 hp hs1 hb1 ha1;have st1:=(St.nil H).box hp hs1 hb1 ha1;refine fa Cm ?_;refine ld1 (v:=.slice na ns.length nc) C0 (by rw [(st1.blk 0 rfl).cell];rfl) trivial ?_;refine ixr (i:=i) CU (h1.frame (st1.old.mono hS)) hd rfl ?_;rintro b2 o2 c2 hS2 hc2 ⟨rfl,hok⟩;refine ldN (cs:=rnL d) (by rw [Aq];exact Gn) hc2 trivial ?_;refine Ag _ rnZ FY rfl ?_;intro x H3 hx hs3 hb3 ha3;have st3:=st1.box hx hs3 hb3 ha3;refine Ay (cs:=rnL d) st3 1 (by rw [Aq];rfl) rfl (by rw [Aq,AP];decide) (Br d) fun H4 st4=>?_;rw [Ae (show(rnL d).length=rnZ.length by rw [Aq,AP])]at st4;have hb4:=st4.blk 1 rfl;have hp4:=st4.blk 0 rfl;refine fa Bt ?_;refine ld1 (v:=.int .i64 d.op) ct3 (by rw [hb4.cell];exact Ch d) trivial ?_;(conv=>whnf);rw [hop];(conv=>whnf);try (refine Al.run ?_)
   (conv=>whnf);try (refine Al.run ?_)
   (conv=>whnf);have up4:∀k,(k=p∨k=x)→k<H4.size:=fun k hk=>by
    rcases hk with rfl | rfl
    ·exact(st4.in_ 0 rfl rfl).2
    ·exact(st4.in_ 1 rfl rfl).2
   refine As.heldZ (fun k=>(k=p∨k=x)∨S k) [] (sq [0,1,2,4,5,6] (.f 3 (.f 7 (sq [8,9] .e)))) rfl (by kernel_rfl) (Ct hl (st4.blk 0 rfl) Dd (.inl (.inl rfl)) (h1.frame (st4.old.mono hS)) fun v5 hv5=>(fa BJ ?_));refine ld1 (v:=.int .i64 d.l) ct3 (by rw [hb4.cell,UM];exact Ea d) (.inl (.inr rfl)) ?_;refine Ct hl (st4.blk 0 rfl) Dd (.inl (.inl rfl)) (h1.frame (st4.old.mono hS)) fun v6 hv6=>(fa Dr ?_);refine ld1 (v:=.int .i64 d.r) ct3 (by rw [hb4.cell,UM];exact Hi d) (.inl (.inr rfl)) ?_;rw [hl1,hl2];refine Af (ca (fun k hk=>st4.up (hS k hk)) hv5) fun H5 ha5=>?_;have st5:=st4.call ha5;have g5:Agr (fun k=>(k=p∨k=x)∨S k) H4 H5:=ha5.mono fun k hk=>hk.elim (up4 k) fun h=>st4.up (hS k h);refine⟨g5,?_⟩;refine Af (cb (fun k hk=>st5.up (hS k hk)) (hv6.frame (ha5.mono fun k hk=>st4.up (hS k hk)))) fun H6 ha6=>?_;have st6:=st5.call ha6;refine⟨g5.trans (ha6.mono fun k hk=>hk.elim (fun h=>A0 ha5 (up4 k h)) fun h=>st5.up (hS k h)),?_⟩;refine Bl (AX (u:=u) (v:=w) (by(try simp only [UL,UN,UO]);omega)) ?_;rw [A7];(conv=>whnf);exact⟨rfl,st6.old⟩
 | alt a b iha ihb=>
   intro S H v ns root i hn hS hv ht;obtain⟨d,j,k,hd,hop,hl1,hl2,hta,htb⟩:=ht;obtain⟨hl,na,nc,rfl,h1⟩:=hv;simp only [ReM.nodes]at hn;have la:=Bi a;have lb:=Bi b;have wa:=AN (AC a) 0 (Am a);have wb:=AN (AC b) 1 (Am b);rw [show Am (.alt a b)=AR (AC a) 0 (Am a)++[124]++AR (AC b) 1 (Am b)from rfl];have ca:=fun{S:Nat→Prop} {H:Aa} {v:Value} {root:Int} (h1:∀k,S k→k<H.size) (h2:ReV S H v ns root)=>HU 0 hta (by omega) (fun h3 h4=>iha (by omega) h3 h4 hta) h1 h2;have cb:=fun{S:Nat→Prop} {H:Aa} {v:Value} {root:Int} (h1:∀k,S k→k<H.size) (h2:ReV S H v ns root)=>HU 1 htb (by omega) (fun h3 h4=>ihb (by omega) h3 h4 htb) h1 h2;generalize AR (AC a) 0 (Am a)=u at*;generalize AR (AC b) 1 (Am b)=w at*;refine Ao.of_vc Tryz.func48 rfl (Tryz.call48 _) (BM (reL (.slice na ns.length nc) root) rfl ?_);intro p H1 hp hs1 hb1 ha1;have st1:=(St.nil H).box hp hs1 hb1 ha1;refine fa Cm ?_;refine ld1 (v:=.slice na ns.length nc) C0 (by rw [(st1.blk 0 rfl).cell];rfl) trivial ?_;refine ixr (i:=i) CU (h1.frame (st1.old.mono hS)) hd rfl ?_;rintro b2 o2 c2 hS2 hc2 ⟨rfl,hok⟩;refine ldN (cs:=rnL d) (by rw [Aq];exact Gn) hc2 trivial ?_;refine Ag _ rnZ FY rfl ?_;intro x H3 hx hs3 hb3 ha3;have st3:=st1.box hx hs3 hb3 ha3;refine Ay (cs:=rnL d) st3 1 (by rw [Aq];rfl) rfl (by rw [Aq,AP];decide) (Br d) fun H4 st4=>?_;rw [Ae (show(rnL d).length=rnZ.length by rw [Aq,AP])]at st4;have hb4:=st4.blk 1 rfl;have hp4:=st4.blk 0 rfl;refine fa Bt ?_;refine ld1 (v:=.int .i64 d.op) ct3 (by rw [hb4.cell];exact Ch d) trivial ?_;(conv=>whnf);rw [hop];(conv=>whnf);try (refine Al.run ?_)
   (conv=>whnf);try (refine Al.run ?_)
   (conv=>whnf);have up4:∀k,(k=p∨k=x)→k<H4.size:=fun k hk=>by
    rcases hk with rfl | rfl
    ·exact(st4.in_ 0 rfl rfl).2
    ·exact(st4.in_ 1 rfl rfl).2
   refine As.heldZ (fun k=>(k=p∨k=x)∨S k) [] (sq [0,1,2,5,6,7] (.f 3 (sq [4] (.f 8 (sq [9,10] .e))))) rfl (by kernel_rfl) (Ct hl (st4.blk 0 rfl) Dd (.inl (.inl rfl)) (h1.frame (st4.old.mono hS)) fun v5 hv5=>(fa BJ ?_));refine ld1 (v:=.int .i64 d.l) ct3 (by rw [hb4.cell,UM];exact Ea d) (.inl (.inr rfl)) ?_;refine Ct hl (st4.blk 0 rfl) Dd (.inl (.inl rfl)) (h1.frame (st4.old.mono hS)) fun v6 hv6=>(fa Dr ?_);refine ld1 (v:=.int .i64 d.r) ct3 (by rw [hb4.cell,UM];exact Hi d) (.inl (.inr rfl)) ?_;rw [hl1,hl2];refine Af (ca (fun k hk=>st4.up (hS k hk)) hv5) fun H5 ha5=>?_;have st5:=st4.call ha5;have g5:Agr (fun k=>(k=p∨k=x)∨S k) H4 H5:=ha5.mono fun k hk=>hk.elim (up4 k) fun h=>st4.up (hS k h);refine⟨g5,?_⟩;refine Bl (AX (u:=u) (v:=[124]) (by(try simp only [UL,UN,UO]);omega)) ?_;rw [show(⟨#[124]⟩:ByteArray)=bA [124]from rfl,A7];refine Af (cb (fun k hk=>st5.up (hS k hk)) (hv6.frame (ha5.mono fun k hk=>st4.up (hS k hk)))) fun H6 ha6=>?_;have st6:=st5.call ha6;refine⟨g5.trans (ha6.mono fun k hk=>hk.elim (fun h=>A0 ha5 (up4 k h)) fun h=>st5.up (hS k h)),?_⟩;refine Bl (AX (u:=u++[124]) (v:=w) (by(try simp only [UL,UN,UO]);omega)) ?_;rw [A7];(conv=>whnf);exact⟨rfl,st6.old⟩
 | star a iha=>
   intro S H v ns root i hn hS hv ht;obtain⟨d,j,hd,hop,hl1,hta⟩:=ht;obtain⟨hl,na,nc,rfl,h1⟩:=hv;simp only [ReM.nodes]at hn;have la:=Bi a;have wa:=AN (AC a) 3 (Am a);rw [show Am (.star a)=AR (AC a) 3 (Am a)++[42]from rfl];have ca:=fun{S:Nat→Prop} {H:Aa} {v:Value} {root:Int} (h1:∀k,S k→k<H.size) (h2:ReV S H v ns root)=>HU 3 hta (by omega) (fun h3 h4=>iha (by omega) h3 h4 hta) h1 h2;generalize AR (AC a) 3 (Am a)=u at*;refine Ao.of_vc Tryz.func48 rfl (Tryz.call48 _) (BM (reL (.slice na ns.length nc) root) rfl ?_);intro p H1 hp hs1 hb1 ha1;have st1:=(St.nil H).box hp hs1 hb1 ha1;refine fa Cm ?_;refine ld1 (v:=.slice na ns.length nc) C0 (by rw [(st1.blk 0 rfl).cell];rfl) trivial ?_;refine ixr (i:=i) CU (h1.frame (st1.old.mono hS)) hd rfl ?_;rintro b2 o2 c2 hS2 hc2 ⟨rfl,hok⟩;refine ldN (cs:=rnL d) (by rw [Aq];exact Gn) hc2 trivial ?_;refine Ag _ rnZ FY rfl ?_;intro x H3 hx hs3 hb3 ha3;have st3:=st1.box hx hs3 hb3 ha3;refine Ay (cs:=rnL d) st3 1 (by rw [Aq];rfl) rfl (by rw [Aq,AP];decide) (Br d) fun H4 st4=>?_;rw [Ae (show(rnL d).length=rnZ.length by rw [Aq,AP])]at st4;have hb4:=st4.blk 1 rfl;have hp4:=st4.blk 0 rfl;refine fa Bt ?_;refine ld1 (v:=.int .i64 d.op) ct3 (by rw [hb4.cell];exact Ch d) trivial ?_;(conv=>whnf);rw [hop];(conv=>whnf);try (refine Al.run ?_)
   (conv=>whnf);try (refine Al.run ?_)
   (conv=>whnf);refine Ct hl (st4.blk 0 rfl) Dd trivial (h1.frame (st4.old.mono hS)) fun v5 hv5=>(fa BJ ?_);refine ld1 (v:=.int .i64 d.l) ct3 (by rw [hb4.cell,UM];exact Ea d) trivial ?_;(conv=>whnf);rw [hl1];refine Af (ca (fun k hk=>st4.up (hS k hk)) hv5) fun H5 ha5=>?_;have st5:=st4.call ha5;refine Bl (AX (u:=u) (v:=[42]) (by(try simp only [UL,UN,UO]);omega)) ?_;rw [show(⟨#[42]⟩:ByteArray)=bA [42]from rfl,A7];(conv=>whnf);exact⟨rfl,st5.old⟩
 | and_ a b iha ihb=>
   intro S H v ns root i hn hS hv ht;obtain⟨d,j,k,hd,hop,hl1,hl2,hta,htb⟩:=ht;obtain⟨hl,na,nc,rfl,h1⟩:=hv;simp only [ReM.nodes]at hn;have la:=Bi a;have lb:=Bi b;have wa:=AN (AC a) 1 (Am a);have wb:=AN (AC b) 2 (Am b);rw [show Am (.and_ a b)=AR (AC a) 1 (Am a)++[38]++AR (AC b) 2 (Am b)from rfl];have ca:=fun{S:Nat→Prop} {H:Aa} {v:Value} {root:Int} (h1:∀k,S k→k<H.size) (h2:ReV S H v ns root)=>HU 1 hta (by omega) (fun h3 h4=>iha (by omega) h3 h4 hta) h1 h2;have cb:=fun{S:Nat→Prop} {H:Aa} {v:Value} {root:Int} (h1:∀k,S k→k<H.size) (h2:ReV S H v ns root)=>HU 2 htb (by omega) (fun h3 h4=>ihb (by omega) h3 h4 htb) h1 h2;generalize AR (AC a) 1 (Am a)=u at*;generalize AR (AC b) 2 (Am b)=w at*;refine Ao.of_vc Tryz.func48 rfl (Tryz.call48 _) (BM (reL (.slice na ns.length nc) root) rfl ?_);intro p H1 hp hs1 hb1 ha1;have st1:=(St.nil H).box hp hs1 hb1 ha1;refine fa Cm ?_;refine ld1 (v:=.slice na ns.length nc) C0 (by rw [(st1.blk 0 rfl).cell];rfl) trivial ?_;refine ixr (i:=i) CU (h1.frame (st1.old.mono hS)) hd rfl ?_;rintro b2 o2 c2 hS2 hc2 ⟨rfl,hok⟩;refine ldN (cs:=rnL d) (by rw [Aq];exact Gn) hc2 trivial ?_;refine Ag _ rnZ FY rfl ?_;intro x H3 hx hs3 hb3 ha3;have st3:=st1.box hx hs3 hb3 ha3;refine Ay (cs:=rnL d) st3 1 (by rw [Aq];rfl) rfl (by rw [Aq,AP];decide) (Br d) fun H4 st4=>?_;rw [Ae (show(rnL d).length=rnZ.length by rw [Aq,AP])]at st4;have hb4:=st4.blk 1 rfl;have hp4:=st4.blk 0 rfl;refine fa Bt ?_;refine ld1 (v:=.int .i64 d.op) ct3 (by rw [hb4.cell];exact Ch d) trivial ?_;(conv=>whnf);rw [hop];(conv=>whnf);try (refine Al.run ?_)
   (conv=>whnf);try (refine Al.run ?_)
   (conv=>whnf);have up4:∀k,(k=p∨k=x)→k<H4.size:=fun k hk=>by
    rcases hk with rfl | rfl
    ·exact(st4.in_ 0 rfl rfl).2
    ·exact(st4.in_ 1 rfl rfl).2
   refine As.heldZ (fun k=>(k=p∨k=x)∨S k) [] (sq [0,1,2,5,6,7] (.f 3 (sq [4] (.f 8 (sq [9,10] .e))))) rfl (by kernel_rfl) (Ct hl (st4.blk 0 rfl) Dd (.inl (.inl rfl)) (h1.frame (st4.old.mono hS)) fun v5 hv5=>(fa BJ ?_));refine ld1 (v:=.int .i64 d.l) ct3 (by rw [hb4.cell,UM];exact Ea d) (.inl (.inr rfl)) ?_;refine Ct hl (st4.blk 0 rfl) Dd (.inl (.inl rfl)) (h1.frame (st4.old.mono hS)) fun v6 hv6=>(fa Dr ?_);refine ld1 (v:=.int .i64 d.r) ct3 (by rw [hb4.cell,UM];exact Hi d) (.inl (.inr rfl)) ?_;rw [hl1,hl2];refine Af (ca (fun k hk=>st4.up (hS k hk)) hv5) fun H5 ha5=>?_;have st5:=st4.call ha5;have g5:Agr (fun k=>(k=p∨k=x)∨S k) H4 H5:=ha5.mono fun k hk=>hk.elim (up4 k) fun h=>st4.up (hS k h);refine⟨g5,?_⟩;refine Bl (AX (u:=u) (v:=[38]) (by(try simp only [UL,UN,UO]);omega)) ?_;rw [show(⟨#[38]⟩:ByteArray)=bA [38]from rfl,A7];refine Af (cb (fun k hk=>st5.up (hS k hk)) (hv6.frame (ha5.mono fun k hk=>st4.up (hS k hk)))) fun H6 ha6=>?_;have st6:=st5.call ha6;refine⟨g5.trans (ha6.mono fun k hk=>hk.elim (fun h=>A0 ha5 (up4 k h)) fun h=>st5.up (hS k h)),?_⟩;refine Bl (AX (u:=u++[38]) (v:=w) (by(try simp only [UL,UN,UO]);omega)) ?_;rw [A7];(conv=>whnf);exact⟨rfl,st6.old⟩
 | minus a b iha ihb=>
   intro S H v ns root i hn hS hv ht;obtain⟨d,j,k,hd,hop,hl1,hl2,hta,htb⟩:=ht;obtain⟨hl,na,nc,rfl,h1⟩:=hv;simp only [ReM.nodes]at hn;have la:=Bi a;have lb:=Bi b;have wa:=AN (AC a) 1 (Am a);have wb:=AN (AC b) 2 (Am b);rw [show Am (.minus a b)=AR (AC a) 1 (Am a)++[45]++AR (AC b) 2 (Am b)from rfl];have ca:=fun{S:Nat→Prop} {H:Aa} {v:Value} {root:Int} (h1:∀k,S k→k<H.size) (h2:ReV S H v ns root)=>HU 1 hta (by omega) (fun h3 h4=>iha (by omega) h3 h4 hta) h1 h2;have cb:=fun{S:Nat→Prop} {H:Aa} {v:Value} {root:Int} (h1:∀k,S k→k<H.size) (h2:ReV S H v ns root)=>HU 2 htb (by omega) (fun h3 h4=>ihb (by omega) h3 h4 htb) h1 h2;generalize AR (AC a) 1 (Am a)=u at*;generalize AR (AC b) 2 (Am b)=w at*;refine Ao.of_vc Tryz.func48 rfl (Tryz.call48 _) (BM (reL (.slice na ns.length nc) root) rfl ?_);intro p H1 hp hs1 hb1 ha1;have st1:=(St.nil H).box hp hs1 hb1 ha1;refine fa Cm ?_;refine ld1 (v:=.slice na ns.length nc) C0 (by rw [(st1.blk 0 rfl).cell];rfl) trivial ?_;refine ixr (i:=i) CU (h1.frame (st1.old.mono hS)) hd rfl ?_;rintro b2 o2 c2 hS2 hc2 ⟨rfl,hok⟩;refine ldN (cs:=rnL d) (by rw [Aq];exact Gn) hc2 trivial ?_;refine Ag _ rnZ FY rfl ?_;intro x H3 hx hs3 hb3 ha3;have st3:=st1.box hx hs3 hb3 ha3;refine Ay (cs:=rnL d) st3 1 (by rw [Aq];rfl) rfl (by rw [Aq,AP];decide) (Br d) fun H4 st4=>?_;rw [Ae (show(rnL d).length=rnZ.length by rw [Aq,AP])]at st4;have hb4:=st4.blk 1 rfl;have hp4:=st4.blk 0 rfl;refine fa Bt ?_;refine ld1 (v:=.int .i64 d.op) ct3 (by rw [hb4.cell];exact Ch d) trivial ?_;(conv=>whnf);rw [hop];(conv=>whnf);try (refine Al.run ?_)
   (conv=>whnf);try (refine Al.run ?_)
   (conv=>whnf);have up4:∀k,(k=p∨k=x)→k<H4.size:=fun k hk=>by
    rcases hk with rfl | rfl
    ·exact(st4.in_ 0 rfl rfl).2
    ·exact(st4.in_ 1 rfl rfl).2
   refine As.heldZ (fun k=>(k=p∨k=x)∨S k) [] (sq [0,1,2,5,6,7] (.f 3 (sq [4] (.f 8 (sq [9,10] .e))))) rfl (by kernel_rfl) (Ct hl (st4.blk 0 rfl) Dd (.inl (.inl rfl)) (h1.frame (st4.old.mono hS)) fun v5 hv5=>(fa BJ ?_));refine ld1 (v:=.int .i64 d.l) ct3 (by rw [hb4.cell,UM];exact Ea d) (.inl (.inr rfl)) ?_;refine Ct hl (st4.blk 0 rfl) Dd (.inl (.inl rfl)) (h1.frame (st4.old.mono hS)) fun v6 hv6=>(fa Dr ?_);refine ld1 (v:=.int .i64 d.r) ct3 (by rw [hb4.cell,UM];exact Hi d) (.inl (.inr rfl)) ?_;rw [hl1,hl2];refine Af (ca (fun k hk=>st4.up (hS k hk)) hv5) fun H5 ha5=>?_;have st5:=st4.call ha5;have g5:Agr (fun k=>(k=p∨k=x)∨S k) H4 H5:=ha5.mono fun k hk=>hk.elim (up4 k) fun h=>st4.up (hS k h);refine⟨g5,?_⟩;refine Bl (AX (u:=u) (v:=[45]) (by(try simp only [UL,UN,UO]);omega)) ?_;rw [show(⟨#[45]⟩:ByteArray)=bA [45]from rfl,A7];refine Af (cb (fun k hk=>st5.up (hS k hk)) (hv6.frame (ha5.mono fun k hk=>st4.up (hS k hk)))) fun H6 ha6=>?_;have st6:=st5.call ha6;refine⟨g5.trans (ha6.mono fun k hk=>hk.elim (fun h=>A0 ha5 (up4 k h)) fun h=>st5.up (hS k h)),?_⟩;refine Bl (AX (u:=u++[45]) (v:=w) (by(try simp only [UL,UN,UO]);omega)) ?_;rw [A7];(conv=>whnf);exact⟨rfl,st6.old⟩
theorem JD{r:ReM}{S:Nat→Prop}{H:Aa}{v:Value}{ns:List RnM}{i:Nat}(hn:r.nodes≤1000000)(hS:∀k,S k→k<H.size)(hv:ReV S H v ns (i:Int))(ht:Bc ns r i):
  Bv Tryz.prog 22 #[v] H (.string (bA (Am r))):=by
 obtain⟨hl,na,nc,rfl,h1⟩:=hv;refine Ao.of_vc Tryz.func22 rfl (Tryz.call22 _) (BM (reL (.slice na ns.length nc) (i:Int)) rfl ?_);intro p H1 hp hs1 hb1 ha1;have st1:=(St.nil H).box hp hs1 hb1 ha1;refine Ct hl (st1.blk 0 rfl) Dd trivial (h1.frame (st1.old.mono hS)) fun v5 hv5=>(fa Lh ?_);refine ld1 (v:=.int .i64 (i:Int)) ct3 (by rw [(st1.blk 0 rfl).cell];rfl) trivial ?_;refine Af (SA r hn (fun k hk=>st1.up (hS k hk)) hv5 ht) fun H2 ha2=>?_;(conv=>whnf);exact⟨rfl,(st1.call ha2).old⟩
end Go.Proofs.YtlnmhfhdjnenoaaGreatDoor
namespace Go.VC
def So(J:Nat→Bool):Code→Bool
 | .region id _ _=>J id
 | c=>HD c
def vcJ(J:Nat→Bool)(P:Program)(c:Code):Fr→Aa→(Fr→Aa→Prop)→List (Nat×(Fr→Aa→Prop))→(Fr→Aa→Prop)→Prop:=
 Code.rec (motive:=fun _=>Fr→Aa→(Fr→Aa→Prop)→List (Nat×(Fr→Aa→Prop))→(Fr→Aa→Prop)→Prop)
  (fun fr H kn _ _=>kn fr H)
  (fun _ ops draw fr H kn _ _=>match draw with
   | false=>Hh P false (fun _=>True) ops.toList ops.toList fr H kn
   | true=>As P ops.toList fr H kn)
  (fun a b iha ihb fr H kn X kr=>match So J a with
   | true=>Al P a b fr H kn X kr
   | false=>iha fr H (fun fr' H'=>ihb fr' H' kn X kr) X kr)
  (fun c _ _ ihx ihy fr H kn X kr=>match c with
   | .tmp t=>rdK fr t fun v=>match v with
     | .bool b=>AQ b (wrK fr t (.bool true) fun fr1=>ihx fr1 H kn X kr) (wrK fr t (.bool false) fun fr1=>ihy fr1 H kn X kr)
     | _=>False
   | .const (.bool b)=>AQ b (ihx fr H kn X kr) (ihy fr H kn X kr)
   | _=>False)
  (fun id _ ih fr H kn X kr=>ih fr H kn ((id,kn)::X) kr)
  (fun c _ fr H _ X kr=>AH P c fr H X kr)
  (fun _ _ _ _ _ _ _ _ _ _ _=>False)
  (fun id fr H _ X _=>IE X id fr H)
  (fun _ _ _ _ _ _ _=>False)
  (fun _ _ _ _ _ _=>False)
  (fun _ _ _ _ _ _=>False)
  (fun fr H _ _ kr=>kr fr H)
  (fun _ _ _ _ _ _=>False) c
theorem NH(J:Nat→Bool)(P:Program)(fr:Fr)(H:Aa)(kn:Fr→Aa→Prop)(X:List (Nat×(Fr→Aa→Prop)))(kr:Fr→Aa→Prop)(id:Nat)(ops:Array Oper)(draw:Bool):vcJ J P (.region id ops draw) fr H kn X kr=(match draw with
   | false=>Hh P false (fun _=>True) ops.toList ops.toList fr H kn
   | true=>As P ops.toList fr H kn):=rfl
theorem RW(J:Nat→Bool)(P:Program)(a b:Code)(fr:Fr)(H:Aa)(kn:Fr→Aa→Prop)(X:List (Nat×(Fr→Aa→Prop)))(kr:Fr→Aa→Prop):vcJ J P (.seq a b) fr H kn X kr=(match So J a with
   | true=>Al P a b fr H kn X kr
   | false=>vcJ J P a fr H (fun fr' H'=>vcJ J P b fr' H' kn X kr) X kr):=rfl
theorem QR(J:Nat→Bool)(P:Program)(a b:Code)(fr:Fr)(H:Aa)(kn:Fr→Aa→Prop)(X:List (Nat×(Fr→Aa→Prop)))(kr:Fr→Aa→Prop)(c:Operand):vcJ J P (.cond c a b) fr H kn X kr=(match c with
   | .tmp t=>rdK fr t fun v=>match v with
     | .bool x=>AQ x (wrK fr t (.bool true) fun fr1=>vcJ J P a fr1 H kn X kr) (wrK fr t (.bool false) fun fr1=>vcJ J P b fr1 H kn X kr)
     | _=>False
   | .const (.bool x)=>AQ x (vcJ J P a fr H kn X kr) (vcJ J P b fr H kn X kr)
   | _=>False):=rfl
theorem Pu(J:Nat→Bool)(P:Program)(a:Code)(fr:Fr)(H:Aa)(kn:Fr→Aa→Prop)(X:List (Nat×(Fr→Aa→Prop)))(kr:Fr→Aa→Prop)(id:Nat):vcJ J P (.block id a) fr H kn X kr=vcJ J P a fr H kn ((id,kn)::X) kr:=rfl
theorem Dk{J:Nat→Bool}{P:Program}:∀(c:Code) (fr:Fr) (kn:Fr→Aa→Prop) (X:List (Nat×(Fr→Aa→Prop))) (kr:Fr→Aa→Prop) (a:Act) (w:World),At fr a→
  vcJ J P c fr w.heap kn X kr→c.wp P (Ez w (Qx kn X kr)) a w
 | .skip,fr,kn,X,kr,a,w,hat,h=>wp_skip ⟨fr,hat,Env.refl w,h⟩
 | .region id ops draw,fr,kn,X,kr,a,w,hat,h=>by
   rw [NH]at h;cases draw with
   | false=>
     have:=OA (P:=P) (id:=id) (l:=ops.toList) (Q:=Ez w (Qx kn X kr)) hat (fun fr' a' w' h1 h2 h3=>⟨fr',h1,h2,h3⟩) h;simpa using this
   | true=>
     have:=h.out id (Ez w (Qx kn X kr)) a w hat rfl (fun _ _ _ h=>h) (fun fr' a' w' h1 h2 h3=>⟨fr',h1,h2,h3⟩);simpa using this
 | .seq x y,fr,kn,X,kr,a,w,hat,h=>by
   rw [RW]at h;split at h
   ·exact h.out a w hat rfl
   ·exact GL (Dk x fr _ X kr a w hat h) fun fr' a' w' h1 _ h3=>Dk y fr' kn X kr a' w' h1 h3
 | .cond c x y,fr,kn,X,kr,a,w,hat,h=>by
   rw [QR]at h;split at h
   ·rename_i t;rw [CF]at h;split at h
    ·rename_i b hb;have hs:fr.set t (.bool b)=fr:=Cs hb (by simp [undef]);have he:a.eval (.tmp t)= .bool b:=by rw [hat.eval];exact hb
     cases b<;>simp only [AQ,D6,hs]at h
     ·exact wp_cond_false he (Dk y fr kn X kr a w hat h)
     ·exact wp_cond_true he (Dk x fr kn X kr a w hat h)
    ·exact h.elim
   ·rename_i b;cases b<;>simp only [AQ]at h
    ·exact wp_cond_false rfl (Dk y fr kn X kr a w hat h)
    ·exact wp_cond_true rfl (Dk x fr kn X kr a w hat h)
   ·exact h.elim
 | .block id c,fr,kn,X,kr,a,w,hat,h=>by
   rw [Pu]at h;refine wp_block (Code.wp_mono ?_ (Dk c fr kn _ kr a w hat h));intro e a' w' h;cases e with
   | exit id'=>
     obtain⟨fr',h1,h2,h3⟩:=h;simp only [Qx,IE]at h3;simp only [Exit.inBlock];split at h3
     ·rename_i hid;have:=Nat.eq_of_beq_eq_true hid;rw [if_pos this.symm];exact⟨fr',h1,h2,h3⟩
     ·rename_i hid;have:id≠id':=Nat.ne_of_beq_eq_false hid;rw [if_neg (Ne.symm this)];exact⟨fr',h1,h2,h3⟩
   | normal=>exact h
   | goto l=>exact h
   | ret=>exact h
   | panic c=>exact h
   | outgrown=>exact h
 | .loop c,fr,kn,X,kr,a,w,hat,h=>Code.wp_mono (fun e a w=>Ez.mono fun e fr H hq=>by
   cases e<;>first | exact hq | exact hq.elim) (h.out a w hat rfl)
 | .exit id,fr,kn,X,kr,a,w,hat,h=>wp_exit ⟨fr,hat,Env.refl w,h⟩
 | .ret,fr,kn,X,kr,a,w,hat,h=>wp_ret ⟨fr,hat,Env.refl w,h⟩
 | .rangeFunc ..,_,_,_,_,_,_,_,h=>h.elim
 | .scope _,_,_,_,_,_,_,_,h=>h.elim
 | .label _,_,_,_,_,_,_,_,h=>h.elim
 | .goto _,_,_,_,_,_,_,_,h=>h.elim
 | .refuse _,_,_,_,_,_,_,_,h=>h.elim
theorem Al.cutJ(J:Nat→Bool){P:Program}{x y:Code}{fr:Fr}{H:Aa}{kn:Fr→Aa→Prop}{X:List (Nat×(Fr→Aa→Prop))}{kr:Fr→Aa→Prop}{α:Type}(ts:List Nat)(enc:α→List Value)(I:α→Aa→Prop)
  (h:vc P x fr H (fun fr' H'=>Fl (E4 x []) fr fr' (IX fr' ts fun vs=>∃y,vs=enc y∧I y H')) X kr)
  (k:∀(z:α) (H1:Aa) (junk:Nat→Value),I z H1→ET junk fr (E4 x []) fun fr0=>LK fr0 ts (enc z) fun fr1=>vcJ J P y fr1 H1 kn X kr):Al P x y fr H kn X kr:=by
 generalize E4 x []=ws at h k;refine⟨?_⟩;intro a w hat hw;subst hw;refine GL (BH x fr _ X kr a w hat h) fun fr1 a1 w1 h1 _ h3=>?_;simp only [Fl,BK,DM]at h3;obtain⟨hk,z,hz,hi⟩:=h3;have h:=k z w1.heap (rd fr1) hi;rw [BK,Fs,Cd hk,←hz,Ey ts fr1]at h;exact Dk y fr1 kn X kr a1 w1 h1 h
theorem Ao.of_vcJ(J:Nat→Bool){P:Program}{f:FuncId}{fn:Func}{c:Code}{args:Array Value}{H:Aa}{R:Value→Aa→Prop}(hf:P.funcs[f]? =some fn)(hb:fn.body=some c)
  (hcall:∀w:World,(callFunc f args).run P w= .ok (.enter f args) w)
  (h:GD (args.toList++Vj (fn.ntmps - args.size) undef) fun fr=>vcJ J P c fr H (fun fr' H'=>Iq P fn.results.toList fr' H' R) [] (fun fr' H'=>Iq P fn.results.toList fr' H' R)):
  Ao P f args H R:=by
 intro w hw;subst hw;refine⟨hcall w,?_⟩;refine calls_of_wp hf hb ?_;rw [DH]at h;have hat:At (args.toList++Vj (fn.ntmps - args.size) undef) {tmps:=args++Array.replicate (fn.ntmps - args.size) undef,defers:=[]}:=⟨by simp,rfl⟩;refine Code.wp_mono ?_ (Dk c _ _ _ _ _ w hat h);intro e a' w' h2;have fin:∀fr,At fr a'→Env w w'→Iq P fn.results.toList fr w'.heap R→a'.defers=[]∧∃v,(results fn a'.tmps).run P w'= .ok v w'∧∃v',Ending.returned v= .returned v'∧Env w w'∧R v' w'.heap:=by
  intro fr h1 h2 h3;obtain⟨v,hv,hR⟩:=FV h1 h3;exact⟨h1.defers,v,hv,v,rfl,h2,hR⟩
 cases e with
 | normal=>obtain⟨fr,h1,h2,h3⟩:=h2;exact fin fr h1 h2 h3
 | ret=>obtain⟨fr,h1,h2,h3⟩:=h2;exact fin fr h1 h2 h3
 | exit id=>obtain⟨fr,h1,h2,h3⟩:=h2;exact h3.elim
 | goto l=>obtain⟨fr,h1,h2,h3⟩:=h2;exact h3.elim
 | panic c=>exact h2.elim
 | outgrown=>exact h2.elim
section
variable{α β:Type}{T:Ty α}{T2:Ty β}{e e2:TypeId}{a ra:Option Addr}{n cap rn rc:Nat}{xs:List α}{x:α}{row:List β}{B S:Nat→Prop}{H0 H:Aa}{ps rest:List Pc}
theorem StB.absorbH(st:StB B H0 H (pN T S e a n cap xs::pS T2 e2 ra rn rc row::rest)):StB B H0 H (pN T (fun k=>S k∨slB (.slice ra rn rc) k) e a n cap xs::rest):=by
 have hap:=st.apart2 (i:=0) (j:=1) rfl rfl (by decide);have h0:=st.at_ 0 rfl;refine(st.join 0 1 rfl rfl (by decide)).say 0 rfl _ ⟨h0.1.mono fun k hk=>.inl hk,fun k hk=>?_⟩ fun k hk=>?_
 ·rcases hk with hk | hk
  ·exact h0.2 k hk
  ·exact fun h=>hap k (.inl h) (.inl hk)
 ·rcases hk with hk | hk | hk
  ·exact .inl (.inl hk)
  ·exact .inl (.inr hk)
  ·exact .inr (.inl hk)
theorem TE{P:Program}{t ty q by_ m cap2:Nat}{z:Value}{ds:List Value}{K:Value→Aa→Prop}(st:StB B H0 H (pN T S e a n cap xs::rest))(ht:SlT P t e T.size by_ z)
  (hd:Bo H q 0 ds) (hy:T.rep S H ds x) (hm:m=1) (h1:∀u∈ds,u.oneCell'=true) (h63:xs.length+1≤34359738368) (hby:by_≤1024)
  (k:∀a' cap' H',StB B H0 H' (pN T S e a' (xs.length+1) cap' (xs++[x])::rest)→Agr (fun k=>k<H.size∧¬slB (.slice a n cap) k) H H'→K (.slice a' (xs.length+1) cap') H'):
  BQ P (Builtin.append_ #[t,t] ty [.slice a n cap,.slice (some ⟨q,0,none⟩) m cap2].toArray) H K:=by
 subst hm;have h0:=st.at_ 0 rfl;refine Iu (T:=T) (S:=S) (lo:=0) (ys:=[x]) ht h0.1 (Ve _) (fun k hk=>⟨(st.in_ 0 rfl (.inr hk)).2,h0.2 k hk⟩) hd (Ty.reps_one hy) rfl h1 (by unfold maxLen;simp only [UP];omega) (by have:=Nat.mul_le_mul h63 hby;simp only [UP];omega) ?_;intro v' H' hown hagr hsz hfr;obtain⟨a',cap',rfl⟩:=hown.hull;rw [UL,UP]at hown hfr ⊢;refine k a' cap' H' (st.upd 0 rfl (hagr.mono fun k hk=>⟨hk.1,fun hb=>hk.2 (.inl hb)⟩) _ ⟨hown,fun k hk hb=>?_⟩ (fun k hk=>?_) (fun k hk=>?_) hsz) hagr
 ·rcases hfr k hb with h | h
  ·exact h0.2 k hk h
  ·have:=(st.in_ 0 rfl (.inr hk)).2;omega
 ·rcases hk with hk | hk
  ·rcases hfr k hk with h | h
   ·exact .inl (.inl h)
   ·exact .inr h
  ·exact .inl (.inr hk)
 ·rcases hk with hk | hk
  ·exact(hown.lt hk).2
  ·have:=(st.in_ 0 rfl (.inr hk)).2;omega
end
end Go.VC
namespace Go.Proofs.YtlnmhfhdjnenoaaGreatDoor
open Go.VC Go.Lib
def wh0(N:NfM):Bool:=decide (N.st≤65536)&&decide (N.start≥0)&&decide (N.start<N.st)&&decide (N.fin≥0)&&decide (N.fin<N.st)
def inW(N:NfM)(e:EdM):Bool:=decide (e.fr≥0)&&decide (e.fr<N.st)&&decide (e.to≥0)&&decide (e.to<N.st)
theorem Sb(N:NfM):(wh0 N&&N.edges.all (inW N))=Bh N:=by
 rw [Bool.eq_iff_iff,Dc];unfold wh0;simp only [Bool.and_eq_true,Vf,NfM.has_iff,decide_eq_true_eq,inW];constructor
 ·rintro⟨⟨⟨⟨⟨h1,h2⟩,h3⟩,h4⟩,h5⟩,h6⟩;refine⟨⟨h2,h3,h1⟩,⟨h4,h5,h1⟩,fun e he=>?_⟩;have:=h6 e he;exact⟨⟨this.1.1.1,this.1.1.2,h1⟩,this.1.2,this.2,h1⟩
 ·rintro⟨⟨h1,h2,h3⟩,⟨h4,h5,-⟩,h6⟩;refine⟨⟨⟨⟨⟨h3,h1⟩,h2⟩,h4⟩,h5⟩,fun e he=>?_⟩;have:=h6 e he;exact⟨⟨⟨this.1.1,this.1.2.1⟩,this.2.1⟩,this.2.2.1⟩
theorem GZ{N:NfM}{i:Nat}{e:EdM}(h:N.edges[i]? =some e):(wh0 N&&(N.edges.take (i+1)).all (inW N))=((wh0 N&&(N.edges.take i).all (inW N))&&inW N e):=by
 rw [List.take_add_one,h,List.all_append,Bool.and_assoc];simp
def BwU(N:NfM)(q:Int)(r:ReM)(code:Int)(cells:List Value)(rest:List Pc):Prop:=
 ((CB N q (metR r).length).1=0∧(metR r=[]∨Bh N=true)∧(65536<(AI (fun _=>N) r 0).u∧code=40∧cells=GB∨
   ¬65536<(AI (fun _=>N) r 0).u∧code=0∧(nfU (fun _=>N) r).edges.length≤67108872000∧(nfU (fun _=>N) r).Rng∧∃ea ec,cells=nfL (nfU (fun _=>N) r) (.slice ea (nfU (fun _=>N) r).edges.length ec)∧rest=[pS tEd 104 ea (nfU (fun _=>N) r).edges.length ec (nfU (fun _=>N) r).edges]))∨
 ((CB N q (metR r).length).1≠0∧code=(CB N q (metR r).length).1∧cells=GB)
theorem U2{B:Nat→Prop}{H0 H:Aa}{ab:Nat}{N:NfM}{q:Int}{r:ReM}{v:Value}(hn:r.nodes≤2000)(h:BwH B H0 ((33554432+4)*2000) [] (LX ab) (Kg (EN N q) r []) v H):
  ∃code cells g rest,v= .tuple #[.agg (cells:List Value).toArray,.int .i64 code]∧cells.length=4∧cells.all (·.oneCell')=true∧StB B H0 H (LX ab ((metR r).take (CB N q (metR r).length).2) g++rest)∧BwU N q r code cells rest∧(CB N q (metR r).length).2≤(metR r).length:=by
 rcases PB N q r hn with⟨h1,h2,h3,h4⟩ | ⟨h1,h2,h4⟩
 ·rw [h4]at h;by_cases hu:65536<(AI (fun _=>N) r 0).u
  ·rw [if_pos hu]at h;obtain⟨rfl,g,st⟩:=h;refine⟨40,GB,g,[],rfl,rfl,rfl,?_,.inl ⟨h1,h3,.inl ⟨hu,rfl,rfl⟩⟩,by rw [h2];exact UQ _⟩;rw [h2,Vg,UX];exact st
  ·rw [if_neg hu]at h;obtain⟨k1,k2,ea,ec,rfl,g,st⟩:=h;refine⟨0,_,g,_,rfl,rfl,rfl,?_,.inl ⟨h1,h3,.inr ⟨hu,rfl,k1,k2,ea,ec,rfl,rfl⟩⟩,by rw [h2];exact UQ _⟩;rw [h2,Vg];exact st
 ·rw [h4]at h;obtain⟨rfl,g,st⟩:=h;refine⟨_,GB,g,[],rfl,rfl,rfl,?_,.inr ⟨h1,rfl,rfl⟩,h2⟩;rw [UX];exact st
end Go.Proofs.YtlnmhfhdjnenoaaGreatDoor
namespace Go.Proofs.YtlnmhfhdjnenoaaGreatDoor
open Go.VC
theorem Ky(e:EdM):∀(j:Nat) (v:Value),(BW fun b=>e.set.getLsbD b)[j]? =some v→(C1 e)[3+j]? =some v:=by
 intro j v h;have hj:j<256:=by have:=(UR.1 h).1;rwa [Cp]at this
 rw [Gw _ hj]at h;rw [PN e hj];exact h
end Go.Proofs.YtlnmhfhdjnenoaaGreatDoor
namespace Go.Proofs.YtlnmhfhdjnenoaaGreatDoor
open Go.VC Go.Lib
theorem Pp{S S2:Nat→Prop}{H:Aa}{a:NfM}{ea fa_:Option Addr}{ec fc:Nat}(hS:∀k,S k→k<H.size)(hS2:∀k,S2 k→k<H.size)(hr:a.Rng)(hl:a.edges.length≤1099511627776)(h1:SlD tEd S H ea ec a.edges)(h20:SlD Hk S2 H fa_ fc a.edges):
  Bv Tryz.prog 11 #[.agg (nfL a (.slice ea a.edges.length ec)).toArray,.agg (nfL a (.slice fa_ a.edges.length fc)).toArray] H (.bool true):=by
 refine Ao.of_vc Tryz.func11 rfl (Tryz.call11 _) (BM (nfL a (.slice ea a.edges.length ec)) rfl ?_);intro p H1 hp hs1 hb1 ha1;have st1:=(St.nil H).box hp hs1 hb1 ha1;have g1:=h20.frame (st1.old.mono hS2);refine BM (nfL a (.slice fa_ a.edges.length fc)) rfl ?_;intro q H2 hq hs2 hb2 ha2;have st2:=st1.box hq hs2 hb2 ha2;have g2:SlD Hk S2 H2 fa_ fc a.edges:=g1.frame (ha2.mono fun k hk=>by have:=st1.up (hS2 k hk);omega);have hB1:=st2.blk 0 rfl;have hB2:=st2.blk 1 rfl;have d1:∀x:Int,(x != x)=false:=fun x=>by simp
 have d2:∀x:Bool,(x != x)=false:=fun x=>by simp
 refine fa CN ?_;refine ld1 (v:=.int .i64 a.st) ct3 (by rw [hB1.cell];rfl) trivial ?_;refine fa Cc ?_;refine ld1 (v:=.int .i64 a.st) ct3 (by rw [hB2.cell];rfl) trivial ?_;(conv=>whnf);rw [d1];refine fa Gs ?_;refine ld1 (v:=.int .i64 a.start) ct3 (by rw [hB1.cell];rfl) trivial ?_;refine fa Li ?_;refine ld1 (v:=.int .i64 a.start) ct3 (by rw [hB2.cell];rfl) trivial ?_;(conv=>whnf);rw [d1];refine fa Gt ?_;refine ld1 (v:=.int .i64 a.fin) ct3 (by rw [hB1.cell];rfl) trivial ?_;refine fa Lj ?_;refine ld1 (v:=.int .i64 a.fin) ct3 (by rw [hB2.cell];rfl) trivial ?_;(conv=>whnf);rw [d1];refine fa CC ?_;refine ld1 (v:=.slice ea a.edges.length ec) FI (by rw [hB1.cell];rfl) trivial ?_;refine fa CY ?_;refine ld1 (v:=.slice fa_ a.edges.length fc) Gr (by rw [hB2.cell];rfl) trivial ?_;(conv=>whnf);rw [d1];(conv=>whnf);refine AH.mk [5] (fun i:Nat=>[.int .i64 (i:Int)]) (fun i H3=>i≤a.edges.length∧St H H3 [pB 37 p (nfL a (.slice ea a.edges.length ec)),pB 42 q (nfL a (.slice fa_ a.edges.length fc))]) (fun i _=>a.edges.length - i) ?_ ?_
 ·(conv=>whnf);exact⟨0,rfl,Ve _,st2⟩
 ·rintro i H3 junk ⟨hi,st3⟩;have hC1:=st3.blk 0 rfl;have hC2:=st3.blk 1 rfl;refine fa CY ?_;refine ld1 (v:=.slice fa_ a.edges.length fc) Gr (by rw [hC2.cell];rfl) trivial ?_;refine AQ.mk (fun hz=>?_) (fun hz=>?_)<;>simp only [decide_eq_true_eq,decide_eq_false_iff_not]at hz
  ·obtain⟨e,he⟩:=Bw (l:=a.edges) (k:=i) (by omega);have u1:SlD tEd S H3 ea ec a.edges:=(h1.frame (st3.old.mono hS));have u2:SlD Hk S2 H3 fa_ fc a.edges:=g1.frame (show Agr S2 H1 H3 from fun k hk=>by rw [st3.old k (hS2 k hk),st1.old k (hS2 k hk)]);refine As.heldZ (Old H3) [] (sq [0,1,2,3,4,5,6,7,8,9] (.b 10 (.f 11 (.f 12 (.f 13 .e))) 11 (.f 10 (.f 12 (.f 13 .e))))) rfl (by kernel_rfl) (fa CC ?_);refine ld1 (v:=.slice ea a.edges.length ec) FI (by rw [hC1.cell];rfl) (st3.in_ 0 rfl rfl).2 ?_;refine ixr (i:=i) FB u1 he rfl ?_;rintro b4 o4 c4 hS4 hc4 ⟨rfl,hok⟩;refine ldN (cs:=edL e) ID hc4 (st3.up (hS _ hS4)) (fa CY ?_);refine ld1 (v:=.slice fa_ a.edges.length fc) Gr (by rw [hC2.cell];rfl) (st3.in_ 1 rfl rfl).2 ?_;refine ixr (i:=i) IB u2 he rfl ?_;rintro b5 o5 c5 hS5 hc5 ⟨rfl,-⟩;refine ldN (cs:=C1 e) (by rw [AU];exact LS) hc5 (st3.up (hS2 _ hS5)) ?_;refine⟨?_,?_⟩
   ·have t3:=St.nil H3;refine Ag _ [.int .i64 0,.int .i64 0,.bool false,.int .u64 0,.int .u64 0,.int .u64 0,.int .u64 0] Fv rfl ?_;intro x H4 hx4 hs4 hb4 ha4;have t4:=t3.box hx4 hs4 hb4 ha4;refine⟨t4.old,?_⟩;(conv=>whnf);refine Ag _ OJ FK rfl ?_;intro y H5 hx5 hs5 hb5 ha5;have t5:=t4.box hx5 hs5 hb5 ha5;refine⟨t5.old,?_⟩;refine Ay (cs:=edL e) t5 0 rfl rfl (UQ _) rfl fun H6 t6=>(⟨t6.old,?_⟩);rw [Ae (show(edL e).length=7 from rfl)]at t6;refine Ay (cs:=C1 e) t6 1 (by rw [AU];rfl) rfl (by rw [AU];decide) (DC e) fun H7 t7=>?_;refine⟨t7.old,?_⟩;rw [Ae (show(C1 e).length=OJ.length by rw [AU,Mg])]at t7;have st7:=st3.call t7.old;have hx7:=t7.blk 0 rfl;have hy7:=t7.blk 1 rfl;have hxl:=hx7.lt;have hyl:=hy7.lt;refine As.quiet (Old H7) rfl (by kernel_rfl) (fa Fi ?_);refine ld1 (v:=.int .i64 e.fr) ct3 (by rw [hx7.cell];rfl) hxl ?_;refine fa GS ?_;refine ld1 (v:=.int .i64 e.fr) ct3 (by rw [hy7.cell];rfl) hyl ?_;(conv=>whnf);rw [d1];refine fa Fj ?_;refine ld1 (v:=.int .i64 e.to) ct3 (by rw [hx7.cell];rfl) hxl ?_;refine fa GT ?_;refine ld1 (v:=.int .i64 e.to) ct3 (by rw [hy7.cell];rfl) hyl ?_;(conv=>whnf);rw [d1];refine fa HX ?_;refine ld1 (v:=.bool e.sil) ct4 (by rw [hx7.cell];rfl) hxl ?_;refine fa Ji ?_;refine ld1 (v:=.bool e.sil) ct4 (by rw [hy7.cell];rfl) hyl ?_;refine J9 Tryz.underlying4 ?_;rw [show(!(e.sil==e.sil))=false by simp];refine fa Jh (ldN (cs:=Ak e.set) B0 (hx7.cells fun j v hv=>HW e j v hv) hxl (fa Jj ?_));refine ldN (cs:=BW fun b=>e.set.getLsbD b) (by rw [Cp];exact Kf) (hy7.cells fun j v hv=>Ky e j v hv) hyl ?_;refine Q1 (fun H' h'=>O9 _ e.set (fun i hi=>rfl) H') (M8 e.set e.set ?_);rw [show(!decide (e.set=e.set))=false by simp];(conv=>whnf);intro H8 ha8;(conv=>whnf);rw [w64 (x:=(i:Int)+1) (by omega) (by omega)];exact⟨rfl,i+1,by simp,⟨by omega,st7.call ha8⟩,by omega⟩
   ·have t3:=St.nil H3;refine Ag _ OJ FK rfl ?_;intro y H4 hx4 hs4 hb4 ha4;have t4:=t3.box hx4 hs4 hb4 ha4;refine⟨t4.old,?_⟩;(conv=>whnf);refine Ag _ [.int .i64 0,.int .i64 0,.bool false,.int .u64 0,.int .u64 0,.int .u64 0,.int .u64 0] Fv rfl ?_;intro x H5 hx5 hs5 hb5 ha5;have t5:=t4.box hx5 hs5 hb5 ha5;refine⟨t5.old,?_⟩;refine Ay (cs:=edL e) t5 1 rfl rfl (UQ _) rfl fun H6 t6=>(⟨t6.old,?_⟩);rw [Ae (show(edL e).length=7 from rfl)]at t6;refine Ay (cs:=C1 e) t6 0 (by rw [AU];rfl) rfl (by rw [AU];decide) (DC e) fun H7 t7=>?_;refine⟨t7.old,?_⟩;rw [Ae (show(C1 e).length=OJ.length by rw [AU,Mg])]at t7;have st7:=st3.call t7.old;have hx7:=t7.blk 1 rfl;have hy7:=t7.blk 0 rfl;have hxl:=hx7.lt;have hyl:=hy7.lt;refine As.quiet (Old H7) rfl (by kernel_rfl) (fa Fi ?_);refine ld1 (v:=.int .i64 e.fr) ct3 (by rw [hx7.cell];rfl) hxl ?_;refine fa GS ?_;refine ld1 (v:=.int .i64 e.fr) ct3 (by rw [hy7.cell];rfl) hyl ?_;(conv=>whnf);rw [d1];refine fa Fj ?_;refine ld1 (v:=.int .i64 e.to) ct3 (by rw [hx7.cell];rfl) hxl ?_;refine fa GT ?_;refine ld1 (v:=.int .i64 e.to) ct3 (by rw [hy7.cell];rfl) hyl ?_;(conv=>whnf);rw [d1];refine fa HX ?_;refine ld1 (v:=.bool e.sil) ct4 (by rw [hx7.cell];rfl) hxl ?_;refine fa Ji ?_;refine ld1 (v:=.bool e.sil) ct4 (by rw [hy7.cell];rfl) hyl ?_;refine J9 Tryz.underlying4 ?_;rw [show(!(e.sil==e.sil))=false by simp];refine fa Jh (ldN (cs:=Ak e.set) B0 (hx7.cells fun j v hv=>HW e j v hv) hxl (fa Jj ?_));refine ldN (cs:=BW fun b=>e.set.getLsbD b) (by rw [Cp];exact Kf) (hy7.cells fun j v hv=>Ky e j v hv) hyl ?_;refine Q1 (fun H' h'=>O9 _ e.set (fun i hi=>rfl) H') (M8 e.set e.set ?_);rw [show(!decide (e.set=e.set))=false by simp];(conv=>whnf);intro H8 ha8;(conv=>whnf);rw [w64 (x:=(i:Int)+1) (by omega) (by omega)];exact⟨rfl,i+1,by simp,⟨by omega,st7.call ha8⟩,by omega⟩
  ·(conv=>whnf);exact⟨rfl,st3.old⟩
structure Uy(B:Nat→Prop)(H:Aa)(s q2 q3 i:Nat)(t:ByteArray)(os:List Int)(ps:List Pc)(f:AF)(fs:List AF)(j:Nat)(any:Bool)(G:Aa):Prop where
 ex:∃(f':AF) (r:ReM) (B':Nat→Prop) (fn:Value) (a:Option Addr) (n cap:Nat),i≤j∧j≤t.size∧BC t ⟨i,f,fs⟩=BC t ⟨j,f',fs⟩∧(Aw f').row=(if any then some r else none)∧
  (any=false→r= .eps∧f'.factor=none)∧(any=true→E6 (bt t j)=false)∧f'.alt=f.alt∧f'.meet=f.meet∧f'.sign=f.sign∧f'.place=f.place∧
  (∀k,B k→B' k)∧Agr B H G∧StB B' G G (sP s t j a n cap os ps++[pB 77 q2 Aj,pB 77 q3 (Ab r fn)])∧Ck B' G fn r
theorem Ef{B:Nat→Prop}{H H':Aa}(hE:DP H)(hB:B 0)(ha:Agr B H H'):DP H':=by
 refine⟨hE.1.eq (ha _ hB),?_⟩;have h:=ha _ hB;rw [Array.getElem?_eq_getElem hE.2]at h;exact(Array.getElem?_eq_some_iff.1 h).1
theorem MB{f:AF}(h:f.factor=none):Aw f=f:=by unfold Aw;rw [h]
theorem Fp(f:AF):(Aw f).alt=f.alt∧(Aw f).meet=f.meet∧(Aw f).sign=f.sign∧(Aw f).place=f.place:=by
 unfold Aw;split<;>exact⟨rfl,rfl,rfl,rfl⟩
theorem Q8{B:Nat→Prop}{H:Aa}{s i:Nat}{t:ByteArray}{os:List Int}{ps:List Pc}{f:AF}{fs:List AF}(hE:DP H)(hEB:B 0)(ht:t.size≤1048576)(hi:i≤t.size)(hos:os.length=fs.length)(hfs:fs.length≤1000)
  (hrow:f.row=none) (hfac:f.factor=none) (IH:∀i',i<i'→HQ t i') (sc:Sc B H s t i os ps):
  BA Tryz.prog 78 #[.pointer (some ⟨s,0,none⟩)] H
   (fun v H'=>∃j f' r,i≤j∧j≤t.size∧(j=t.size∨bt t j=124∨bt t j=38∨bt t j=45∨bt t j=41)∧BC t ⟨i,f,fs⟩=BC t ⟨j,f',fs⟩∧(Aw f').row.getD .eps=r∧
    f'.alt=f.alt∧f'.meet=f.meet∧f'.sign=f.sign∧f'.place=f.place∧SR B H s t j os ps r v H')
   (fun x H'=>SE B H t ⟨i,f,fs⟩ x H'):=by
 obtain⟨a,n,cap,st⟩:=sc;refine BA.of_vc Tryz.func78 rfl (Tryz.call78 _) (Ag (.agg Aj.toArray) Aj CG rfl ?_);intro q2 H1 hq1 hs1 hb1 ha1;have st1:=st.box hq1 hs1 hb1 ha1;refine Av Tryz.underlying127 rfl _ rfl [] rfl (Ah.of (Ai.mk (Lx (r:=.eps) st1 rfl) ?_));rintro _ H2 ⟨B1,f1,rfl,s1,a2,st2,gs⟩;obtain⟨g1,c1,rfl⟩:=gs.fn;refine Ag (.agg Aj.toArray) Aj CG rfl ?_;intro q3 H3 hq3 hs3 hb3 ha3;have st3:=st2.box hq3 hs3 hb3 ha3;rw [UU]at st3;replace st3:StB B1 H2 H3 (sP s t i a n cap os ps++[pB 77 q2 Aj,pB 77 q3 Aj]):=st3;refine Be (cs:=Ab .eps (.func (.func g1) #[] c1)) st3 _ rfl (lgR _ _ 1) (by simp [Ab,Aj]) rfl fun H4 st4 ja4 js4=>?_;rw [lsR,BZ rfl]at st4;replace st4:StB B1 H2 H4 (sP s t i a n cap os ps++[pB 77 q2 Aj,pB 77 q3 (Ab .eps (.func (.func g1) #[] c1))]):=st4;(conv=>whnf);refine DU.mk [4] (fun x:Nat×Bool=>match x with | (_,b)=>[.bool b]) (fun x G=>match x with | (j,b)=>Uy B H s q2 q3 i t os ps f fs j b G) (fun x _=>match x with | (j,_)=>t.size - j) ?_ ?_
 ·(conv=>whnf);refine⟨(i,false),rfl,⟨f,.eps,B1,.func (.func g1) #[] c1,a,n,cap,UQ _,hi,rfl,by rw [MB hfac];exact hrow,fun _=>⟨rfl,hfac⟩,fun h=>Va h,rfl,rfl,rfl,rfl,s1,?_,st4.rebase,gs.frame st4.old fun k hk=>hk⟩⟩;exact(st1.old.trans (a2.mono fun k hk=>st1.up hk)).trans fun k hk=>st4.old k (s1 k hk)
 ·rintro⟨j,any⟩ G junk ⟨f',r,B2,f2,a2,n2,cap2,hij,hj,hpr,hr,hany,hpo,e1,e2,e3,e4,s2,ag,stg,gv⟩;obtain⟨gg,cc,rfl⟩:=gv.fn;clear st st1 st2 st3 st4 gs hb1 hb3 ha1 ha3;have hgd:(Aw f').row.getD .eps=r:=by
   rw [hr];cases any with
   | false=>exact(hany rfl).1.symm
   | true=>rfl
  refine Ah.of (Af (Ee (stg.blk 0 rfl)) fun G1 hg1=>?_);have sg1:=stg.call hg1;by_cases h0:j<t.size
  ·rw [decide_eq_false (show¬t.size≤j by omega)];refine Ah.of (Af (CZ (sg1.blk 0 rfl) h0) fun G2 hg2=>?_);have sg2:=sg1.call hg2;refine AO.run ?_;(conv=>whnf);by_cases h124:bt t j=124
   ·have d:(((bt t j:Nat):Int)==124)=true:=by rw [h124];rfl
    (conv=>whnf);rw [d];clear d;refine ldN (cs:=Ab r (.func (.func gg) #[] cc)) Bj (Au (sg2.blk _ (lgR _ _ 1))) trivial (Be (cs:=Ab r (.func (.func gg) #[] cc)) sg2 _ rfl (lgR _ _ 0) (by simp [Ab,Aj]) rfl fun G9 sg9 ja js=>?_);rw [lsR,BZ rfl]at sg9;refine ldN (cs:=Ab r (.func (.func gg) #[] cc)) Bj (Au (sg9.blk _ (lgR _ _ 0))) trivial ?_;exact⟨j,f',r,hij,hj,.inr (.inl h124),hpr,hgd,e1,e2,e3,e4,B2,_,rfl,s2,ag.trans fun k hk=>sg9.old k (s2 k hk),⟨a2,n2,cap2,sg9.lft.rebase⟩,gv.frame sg9.old fun k hk=>hk⟩
   ·have d:(((bt t j:Nat):Int)==124)=false:=DY h124;(conv=>whnf);rw [d];clear d;by_cases h38:bt t j=38
    ·have d:(((bt t j:Nat):Int)==38)=true:=by rw [h38];rfl
     (conv=>whnf);rw [d];clear d;refine ldN (cs:=Ab r (.func (.func gg) #[] cc)) Bj (Au (sg2.blk _ (lgR _ _ 1))) trivial (Be (cs:=Ab r (.func (.func gg) #[] cc)) sg2 _ rfl (lgR _ _ 0) (by simp [Ab,Aj]) rfl fun G9 sg9 ja js=>?_);rw [lsR,BZ rfl]at sg9;refine ldN (cs:=Ab r (.func (.func gg) #[] cc)) Bj (Au (sg9.blk _ (lgR _ _ 0))) trivial ?_;exact⟨j,f',r,hij,hj,.inr (.inr (.inl h38)),hpr,hgd,e1,e2,e3,e4,B2,_,rfl,s2,ag.trans fun k hk=>sg9.old k (s2 k hk),⟨a2,n2,cap2,sg9.lft.rebase⟩,gv.frame sg9.old fun k hk=>hk⟩
    ·have d:(((bt t j:Nat):Int)==38)=false:=DY h38;(conv=>whnf);rw [d];clear d;by_cases h45:bt t j=45
     ·have d:(((bt t j:Nat):Int)==45)=true:=by rw [h45];rfl
      (conv=>whnf);rw [d];clear d;refine ldN (cs:=Ab r (.func (.func gg) #[] cc)) Bj (Au (sg2.blk _ (lgR _ _ 1))) trivial (Be (cs:=Ab r (.func (.func gg) #[] cc)) sg2 _ rfl (lgR _ _ 0) (by simp [Ab,Aj]) rfl fun G9 sg9 ja js=>?_);rw [lsR,BZ rfl]at sg9;refine ldN (cs:=Ab r (.func (.func gg) #[] cc)) Bj (Au (sg9.blk _ (lgR _ _ 0))) trivial ?_;exact⟨j,f',r,hij,hj,.inr (.inr (.inr (.inl h45))),hpr,hgd,e1,e2,e3,e4,B2,_,rfl,s2,ag.trans fun k hk=>sg9.old k (s2 k hk),⟨a2,n2,cap2,sg9.lft.rebase⟩,gv.frame sg9.old fun k hk=>hk⟩
     ·have d:(((bt t j:Nat):Int)==45)=false:=DY h45;(conv=>whnf);rw [d];clear d;by_cases h41:bt t j=41
      ·have d:(((bt t j:Nat):Int)==41)=true:=by rw [h41];rfl
       (conv=>whnf);rw [d];clear d;refine ldN (cs:=Ab r (.func (.func gg) #[] cc)) Bj (Au (sg2.blk _ (lgR _ _ 1))) trivial (Be (cs:=Ab r (.func (.func gg) #[] cc)) sg2 _ rfl (lgR _ _ 0) (by simp [Ab,Aj]) rfl fun G9 sg9 ja js=>?_);rw [lsR,BZ rfl]at sg9;refine ldN (cs:=Ab r (.func (.func gg) #[] cc)) Bj (Au (sg9.blk _ (lgR _ _ 0))) trivial ?_;exact⟨j,f',r,hij,hj,.inr (.inr (.inr (.inr h41))),hpr,hgd,e1,e2,e3,e4,B2,_,rfl,s2,ag.trans fun k hk=>sg9.old k (s2 k hk),⟨a2,n2,cap2,sg9.lft.rebase⟩,gv.frame sg9.old fun k hk=>hk⟩
      ·have d:(((bt t j:Nat):Int)==41)=false:=DY h41;(conv=>whnf);rw [d];clear d;(conv=>whnf);try (refine AO.run ?_)
       by_cases h42:bt t j=42
       ·have d:(((bt t j:Nat):Int)==42)=true:=by rw [h42];rfl
        (conv=>whnf);rw [d];clear d;refine VC.fa AJ ?_;refine ld1 (v:=.int .i64 ((j:Nat):Int)) ct3 (by rw [(sg2.blk 0 rfl).cell];rfl) trivial ?_;refine Ah.mk (C2 (c:=20) (e:=j)) (fun _ _ h=>h.elim) ?_;rintro _ _ ⟨rfl,rfl⟩;have hfn:f'.factor=none:=by
         cases any with
         | false=>exact(hany rfl).2
         | true=>have:=hpo rfl;rw [h42]at this;exact absurd this (by decide)
        exact⟨20,j,hpr.trans (DL (s:=⟨j,f',fs⟩) h0 (Eu (by rw [h42];rfl) hfn)),rfl,ag.trans fun k hk=>sg2.old k (s2 k hk)⟩
       ·have d:(((bt t j:Nat):Int)==42)=false:=DY h42;(conv=>whnf);rw [d];clear d;by_cases h43:bt t j=43
        ·have d:(((bt t j:Nat):Int)==43)=true:=by rw [h43];rfl
         (conv=>whnf);rw [d];clear d;refine VC.fa AJ ?_;refine ld1 (v:=.int .i64 ((j:Nat):Int)) ct3 (by rw [(sg2.blk 0 rfl).cell];rfl) trivial ?_;refine Ah.mk (C2 (c:=20) (e:=j)) (fun _ _ h=>h.elim) ?_;rintro _ _ ⟨rfl,rfl⟩;have hfn:f'.factor=none:=by
          cases any with
          | false=>exact(hany rfl).2
          | true=>have:=hpo rfl;rw [h43]at this;exact absurd this (by decide)
         exact⟨20,j,hpr.trans (DL (s:=⟨j,f',fs⟩) h0 (Eu (by rw [h43];rfl) hfn)),rfl,ag.trans fun k hk=>sg2.old k (s2 k hk)⟩
        ·have d:(((bt t j:Nat):Int)==43)=false:=DY h43;(conv=>whnf);rw [d];clear d;by_cases h63:bt t j=63
         ·have d:(((bt t j:Nat):Int)==63)=true:=by rw [h63];rfl
          (conv=>whnf);rw [d];clear d;refine VC.fa AJ ?_;refine ld1 (v:=.int .i64 ((j:Nat):Int)) ct3 (by rw [(sg2.blk 0 rfl).cell];rfl) trivial ?_;refine Ah.mk (C2 (c:=20) (e:=j)) (fun _ _ h=>h.elim) ?_;rintro _ _ ⟨rfl,rfl⟩;have hfn:f'.factor=none:=by
           cases any with
           | false=>exact(hany rfl).2
           | true=>have:=hpo rfl;rw [h63]at this;exact absurd this (by decide)
          exact⟨20,j,hpr.trans (DL (s:=⟨j,f',fs⟩) h0 (Eu (by rw [h63];rfl) hfn)),rfl,ag.trans fun k hk=>sg2.old k (s2 k hk)⟩
         ·have d:(((bt t j:Nat):Int)==63)=false:=DY h63;(conv=>whnf);rw [d];clear d;by_cases h123:bt t j=123
          ·have d:(((bt t j:Nat):Int)==123)=true:=by rw [h123];rfl
           (conv=>whnf);rw [d];clear d;refine VC.fa AJ ?_;refine ld1 (v:=.int .i64 ((j:Nat):Int)) ct3 (by rw [(sg2.blk 0 rfl).cell];rfl) trivial ?_;refine Ah.mk (C2 (c:=20) (e:=j)) (fun _ _ h=>h.elim) ?_;rintro _ _ ⟨rfl,rfl⟩;have hfn:f'.factor=none:=by
            cases any with
            | false=>exact(hany rfl).2
            | true=>have:=hpo rfl;rw [h123]at this;exact absurd this (by decide)
           exact⟨20,j,hpr.trans (DL (s:=⟨j,f',fs⟩) h0 (Eu (by rw [h123];rfl) hfn)),rfl,ag.trans fun k hk=>sg2.old k (s2 k hk)⟩
          ·have d:(((bt t j:Nat):Int)==123)=false:=DY h123;(conv=>whnf);rw [d];clear d;(conv=>whnf);try (refine AO.run ?_)
           have hfb:JF (bt t j):=⟨h124,h38,h45,h41,Il h42 h43 h63 h123⟩;refine Ah.mk (S9 (f:=f') (fs:=fs) (Ef hE hEB (ag.trans fun k hk=>sg2.old k (s2 k hk))) (s2 _ hEB) ht h0 hos hfs hfb (fun i' hi'=>IH i' (by omega)) (B:=B2) (ps:=ps++[pB 77 q2 Aj,pB 77 q3 (Ab r (.func (.func gg) #[] cc))]) ⟨a2,n2,cap2,sg2.rebase⟩) ?_ ?_
           rotate_left
           ·intro x G3 h;exact h.from hpr (ag.trans fun k hk=>sg2.old k (s2 k hk)) s2
           rintro _ G3 ⟨j1,r1,hj1,hj1t,hp1,⟨B3,f3,rfl,s3,a3,⟨a4,n4,cap4,sg3⟩,gv1⟩⟩;have ag2:Agr B H G2:=ag.trans fun k hk=>sg2.old k (s2 k hk);have ag3:Agr B H G3:=ag2.trans fun k hk=>a3 k (s2 k hk);have gv3:Ck B3 G3 (.func (.func gg) #[] cc) r:=gv.frame (sg2.old.trans a3) s3;replace sg3:StB B3 G3 G3 (sP s t j1 a4 n4 cap4 os ps++[pB 77 q2 Aj,pB 77 q3 (Ab r (.func (.func gg) #[] cc))]):=sg3;refine Ah.mk (Pm (k:=0) (f:={Aw f' with factor:=some r1}) (fs:=fs) (by omega) hj1t rfl sg3 rfl gv1) ?_ ?_
           rotate_left
           ·rintro x G4 ⟨c,p,h1,h2,h3⟩;exact⟨c,p,(hpr.trans hp1).trans h1,h2,ag3.trans fun k hk=>h3 k (s3 k (s2 k hk))⟩
           rintro _ G4 ⟨j2,r2,hj2,hj2t,hpo2,hp2,⟨B4,f4,rfl,s4,a5,sg4,gv2⟩⟩;have ag4:Agr B H G4:=ag3.trans fun k hk=>a5 k (s3 k (s2 k hk));have gv4:Ck B4 G4 (.func (.func gg) #[] cc) r:=gv3.frame a5 s4;obtain⟨g4,c4,rfl⟩:=gv2.fn;replace sg4:StB B4 G4 G4 (sP s t j2 a4 n4 cap4 os ps++[pB 77 q2 Aj,pB 77 q3 (Ab r (.func (.func gg) #[] cc))]):=sg4;refine Ag (.agg Aj.toArray) Aj CG rfl ?_;intro q5 G5 hq5 hs5 hb5 ha5;have sg5:=sg4.box hq5 hs5 hb5 ha5;rw [UU]at sg5;refine Be (cs:=Ab r2 (.func (.func g4) #[] c4)) sg5 _ rfl (lgR _ _ 2) (by simp [Ab,Aj]) rfl fun G6 sg6 ja6 js6=>?_;rw [lsR,BZ rfl]at sg6;replace sg6:StB B4 G4 G6 (sP s t j2 a4 n4 cap4 os ps++[pB 77 q2 Aj,pB 77 q3 (Ab r (.func (.func gg) #[] cc)),pB 77 q5 (Ab r2 (.func (.func g4) #[] c4))]):=sg6;have ag6:Agr B H G6:=ag4.trans fun k hk=>sg6.old k (s4 k (s3 k (s2 k hk)));have gv6:=gv4.frame sg6.old fun k hk=>hk;have gv26:=gv2.frame sg6.old fun k hk=>hk;have hp9:BC t ⟨i,f,fs⟩=BC t ⟨j2,{Aw f' with factor:=some r2},fs⟩:=hpr.trans (hp1.trans hp2);obtain⟨z1,z2,z3,z4⟩:=Fp f';(conv=>whnf);cases any with
           | false=>
             replace hr:(Aw f').row=none:=hr;(conv=>whnf);try (refine AO.run ?_)
             refine ldN (cs:=Ab (r2) (.func (.func g4) #[] c4)) Bj (Au (sg6.blk _ (lgR _ _ 2))) trivial (Be (cs:=Ab (r2) (.func (.func g4) #[] c4)) sg6 _ rfl (lgR _ _ 1) (by simp [Ab]) rfl fun G9 sg9 ja9 js9=>?_);rw [lsR]at sg9;have e9:Ac (Ab r (.func (.func gg) #[] cc)) 0 (Ab (r2) (.func (.func g4) #[] c4))=Ab (r2) (.func (.func g4) #[] c4):=BZ rfl;replace sg9:StB B4 _ G9 (sP s t j2 a4 n4 cap4 os ps++[pB 77 q2 Aj,pB 77 q3 (Ac (Ab r (.func (.func gg) #[] cc)) 0 (Ab (r2) (.func (.func g4) #[] c4))),pB 77 q5 (Ab (r2) (.func (.func g4) #[] c4))]):=sg9;rw [e9]at sg9;(conv=>whnf);refine⟨rfl,(j2,true),rfl,⟨{Aw f' with factor:=some r2},r2,B4,.func (.func g4) #[] c4,a4,n4,cap4,by omega,hj2t,hp9,?_,fun h=>Va h,fun _=>hpo2,z1.trans e1,z2.trans e2,z3.trans e3,z4.trans e4,(fun k hk=>s4 k (s3 k (s2 k hk))),?_,(sg9.subl ((UW _).2 (List.Sublist.cons_cons _ (List.Sublist.cons_cons _ (Vh _))))).rebase,?_⟩,?_⟩
             ·show some (PK (Aw f').row r2)=some (r2);rw [hr];rfl
             ·exact ag6.trans (ja9.mono fun k hk=>fun e=>(sg6.rng _ (UV _ (US _ UT)) k e).1 ((fun k hk=>s4 k (s3 k (s2 k hk))) k hk))
             ·exact gv26.frame (ja9.mono fun k hk=>fun e=>(sg6.rng _ (UV _ (US _ UT)) k e).1 hk) fun k hk=>hk
             ·show t.size - j2<t.size - j;omega
           | true=>
             replace hr:(Aw f').row=some r:=hr;(conv=>whnf);try (refine AO.run ?_)
             refine ldN (cs:=Ab r (.func (.func gg) #[] cc)) Bj (Au (sg6.blk _ (lgR _ _ 1))) trivial (ldN (cs:=Ab r2 (.func (.func g4) #[] c4)) Bj (Au (sg6.blk _ (lgR _ _ 2))) trivial (Ah.of (Ai.mk (E2 .cat sg6 gv6 gv26) ?_)));rintro _ G7 ⟨B7,f7,rfl,s7,a7,sg7,gj⟩;obtain⟨g7,c7,rfl⟩:=gj.fn;refine Be (cs:=Ab (.cat r r2) (.func (.func g7) #[] c7)) sg7 _ rfl (lgR _ _ 2) (by simp [Ab]) rfl fun G8 sg8 ja8 js8=>?_;rw [lsR]at sg8;have e8:Ac (Ab r2 (.func (.func g4) #[] c4)) 0 (Ab (.cat r r2) (.func (.func g7) #[] c7))=Ab (.cat r r2) (.func (.func g7) #[] c7):=BZ rfl;replace sg8:StB B7 G7 G8 (sP s t j2 a4 n4 cap4 os ps++[pB 77 q2 Aj,pB 77 q3 (Ab r (.func (.func gg) #[] cc)),pB 77 q5 (Ac (Ab r2 (.func (.func g4) #[] c4)) 0 (Ab (.cat r r2) (.func (.func g7) #[] c7)))]):=sg8;rw [e8]at sg8;have s8:∀k,B k→B7 k:=fun k hk=>s7 k (s4 k (s3 k (s2 k hk)));have ag8:Agr B H G8:=(ag6.trans (a7.mono fun k hk=>sg6.up (s4 k (s3 k (s2 k hk))))).trans fun k hk=>sg8.old k (s8 k hk);have gj8:=gj.frame sg8.old fun k hk=>hk;refine ldN (cs:=Ab (.cat r r2) (.func (.func g7) #[] c7)) Bj (Au (sg8.blk _ (lgR _ _ 2))) trivial (Be (cs:=Ab (.cat r r2) (.func (.func g7) #[] c7)) sg8 _ rfl (lgR _ _ 1) (by simp [Ab]) rfl fun G9 sg9 ja9 js9=>?_);rw [lsR]at sg9;have e9:Ac (Ab r (.func (.func gg) #[] cc)) 0 (Ab (.cat r r2) (.func (.func g7) #[] c7))=Ab (.cat r r2) (.func (.func g7) #[] c7):=BZ rfl;replace sg9:StB B7 _ G9 (sP s t j2 a4 n4 cap4 os ps++[pB 77 q2 Aj,pB 77 q3 (Ac (Ab r (.func (.func gg) #[] cc)) 0 (Ab (.cat r r2) (.func (.func g7) #[] c7))),pB 77 q5 (Ab (.cat r r2) (.func (.func g7) #[] c7))]):=sg9;rw [e9]at sg9;(conv=>whnf);refine⟨rfl,(j2,true),rfl,⟨{Aw f' with factor:=some r2},.cat r r2,B7,.func (.func g7) #[] c7,a4,n4,cap4,by omega,hj2t,hp9,?_,fun h=>Va h,fun _=>hpo2,z1.trans e1,z2.trans e2,z3.trans e3,z4.trans e4,s8,?_,(sg9.subl ((UW _).2 (List.Sublist.cons_cons _ (List.Sublist.cons_cons _ (Vh _))))).rebase,?_⟩,?_⟩
             ·show some (PK (Aw f').row r2)=some (.cat r r2);rw [hr];rfl
             ·exact ag8.trans (ja9.mono fun k hk=>fun e=>(sg8.rng _ (UV _ (US _ UT)) k e).1 (s8 k hk))
             ·exact gj8.frame (ja9.mono fun k hk=>fun e=>(sg8.rng _ (UV _ (US _ UT)) k e).1 hk) fun k hk=>hk
             ·show t.size - j2<t.size - j;omega
  ·rw [decide_eq_true (show t.size≤j by omega)];refine ldN (cs:=Ab r (.func (.func gg) #[] cc)) Bj (Au (sg1.blk _ (lgR _ _ 1))) trivial (Be (cs:=Ab r (.func (.func gg) #[] cc)) sg1 _ rfl (lgR _ _ 0) (by simp [Ab,Aj]) rfl fun G9 sg9 ja js=>?_);rw [lsR,BZ rfl]at sg9;refine ldN (cs:=Ab r (.func (.func gg) #[] cc)) Bj (Au (sg9.blk _ (lgR _ _ 0))) trivial ?_;exact⟨j,f',r,hij,hj,.inl (by omega),hpr,hgd,e1,e2,e3,e4,B2,_,rfl,s2,ag.trans fun k hk=>sg9.old k (s2 k hk),⟨a2,n2,cap2,sg9.lft.rebase⟩,gv.frame sg9.old fun k hk=>hk⟩
theorem Km(f:AF):(Aw f).factor=none:=by
 unfold Aw;split
 ·rename_i h;exact h
 ·rfl
theorem Df(f:AF):(BV f).alt=f.alt∧(BV f).place=f.place∧(BV f).row=none∧(BV f).factor=none:=by
 obtain⟨h1,h2,h3,h4⟩:=Fp f;exact⟨h1,h4,rfl,Km f⟩
theorem I3(f:AF):(BV f).meet=some (match f.meet with | none=>(Aw f).row.getD .eps | some q=>if f.sign=38 then .and_ q ((Aw f).row.getD .eps)else .minus q ((Aw f).row.getD .eps)):=by
 obtain⟨h1,h2,h3,h4⟩:=Fp f;show some (match(Aw f).meet with | none=>(Aw f).row.getD .eps | some q=>if(Aw f).sign=38 then .and_ q ((Aw f).row.getD .eps)else .minus q ((Aw f).row.getD .eps))=_;rw [h2,h3]
theorem Kv(f:AF):(Cl f).alt=some (match f.alt with | none=>(BV f).meet.getD .eps | some q=>.alt q ((BV f).meet.getD .eps)):=by
 obtain⟨h1,h2,h3,h4⟩:=Df f;show some (match(BV f).alt with | none=>(BV f).meet.getD .eps | some q=>.alt q ((BV f).meet.getD .eps))=_;rw [h1]
theorem EQ(f:AF):(Cl f).meet=none∧(Cl f).place=f.place∧(Cl f).row=none∧(Cl f).factor=none:=by
 obtain⟨h1,h2,h3,h4⟩:=Df f;exact⟨rfl,h2,h3,h4⟩
structure T5(B:Nat→Prop)(H:Aa)(s q2 q3 i:Nat)(t:ByteArray)(os:List Int)(ps:List Pc)(f:AF)(fs:List AF)(j:Nat)(G:Aa):Prop where
 ex:∃(f':AF) (r:ReM) (B':Nat→Prop) (fn:Value) (a:Option Addr) (n cap:Nat),i≤j∧j≤t.size∧(j=t.size∨bt t j=124∨bt t j=38∨bt t j=45∨bt t j=41)∧BC t ⟨i,f,fs⟩=BC t ⟨j,f',fs⟩∧(BV f').meet=some r∧f'.alt=f.alt∧f'.place=f.place∧
  (∀k,B k→B' k)∧Agr B H G∧StB B' G G (sP s t j a n cap os ps++[pB 77 q2 Aj,pB 77 q3 (Ab r fn)])∧Ck B' G fn r
theorem M0{B:Nat→Prop}{H:Aa}{s i:Nat}{t:ByteArray}{os:List Int}{ps:List Pc}{f:AF}{fs:List AF}(hE:DP H)(hEB:B 0)(ht:t.size≤1048576)(hi:i≤t.size)(hos:os.length=fs.length)(hfs:fs.length≤1000)
  (hmeet:f.meet=none) (hrow:f.row=none) (hfac:f.factor=none) (IH:∀i',i<i'→HQ t i') (sc:Sc B H s t i os ps):
  BA Tryz.prog 50 #[.pointer (some ⟨s,0,none⟩)] H
   (fun v H'=>∃j f' r,i≤j∧j≤t.size∧(j=t.size∨bt t j=124∨bt t j=41)∧BC t ⟨i,f,fs⟩=BC t ⟨j,f',fs⟩∧(BV f').meet=some r∧f'.alt=f.alt∧f'.place=f.place∧SR B H s t j os ps r v H')
   (fun x H'=>SE B H t ⟨i,f,fs⟩ x H'):=by
 obtain⟨a,n,cap,st⟩:=sc;refine BA.of_vc Tryz.func50 rfl (Tryz.call50 _) (Ag (.agg Aj.toArray) Aj CG rfl ?_);intro q2 H1 hq1 hs1 hb1 ha1;have st1:=st.box hq1 hs1 hb1 ha1;refine Ah.mk (Q8 (f:=f) (fs:=fs) (Ef hE hEB st1.old) hEB ht hi hos hfs hrow hfac IH (B:=B) (ps:=ps++[pB 77 q2 Aj]) ⟨a,n,cap,st1.rebase⟩) ?_ ?_
 rotate_left
 ·intro x H7 h;exact h.from rfl st1.old fun k hk=>hk
 rintro _ H2 ⟨j1,f1,r1,hij1,hj1,he1,hp1,hrw,e1,e2,e3,e5,⟨B1,f3,rfl,s1,a1,⟨a2,n2,cap2,st2⟩,gs⟩⟩;obtain⟨g1,c1,rfl⟩:=gs.fn;replace st2:StB B1 H2 H2 (sP s t j1 a2 n2 cap2 os ps++[pB 77 q2 Aj]):=st2;refine Ag (.agg Aj.toArray) Aj CG rfl ?_;intro q3 H3 hq3 hs3 hb3 ha3;have st3:=st2.box hq3 hs3 hb3 ha3;rw [UU]at st3;replace st3:StB B1 H2 H3 (sP s t j1 a2 n2 cap2 os ps++[pB 77 q2 Aj,pB 77 q3 Aj]):=st3;refine Be (cs:=Ab r1 (.func (.func g1) #[] c1)) st3 _ rfl (lgR _ _ 1) (by simp [Ab,Aj]) rfl fun H4 st4 ja4 js4=>?_;rw [lsR,BZ rfl]at st4;replace st4:StB B1 H2 H4 (sP s t j1 a2 n2 cap2 os ps++[pB 77 q2 Aj,pB 77 q3 (Ab r1 (.func (.func g1) #[] c1))]):=st4;have a14:Agr B H H4:=(st1.old.trans a1).trans fun k hk=>st4.old k (s1 k hk);(conv=>whnf);refine DU.mk [] (fun _:Nat=>[]) (fun j G=>T5 B H s q2 q3 i t os ps f fs j G) (fun j _=>t.size - j) ?_ ?_
 ·(conv=>whnf);exact⟨j1,rfl,⟨f1,r1,B1,.func (.func g1) #[] c1,a2,n2,cap2,hij1,hj1,he1,hp1,by rw [I3,e2,hmeet,hrw],e1,e5,s1,a14,st4.rebase,gs.frame st4.old fun k hk=>hk⟩⟩
 ·rintro j G junk ⟨f',r,B2,f2,a2,n2,cap2,hij,hj,hend,hpr,hm,ha,e4,s2,ag,stg,gv⟩;obtain⟨gg,cc,rfl⟩:=gv.fn;clear st st1 st2 st3 st4 gs hb1 hb3 ha1 ha3 a1 a14 s1;refine Ah.of (Af (Ee (stg.blk 0 rfl)) fun G1 hg1=>?_);have sg1:=stg.call hg1;by_cases h0:j<t.size
  ·rw [decide_eq_false (show¬t.size≤j by omega)];have hend:bt t j=124∨bt t j=38∨bt t j=45∨bt t j=41:=hend.resolve_left (by omega);refine Ah.of (Af (CZ (sg1.blk 0 rfl) h0) fun G2 hg2=>?_);have sg2:=sg1.call hg2;(conv=>whnf);try (refine AO.run ?_)
   (conv=>whnf);by_cases h38:bt t j=38
   ·have d:(((bt t j:Nat):Int)==38)=true:=by rw [h38];rfl
    (conv=>whnf);rw [d];refine VC.fa AJ ?_;refine ld1 (v:=.int .i64 ((j:Nat):Int)) ct3 (by rw [(sg2.blk 0 rfl).cell];rfl) trivial ?_;(conv=>whnf);rw [w64 (x:=((j:Nat):Int)+1) (by omega) (by omega)];refine VC.fa AJ (AG sg2 0 ct3 rfl (by simp) rfl fun G3 sg3=>?_);replace sg3:StB B2 G G3 (sP s t (j+1) a2 n2 cap2 os ps++[pB 77 q2 Aj,pB 77 q3 (Ab r (.func (.func gg) #[] cc))]):=sg3;have ag3:Agr B H G3:=ag.trans fun k hk=>sg3.old k (s2 k hk);have gv3:=gv.frame sg3.old fun k hk=>hk;have hstep:BC t ⟨i,f,fs⟩=BC t ⟨j+1,{BV f' with sign:=38},fs⟩:=hpr.trans (D8 (s:=⟨j,f',fs⟩) h0 (by have:=FT (t:=t) (i:=j) (f:=f') (fs:=fs) (.inl h38);rw [h38]at this;exact this));refine Ca.held (fun k=>k=q3) [4] (sq [0,1] (.f 2 (.f 3 (.f 4 .e)))) (CL _ _) rfl (by kernel_rfl) (ldN (cs:=Ab r (.func (.func gg) #[] cc)) Bj (Au (sg3.blk _ (lgR _ _ 1))) rfl (Ah.mk (Q8 (f:={BV f' with sign:=38}) (fs:=fs) (Ef hE hEB ag3) (s2 _ hEB) ht (by omega) hos hfs rfl (Df f').2.2.2 (fun i' hi'=>IH i' (by omega)) (B:=B2) (ps:=ps++[pB 77 q2 Aj,pB 77 q3 (Ab r (.func (.func gg) #[] cc))]) ⟨a2,n2,cap2,sg3.rebase⟩) ?_ ?_))
    rotate_left
    ·intro x H7 h;exact h.from hstep ag3 s2
    rintro _ G4 ⟨j1,f1,r2,hij1,hj1,he1,hp1,hrw,e1,e2,e3,e5,⟨B3,f3,rfl,s3,a3,⟨a4,n4,cap4,sg4⟩,gs⟩⟩;replace sg4:StB B3 G4 G4 (sP s t j1 a4 n4 cap4 os ps++[pB 77 q2 Aj,pB 77 q3 (Ab r (.func (.func gg) #[] cc))]):=sg4;refine⟨fun k hk=>by rw [show k=q3 from hk];exact(sg4.blk _ (lgR _ _ 1)).trans (sg3.blk _ (lgR _ _ 1)).symm,?_⟩;have ag4:Agr B H G4:=ag3.trans fun k hk=>a3 k (s2 k hk);refine Ah.of (Ai.mk (E2 .and_ sg4 (gv3.frame a3 s3) gs) ?_);rintro _ G5 ⟨B5,f5,rfl,s5,a5,sg5,gj⟩;refine⟨fun k hk=>by rw [show k=q3 from hk];exact(sg5.blk _ (lgR _ _ 1)).trans (sg3.blk _ (lgR _ _ 1)).symm,?_⟩;obtain⟨g5,c5,rfl⟩:=gj.fn;refine Be (cs:=Ab (opR .and_ r r2) (.func (.func g5) #[] c5)) sg5 _ rfl (lgR _ _ 1) (by simp [Ab]) rfl fun G6 sg6 ja6 js6=>?_;rw [lsR]at sg6;have e6:Ac (Ab r (.func (.func gg) #[] cc)) 0 (Ab (opR .and_ r r2) (.func (.func g5) #[] c5))=Ab (opR .and_ r r2) (.func (.func g5) #[] c5):=BZ rfl;replace sg6:StB B5 G5 G6 (sP s t j1 a4 n4 cap4 os ps++[pB 77 q2 Aj,pB 77 q3 (Ac (Ab r (.func (.func gg) #[] cc)) 0 (Ab (opR .and_ r r2) (.func (.func g5) #[] c5)))]):=sg6;rw [e6]at sg6;have s6:∀k,B k→B5 k:=fun k hk=>s5 k (s3 k (s2 k hk));have ag6:Agr B H G6:=(ag4.trans (a5.mono fun k hk=>sg4.up (s3 k (s2 k hk)))).trans fun k hk=>sg6.old k (s6 k hk);(conv=>whnf);refine⟨rfl,j1,rfl,⟨f1,opR .and_ r r2,B5,.func (.func g5) #[] c5,a4,n4,cap4,by omega,hj1,he1,hstep.trans hp1,by rw [I3,e2,e3,show({BV f' with sign:=38}:AF).meet=(BV f').meet from rfl,hm];show some (if 38=38 then _ else _)=_;rw [if_pos rfl,hrw];rfl,e1.trans ((Df f').1.trans ha),e5.trans ((Df f').2.1.trans e4),s6,ag6,sg6.rebase,gj.frame sg6.old fun k hk=>hk⟩,by omega⟩
   ·have d:(((bt t j:Nat):Int)==38)=false:=DY h38;(conv=>whnf);rw [d];clear d;by_cases h45:bt t j=45
    ·have d:(((bt t j:Nat):Int)==45)=true:=by rw [h45];rfl
     (conv=>whnf);rw [d];refine VC.fa AJ ?_;refine ld1 (v:=.int .i64 ((j:Nat):Int)) ct3 (by rw [(sg2.blk 0 rfl).cell];rfl) trivial ?_;(conv=>whnf);rw [w64 (x:=((j:Nat):Int)+1) (by omega) (by omega)];refine VC.fa AJ (AG sg2 0 ct3 rfl (by simp) rfl fun G3 sg3=>?_);replace sg3:StB B2 G G3 (sP s t (j+1) a2 n2 cap2 os ps++[pB 77 q2 Aj,pB 77 q3 (Ab r (.func (.func gg) #[] cc))]):=sg3;have ag3:Agr B H G3:=ag.trans fun k hk=>sg3.old k (s2 k hk);have gv3:=gv.frame sg3.old fun k hk=>hk;have hstep:BC t ⟨i,f,fs⟩=BC t ⟨j+1,{BV f' with sign:=45},fs⟩:=hpr.trans (D8 (s:=⟨j,f',fs⟩) h0 (by have:=FT (t:=t) (i:=j) (f:=f') (fs:=fs) (.inr h45);rw [h45]at this;exact this));refine Ca.held (fun k=>k=q3) [4] (sq [0,1] (.f 2 (.f 3 (.f 4 .e)))) (CL _ _) rfl (by kernel_rfl) (ldN (cs:=Ab r (.func (.func gg) #[] cc)) Bj (Au (sg3.blk _ (lgR _ _ 1))) rfl (Ah.mk (Q8 (f:={BV f' with sign:=45}) (fs:=fs) (Ef hE hEB ag3) (s2 _ hEB) ht (by omega) hos hfs rfl (Df f').2.2.2 (fun i' hi'=>IH i' (by omega)) (B:=B2) (ps:=ps++[pB 77 q2 Aj,pB 77 q3 (Ab r (.func (.func gg) #[] cc))]) ⟨a2,n2,cap2,sg3.rebase⟩) ?_ ?_))
     rotate_left
     ·intro x H7 h;exact h.from hstep ag3 s2
     rintro _ G4 ⟨j1,f1,r2,hij1,hj1,he1,hp1,hrw,e1,e2,e3,e5,⟨B3,f3,rfl,s3,a3,⟨a4,n4,cap4,sg4⟩,gs⟩⟩;replace sg4:StB B3 G4 G4 (sP s t j1 a4 n4 cap4 os ps++[pB 77 q2 Aj,pB 77 q3 (Ab r (.func (.func gg) #[] cc))]):=sg4;refine⟨fun k hk=>by rw [show k=q3 from hk];exact(sg4.blk _ (lgR _ _ 1)).trans (sg3.blk _ (lgR _ _ 1)).symm,?_⟩;have ag4:Agr B H G4:=ag3.trans fun k hk=>a3 k (s2 k hk);refine Ah.of (Ai.mk (E2 .minus sg4 (gv3.frame a3 s3) gs) ?_);rintro _ G5 ⟨B5,f5,rfl,s5,a5,sg5,gj⟩;refine⟨fun k hk=>by rw [show k=q3 from hk];exact(sg5.blk _ (lgR _ _ 1)).trans (sg3.blk _ (lgR _ _ 1)).symm,?_⟩;obtain⟨g5,c5,rfl⟩:=gj.fn;refine Be (cs:=Ab (opR .minus r r2) (.func (.func g5) #[] c5)) sg5 _ rfl (lgR _ _ 1) (by simp [Ab]) rfl fun G6 sg6 ja6 js6=>?_;rw [lsR]at sg6;have e6:Ac (Ab r (.func (.func gg) #[] cc)) 0 (Ab (opR .minus r r2) (.func (.func g5) #[] c5))=Ab (opR .minus r r2) (.func (.func g5) #[] c5):=BZ rfl;replace sg6:StB B5 G5 G6 (sP s t j1 a4 n4 cap4 os ps++[pB 77 q2 Aj,pB 77 q3 (Ac (Ab r (.func (.func gg) #[] cc)) 0 (Ab (opR .minus r r2) (.func (.func g5) #[] c5)))]):=sg6;rw [e6]at sg6;have s6:∀k,B k→B5 k:=fun k hk=>s5 k (s3 k (s2 k hk));have ag6:Agr B H G6:=(ag4.trans (a5.mono fun k hk=>sg4.up (s3 k (s2 k hk)))).trans fun k hk=>sg6.old k (s6 k hk);(conv=>whnf);refine⟨rfl,j1,rfl,⟨f1,opR .minus r r2,B5,.func (.func g5) #[] c5,a4,n4,cap4,by omega,hj1,he1,hstep.trans hp1,by rw [I3,e2,e3,show({BV f' with sign:=45}:AF).meet=(BV f').meet from rfl,hm];show some (if 45=38 then _ else _)=_;rw [if_neg (by decide),hrw];rfl,e1.trans ((Df f').1.trans ha),e5.trans ((Df f').2.1.trans e4),s6,ag6,sg6.rebase,gj.frame sg6.old fun k hk=>hk⟩,by omega⟩
    ·have d:(((bt t j:Nat):Int)==45)=false:=DY h45;(conv=>whnf);rw [d];refine ldN (cs:=Ab r (.func (.func gg) #[] cc)) Bj (Au (sg2.blk _ (lgR _ _ 1))) trivial (Be (cs:=Ab r (.func (.func gg) #[] cc)) sg2 _ rfl (lgR _ _ 0) (by simp [Ab,Aj]) rfl fun G9 sg9 ja js=>?_);rw [lsR,BZ rfl]at sg9;refine ldN (cs:=Ab r (.func (.func gg) #[] cc)) Bj (Au (sg9.blk _ (lgR _ _ 0))) trivial ?_;exact⟨j,f',r,hij,hj,by omega,hpr,hm,ha,e4,B2,_,rfl,s2,ag.trans fun k hk=>sg9.old k (s2 k hk),⟨a2,n2,cap2,sg9.lft.rebase⟩,gv.frame sg9.old fun k hk=>hk⟩
  ·rw [decide_eq_true (show t.size≤j by omega)];refine ldN (cs:=Ab r (.func (.func gg) #[] cc)) Bj (Au (sg1.blk _ (lgR _ _ 1))) trivial (Be (cs:=Ab r (.func (.func gg) #[] cc)) sg1 _ rfl (lgR _ _ 0) (by simp [Ab,Aj]) rfl fun G9 sg9 ja js=>?_);rw [lsR,BZ rfl]at sg9;refine ldN (cs:=Ab r (.func (.func gg) #[] cc)) Bj (Au (sg9.blk _ (lgR _ _ 0))) trivial ?_;exact⟨j,f',r,hij,hj,by omega,hpr,hm,ha,e4,B2,_,rfl,s2,ag.trans fun k hk=>sg9.old k (s2 k hk),⟨a2,n2,cap2,sg9.lft.rebase⟩,gv.frame sg9.old fun k hk=>hk⟩
structure Uv(B:Nat→Prop)(H:Aa)(s q2 q3 i:Nat)(t:ByteArray)(os:List Int)(ps:List Pc)(f:AF)(fs:List AF)(j:Nat)(G:Aa):Prop where
 ex:∃(f':AF) (r:ReM) (B':Nat→Prop) (fn:Value) (a:Option Addr) (n cap:Nat),i≤j∧j≤t.size∧(j=t.size∨bt t j=124∨bt t j=41)∧BC t ⟨i,f,fs⟩=BC t ⟨j,f',fs⟩∧(Cl f').alt=some r∧f'.place=f.place∧
  (∀k,B k→B' k)∧Agr B H G∧StB B' G G (sP s t j a n cap os ps++[pB 77 q2 Aj,pB 77 q3 (Ab r fn)])∧Ck B' G fn r
theorem P9{B:Nat→Prop}{H:Aa}{s i:Nat}{t:ByteArray}{os:List Int}{ps:List Pc}{f:AF}{fs:List AF}(hE:DP H)(hEB:B 0)(ht:t.size≤1048576)(hi:i≤t.size)(hos:os.length=fs.length)(hfs:fs.length≤1000)
  (halt:f.alt=none) (hmeet:f.meet=none) (hrow:f.row=none) (hfac:f.factor=none) (IH:∀i',i<i'→HQ t i') (sc:Sc B H s t i os ps):
  BA Tryz.prog 25 #[.pointer (some ⟨s,0,none⟩)] H
   (fun v H'=>∃j f' r,i≤j∧j≤t.size∧(j=t.size∨bt t j=41)∧BC t ⟨i,f,fs⟩=BC t ⟨j,f',fs⟩∧(Cl f').alt=some r∧f'.place=f.place∧SR B H s t j os ps r v H')
   (fun x H'=>SE B H t ⟨i,f,fs⟩ x H'):=by
 obtain⟨a,n,cap,st⟩:=sc;refine BA.of_vc Tryz.func25 rfl (Tryz.call25 _) (Ag (.agg Aj.toArray) Aj CG rfl ?_);intro q2 H1 hq1 hs1 hb1 ha1;have st1:=st.box hq1 hs1 hb1 ha1;refine Ah.mk (M0 (f:=f) (fs:=fs) (Ef hE hEB st1.old) hEB ht hi hos hfs hmeet hrow hfac IH (B:=B) (ps:=ps++[pB 77 q2 Aj]) ⟨a,n,cap,st1.rebase⟩) ?_ ?_
 rotate_left
 ·intro x H7 h;exact h.from rfl st1.old fun k hk=>hk
 rintro _ H2 ⟨j1,f1,r1,hij1,hj1,he1,hp1,hrw,e1,e5,⟨B1,f3,rfl,s1,a1,⟨a2,n2,cap2,st2⟩,gs⟩⟩;obtain⟨g1,c1,rfl⟩:=gs.fn;replace st2:StB B1 H2 H2 (sP s t j1 a2 n2 cap2 os ps++[pB 77 q2 Aj]):=st2;refine Ag (.agg Aj.toArray) Aj CG rfl ?_;intro q3 H3 hq3 hs3 hb3 ha3;have st3:=st2.box hq3 hs3 hb3 ha3;rw [UU]at st3;replace st3:StB B1 H2 H3 (sP s t j1 a2 n2 cap2 os ps++[pB 77 q2 Aj,pB 77 q3 Aj]):=st3;refine Be (cs:=Ab r1 (.func (.func g1) #[] c1)) st3 _ rfl (lgR _ _ 1) (by simp [Ab,Aj]) rfl fun H4 st4 ja4 js4=>?_;rw [lsR,BZ rfl]at st4;replace st4:StB B1 H2 H4 (sP s t j1 a2 n2 cap2 os ps++[pB 77 q2 Aj,pB 77 q3 (Ab r1 (.func (.func g1) #[] c1))]):=st4;have a14:Agr B H H4:=(st1.old.trans a1).trans fun k hk=>st4.old k (s1 k hk);(conv=>whnf);refine DU.mk [] (fun _:Nat=>[]) (fun j G=>Uv B H s q2 q3 i t os ps f fs j G) (fun j _=>t.size - j) ?_ ?_
 ·(conv=>whnf);exact⟨j1,rfl,⟨f1,r1,B1,.func (.func g1) #[] c1,a2,n2,cap2,hij1,hj1,he1,hp1,by rw [Kv,e1,halt,hrw];rfl,e5,s1,a14,st4.rebase,gs.frame st4.old fun k hk=>hk⟩⟩
 ·rintro j G junk ⟨f',r,B2,f2,a2,n2,cap2,hij,hj,hend,hpr,hm,e4,s2,ag,stg,gv⟩;obtain⟨gg,cc,rfl⟩:=gv.fn;clear st st1 st2 st3 st4 gs hb1 hb3 ha1 ha3 a1 a14 s1;refine Ah.of (Af (Ee (stg.blk 0 rfl)) fun G1 hg1=>?_);have sg1:=stg.call hg1;by_cases h0:j<t.size
  ·rw [decide_eq_false (show¬t.size≤j by omega)];have hend:bt t j=124∨bt t j=41:=hend.resolve_left (by omega);refine Ah.of (Af (CZ (sg1.blk 0 rfl) h0) fun G2 hg2=>?_);have sg2:=sg1.call hg2;(conv=>whnf);try (refine AO.run ?_)
   (conv=>whnf);by_cases h124:bt t j=124
   ·have d:(((bt t j:Nat):Int)==124)=true:=by rw [h124];rfl
    (conv=>whnf);rw [d];refine VC.fa AJ ?_;refine ld1 (v:=.int .i64 ((j:Nat):Int)) ct3 (by rw [(sg2.blk 0 rfl).cell];rfl) trivial ?_;(conv=>whnf);rw [w64 (x:=((j:Nat):Int)+1) (by omega) (by omega)];refine VC.fa AJ (AG sg2 0 ct3 rfl (by simp) rfl fun G3 sg3=>?_);replace sg3:StB B2 G G3 (sP s t (j+1) a2 n2 cap2 os ps++[pB 77 q2 Aj,pB 77 q3 (Ab r (.func (.func gg) #[] cc))]):=sg3;have ag3:Agr B H G3:=ag.trans fun k hk=>sg3.old k (s2 k hk);have gv3:=gv.frame sg3.old fun k hk=>hk;have hstep:BC t ⟨i,f,fs⟩=BC t ⟨j+1,Cl f',fs⟩:=hpr.trans (D8 (s:=⟨j,f',fs⟩) h0 (K8 h124));refine Ca.held (fun k=>k=q3) [4] (sq [0,1] (.f 2 (.f 3 (.f 4 .e)))) (CL _ _) rfl (by kernel_rfl) (ldN (cs:=Ab r (.func (.func gg) #[] cc)) Bj (Au (sg3.blk _ (lgR _ _ 1))) rfl (Ah.mk (M0 (f:=Cl f') (fs:=fs) (Ef hE hEB ag3) (s2 _ hEB) ht (by omega) hos hfs (EQ f').1 (EQ f').2.2.1 (EQ f').2.2.2 (fun i' hi'=>IH i' (by omega)) (B:=B2) (ps:=ps++[pB 77 q2 Aj,pB 77 q3 (Ab r (.func (.func gg) #[] cc))]) ⟨a2,n2,cap2,sg3.rebase⟩) ?_ ?_))
    rotate_left
    ·intro x H7 h;exact h.from hstep ag3 s2
    rintro _ G4 ⟨j1,f1,r2,hij1,hj1,he1,hp1,hrw,e1,e5,⟨B3,f3,rfl,s3,a3,⟨a4,n4,cap4,sg4⟩,gs⟩⟩;replace sg4:StB B3 G4 G4 (sP s t j1 a4 n4 cap4 os ps++[pB 77 q2 Aj,pB 77 q3 (Ab r (.func (.func gg) #[] cc))]):=sg4;refine⟨fun k hk=>by rw [show k=q3 from hk];exact(sg4.blk _ (lgR _ _ 1)).trans (sg3.blk _ (lgR _ _ 1)).symm,?_⟩;have ag4:Agr B H G4:=ag3.trans fun k hk=>a3 k (s2 k hk);refine Ah.of (Ai.mk (E2 .alt sg4 (gv3.frame a3 s3) gs) ?_);rintro _ G5 ⟨B5,f5,rfl,s5,a5,sg5,gj⟩;refine⟨fun k hk=>by rw [show k=q3 from hk];exact(sg5.blk _ (lgR _ _ 1)).trans (sg3.blk _ (lgR _ _ 1)).symm,?_⟩;obtain⟨g5,c5,rfl⟩:=gj.fn;refine Be (cs:=Ab (opR .alt r r2) (.func (.func g5) #[] c5)) sg5 _ rfl (lgR _ _ 1) (by simp [Ab]) rfl fun G6 sg6 ja6 js6=>?_;rw [lsR]at sg6;have e6:Ac (Ab r (.func (.func gg) #[] cc)) 0 (Ab (opR .alt r r2) (.func (.func g5) #[] c5))=Ab (opR .alt r r2) (.func (.func g5) #[] c5):=BZ rfl;replace sg6:StB B5 G5 G6 (sP s t j1 a4 n4 cap4 os ps++[pB 77 q2 Aj,pB 77 q3 (Ac (Ab r (.func (.func gg) #[] cc)) 0 (Ab (opR .alt r r2) (.func (.func g5) #[] c5)))]):=sg6;rw [e6]at sg6;have s6:∀k,B k→B5 k:=fun k hk=>s5 k (s3 k (s2 k hk));have ag6:Agr B H G6:=(ag4.trans (a5.mono fun k hk=>sg4.up (s3 k (s2 k hk)))).trans fun k hk=>sg6.old k (s6 k hk);(conv=>whnf);refine⟨rfl,j1,rfl,⟨f1,opR .alt r r2,B5,.func (.func g5) #[] c5,a4,n4,cap4,by omega,hj1,he1,hstep.trans hp1,by rw [Kv,e1,hm,hrw];rfl,e5.trans ((EQ f').2.1.trans e4),s6,ag6,sg6.rebase,gj.frame sg6.old fun k hk=>hk⟩,by omega⟩
   ·have d:(((bt t j:Nat):Int)==124)=false:=DY h124;(conv=>whnf);rw [d];refine ldN (cs:=Ab r (.func (.func gg) #[] cc)) Bj (Au (sg2.blk _ (lgR _ _ 1))) trivial (Be (cs:=Ab r (.func (.func gg) #[] cc)) sg2 _ rfl (lgR _ _ 0) (by simp [Ab,Aj]) rfl fun G9 sg9 ja js=>?_);rw [lsR,BZ rfl]at sg9;refine ldN (cs:=Ab r (.func (.func gg) #[] cc)) Bj (Au (sg9.blk _ (lgR _ _ 0))) trivial ?_;exact⟨j,f',r,hij,hj,by omega,hpr,hm,e4,B2,_,rfl,s2,ag.trans fun k hk=>sg9.old k (s2 k hk),⟨a2,n2,cap2,sg9.lft.rebase⟩,gv.frame sg9.old fun k hk=>hk⟩
  ·rw [decide_eq_true (show t.size≤j by omega)];refine ldN (cs:=Ab r (.func (.func gg) #[] cc)) Bj (Au (sg1.blk _ (lgR _ _ 1))) trivial (Be (cs:=Ab r (.func (.func gg) #[] cc)) sg1 _ rfl (lgR _ _ 0) (by simp [Ab,Aj]) rfl fun G9 sg9 ja js=>?_);rw [lsR,BZ rfl]at sg9;refine ldN (cs:=Ab r (.func (.func gg) #[] cc)) Bj (Au (sg9.blk _ (lgR _ _ 0))) trivial ?_;exact⟨j,f',r,hij,hj,by omega,hpr,hm,e4,B2,_,rfl,s2,ag.trans fun k hk=>sg9.old k (s2 k hk),⟨a2,n2,cap2,sg9.lft.rebase⟩,gv.frame sg9.old fun k hk=>hk⟩
theorem NO{t:ByteArray}(ht:t.size≤1048576):∀(n i:Nat),t.size - i≤n→i≤t.size→HQ t i
 | 0,i,hn,hi=>fun B H s os ps f fs hE hEB hi hos hfs h1 h2 h3 h4 sc=>P9 hE hEB ht hi hos hfs h1 h2 h3 h4 (fun i' hi'=>fun B H s os ps f fs _ _ hi2=>absurd hi2 (by omega)) sc
 | n+1,i,hn,hi=>fun B H s os ps f fs hE hEB hi hos hfs h1 h2 h3 h4 sc=>P9 hE hEB ht hi hos hfs h1 h2 h3 h4 (fun i' hi'=>by
    by_cases hle:i'≤t.size
    ·exact NO ht n i' (by omega) hle
    ·exact fun B H s os ps f fs _ _ hi2=>absurd hi2 (by omega)) sc
def K5(q2 q3:Nat)(v:Value)(c e:Nat):List Pc:=[pB 24 q2 [v],pB 27 q3 (An c e)]
theorem Oy{H:Aa}{q2 q3:Nat}{K:Aa→Prop}(k:K H):Ej Tryz.prog 24 #[.pointer (some ⟨q2,0,none⟩),.pointer (some ⟨q3,0,none⟩)] .returning .returning H K:=by
 refine Ej.mk (R:=fun H'=>H'=H) (FG (R:=fun H'=>H'=H) Tryz.func24 rfl ⟨⟨_,rfl⟩,rfl,rfl,rfl,rfl,rfl⟩ .ret rfl ?_) (fun H' h=>by rw [h];exact k);(conv=>whnf);refine⟨rfl,?_⟩;refine Qe Tryz.underlying20 ?_;(conv=>whnf)
theorem Ox{B:Nat→Prop}{H0 H:Aa}{q2 q3 c e c0 e0:Nat}{v:Value}{ps:List Pc}{K:Aa→Prop}(st:StB B H0 H (K5 q2 q3 v c0 e0++ps))(k:∀H',StB B H0 H' (K5 q2 q3 .nilIface c e++ps)→K H'):
  Ej Tryz.prog 24 #[.pointer (some ⟨q2,0,none⟩),.pointer (some ⟨q3,0,none⟩)] (.panicking (pe (D3 c e))) (.panicking [{v:=D3 c e,recovered:=true}]) H K:=by
 refine Ej.mk (R:=fun H'=>StB B H0 H' (K5 q2 q3 .nilIface c e++ps)) (FG (R:=fun H'=>StB B H0 H' (K5 q2 q3 .nilIface c e++ps)) Tryz.func24 rfl ⟨⟨_,rfl⟩,rfl,rfl,rfl,rfl,rfl⟩ (.pan _) rfl ?_) k;(conv=>whnf);refine⟨rfl,?_⟩;refine On Tryz.underlying20 (As.held (fun _=>False) 4 (sq [0,1] (.f 2 (.f 3 .e))) rfl (by kernel_rfl) (MP Tryz.underlying27 (fun ms h=>by cases h) (AG st 0 C8 rfl (by simp) rfl fun H1 st1=>(⟨fun k hk=>hk.elim,?_⟩))));refine Ay (cs:=An c e) st1 1 rfl rfl (UQ _) rfl fun H3 st3=>(⟨fun k hk=>hk.elim,?_⟩);(conv=>whnf);have e2:Ac (An c0 e0) 0 (An c e)=An c e:=A8 rfl;rw [e2]at st3;exact st3
def Jy(t:ByteArray)(v:Value):Prop:=match DK t with
 | .inl (c,p)=>v= .tuple #[.nilIface,.agg #[.int .i64 (c:Int),.int .i64 p,.string ⟨#[]⟩]]
 | .inr r=>v= .tuple #[Ad r,.agg #[.int .i64 0,.int .i64 0,.string ⟨#[]⟩]]
theorem Ru:(Tryz.prog.info? 27).bind (·.zero)=some (DX 0 0):=by kernel_rfl
theorem Gy{H:Aa}{b c e:Nat}(h:Blk H b 27 (An c e)):Bo H b 0 (An c e):=h.cells (fun j v hv=>by rw [UM];exact hv)
theorem R9{H:Aa}{t:ByteArray}(hE:DP H):Ao Tryz.prog 7 #[.string t] H fun v H'=>Agr (Old H) H H'∧Jy t v:=by
 refine Ao.of_defer Tryz.func7 rfl (Tryz.call7 _) ⟨rfl,rfl,rfl,⟨_,rfl⟩,rfl,rfl⟩ (fun vs w=>Tryz.call24 _ w) (Ag .nilIface [.nilIface] rfl rfl ?_);intro q2 H1 hq1 hs1 hb1 ha1;have st1:=(St.nil H).box hq1 hs1 hb1 ha1;refine Ag (DX 0 0) (An 0 0) Ru rfl ?_;intro q3 H2 hq2 hs2 hb2 ha2;have st2:=st1.box hq2 hs2 hb2 ha2;replace st2:StB (Old H) H H2 (K5 q2 q3 .nilIface 0 0):=st2;by_cases hbig:1048576<t.size
 ·have d1:decide (1048576<(t.size:Int))=true:=decide_eq_true (by omega);(conv=>whnf);rw [d1];refine Av Tryz.underlying27 rfl _ rfl (An 1 0) rfl (AG st2 0 C8 rfl (by simp) rfl fun H3 st3=>(Ay (cs:=An 1 0) st3 1 rfl rfl (UQ _) rfl fun H4 st4=>?_));have e2:Ac (An 0 0) 0 (An 1 0)=An 1 0:=A8 rfl;rw [e2]at st4;refine ld1 (v:=.nilIface) C8 (by rw [(st4.blk 0 rfl).cell];rfl) trivial ?_;refine ldN (cs:=An 1 0) J7 (Gy (st4.blk 1 rfl)) trivial (⟨st4.old,?_⟩);unfold Jy DK;rw [if_pos hbig];rfl
 ·have d1:decide (1048576<(t.size:Int))=false:=decide_eq_false (by omega);have hpM:DK t=BC t ⟨0,DJ (-1),[]⟩:=by unfold DK;rw [if_neg hbig]
  have ans:∀{c p:Nat},BC t ⟨0,DJ (-1),[]⟩= .inl (c,(p:Int))→Jy t (.tuple #[.nilIface,DX c p]):=fun h=>by
   unfold Jy;rw [hpM,h];rfl
  (conv=>whnf);rw [d1];(conv=>whnf);refine⟨rfl,?_⟩;refine Av Tryz.underlying74 rfl _ rfl (scL t 0 (.slice none 0 0)) rfl (BM (scL t 0 (.slice none 0 0)) rfl ?_);intro s H3 hq3 hs3 hb3 ha3;have sx3:=((St.nil H2).box hq3 hs3 hb3 ha3).nils tPl 3;have a23:Agr (Old H2) H2 H3:=sx3.old;have hE2:DP H2:=Ef hE (B:=Old H) hE.2 st2.old;have hE3:DP H3:=Ef hE2 (B:=Old H2) hE2.2 a23;have hclos:∀{H4:Aa} {x:Value} (fr:Fr) (K:Aa→Prop),SE (Old H2) H3 t ⟨0,DJ (-1),[]⟩ x H4→(∀(c p:Nat) (H5:Aa),Jy t (.tuple #[.nilIface,DX c p])→StB (Old H) H H5 (K5 q2 q3 .nilIface c p)→K H5)→
    Ej Tryz.prog 24 #[.pointer (some ⟨q2,0,none⟩),.pointer (some ⟨q3,0,none⟩)] (.panicking (pe x)) (.panicking [{v:=x,recovered:=true}]) H4 K:=fun fr K ⟨c,p,h1,h2,h3⟩ k=>by
   subst h2;exact Ox (ps:=[]) (st2.call (a23.trans h3)) fun H5 st5=>k c p H5 (ans h1) st5
  refine Ah.mk (NO (by omega) t.size 0 (by omega) (by omega) (Old H2) H3 s [] [] (DJ (-1)) [] hE3 hE2.2 (by omega) rfl (by decide) rfl rfl rfl rfl ⟨none,0,0,sx3.rebase⟩) ?_ ?_
  ·rintro _ H4 ⟨j,f',r,hij,hj,hend,hpr,hcl,hpl,⟨B1,f1,rfl,s1,a4,⟨a2,n2,cap2,st4⟩,gv⟩⟩;obtain⟨g1,c1,rfl⟩:=gv.fn;have a24:Agr (Old H2) H2 H4:=a23.trans a4;refine Ag (.agg Aj.toArray) Aj CG rfl ?_;intro q5 H5 hq5 hs5 hb5 ha5;have st5:=st4.box hq5 hs5 hb5 ha5;refine Be (cs:=Ab r (.func (.func g1) #[] c1)) st5 2 rfl rfl (by simp [Ab,Aj]) rfl fun H6 st6 ja6 js6=>?_;replace st6:StB B1 H4 H6 [pSc s t j (.slice a2 n2 cap2),pS tPl 3 a2 n2 cap2 [],pB 77 q5 (Ac Aj 0 (Ab r (.func (.func g1) #[] c1)))]:=st6;rw [BZ rfl]at st6;have a26:Agr (Old H2) H2 H6:=a24.trans fun k hk=>st6.old k (s1 k hk);refine AO.run (Ah.of (Af (Ee (st6.blk 0 rfl)) fun H7 ha7=>?_));have st7:=st6.call ha7;have a27:Agr (Old H2) H2 H7:=a26.trans (ha7.mono fun k hk=>A0 a26 hk);by_cases h0:j<t.size
   ·have h41:bt t j=41:=by rcases hend with h | h;omega;exact h
    rw [decide_eq_false (show¬t.size≤j by omega)];refine VC.fa AJ ?_;refine ld1 (v:=.int .i64 ((j:Nat):Int)) ct3 (by rw [(st7.blk 0 rfl).cell];rfl) trivial ?_;refine Ah.mk (C2 (c:=20) (e:=j)) (fun _ _ h=>h.elim) ?_;rintro _ _ ⟨rfl,rfl⟩;(conv=>whnf);refine Ox (ps:=[]) (st2.call a27) fun H8 st8=>?_;refine ld1 (v:=.nilIface) C8 (by rw [(st8.blk 0 rfl).cell];rfl) trivial ?_;refine ldN (cs:=An 20 j) J7 (Gy (st8.blk 1 rfl)) trivial ?_;exact⟨st8.old,ans (hpr.trans (DL (s:=⟨j,f',[]⟩) h0 (Im h41)))⟩
   ·rw [decide_eq_true (show t.size≤j by omega)];have hfin:BC t ⟨0,DJ (-1),[]⟩=(if 2000<r.nodes then .inl (24,0)else .inr r):=by
     rw [hpr,JN (s:=⟨j,f',[]⟩) h0];show(if 2000<((Cl f').alt.getD .eps).nodes then Sum.inl (24,0)else Sum.inr ((Cl f').alt.getD .eps))=_;rw [hcl];rfl
    have k5:Blk H7 q5 77 (Ab r (.func (.func g1) #[] c1)):=st7.blk 2 rfl;refine VC.fa Lp ?_;refine ld1 (v:=.int .i64 ((szR r:Nat):Int)) ct3 (by rw [k5.cell];rfl) trivial ?_;by_cases hn:2000<r.nodes
    ·have d2:decide (2000<((szR r:Nat):Int))=true:=decide_eq_true (by unfold szR;omega);rw [if_pos hn]at hfin;have st8:=st2.call a27;(conv=>whnf);rw [d2];refine Av Tryz.underlying27 rfl _ rfl (An 24 0) rfl (AG st8 0 C8 rfl (by simp) rfl fun H9 st9=>(Ay (cs:=An 24 0) st9 1 rfl rfl (UQ _) rfl fun H10 st10=>?_));have e2:Ac (An 0 0) 0 (An 24 0)=An 24 0:=A8 rfl;rw [e2]at st10;(conv=>whnf);refine Oy ?_;refine ld1 (v:=.nilIface) C8 (by rw [(st10.blk 0 rfl).cell];rfl) trivial ?_;refine ldN (cs:=An 24 0) J7 (Gy (st10.blk 1 rfl)) trivial ?_;exact⟨st10.old,ans (c:=24) (p:=0) hfin⟩
    ·have d2:decide (2000<((szR r:Nat):Int))=false:=decide_eq_false (by unfold szR;omega);rw [if_neg hn]at hfin;(conv=>whnf);rw [d2];refine VC.fa Lq ?_;refine ld1 (v:=.func (.func g1) #[] c1) Rm (by rw [k5.cell];rfl) trivial ?_;obtain⟨g2,c2,hgc,hgrow⟩:=SL (gv.frame st7.old fun k hk=>hk) (fun k hk=>st7.up hk);injection hgc with hg1 hg2 hg3
     injection hg1 with hg1
     subst hg1 hg3;(conv=>whnf);rw [Jd];refine Ah.of (Af (hgrow H7 (Agr.refl _ _)) fun H8 ha8=>?_);have st8:=(st2.call a27).call ha8;obtain⟨T1,v1,e1⟩:=F4 r;refine Av Tryz.underlying27 rfl _ rfl (An 0 0) rfl (AG st8 0 C8 rfl (by simp) (Cn r) fun H9 st9=>(Ay (cs:=An 0 0) st9 1 rfl rfl (UQ _) rfl fun H10 st10=>?_));have e2:Ac (An 0 0) 0 (An 0 0)=An 0 0:=A8 rfl;rw [e2]at st10;(conv=>whnf);refine Oy ?_;refine ld1 (v:=Ad r) C8 (by rw [(st10.blk 0 rfl).cell];rfl) trivial ?_;refine ldN (cs:=An 0 0) J7 (Gy (st10.blk 1 rfl)) trivial (⟨st10.old,?_⟩);unfold Jy;rw [hpM,hfin];rfl
  ·intro x H4 h;(conv=>whnf);refine hclos [] _ h fun c p H5 hans st5=>?_;refine ld1 (v:=.nilIface) C8 (by rw [(st5.blk 0 rfl).cell];rfl) trivial ?_;refine ldN (cs:=An c p) J7 (Gy (st5.blk 1 rfl)) trivial ?_;exact⟨st5.old,hans⟩
def IU(t:ByteArray)(f:AF):Prop:= -1≤f.place∧f.place≤(t.size:Int)
structure Rb(t:ByteArray)(s:RdS):Prop where
 f:IU t s.f
 fs:∀g∈s.fs,IU t g
def S4(t:ByteArray)(c:Nat)(p:Int):Prop:=c≠0∧c≤30∧ -1≤p∧p≤(t.size:Int)+10
def KQ(t:ByteArray):Sum (Nat×Int) ReM→Prop
 | .inl (c,p)=>S4 t c p
 | .inr r=>r.nodes≤2000
theorem Ts{t:ByteArray}{m i:Nat}{e:Nat×Nat}(h:upM t m i= .inl e):e.1=20∧e.2≤i+1:=by
 unfold upM at h;split at h
 ·split at h
  ·cases h
  ·split at h
   ·cases h
   ·cases h;exact⟨rfl,UQ _⟩
 ·cases h
theorem Rp{t:ByteArray}{p m i:Nat}{n:Int}{e:Nat×Nat}(h:E1 t p m n i= .inl e):(e.1=20∧e.2=i)∨(e.1=22∧e.2=p):=by
 unfold E1 at h;split at h
 ·split at h
  ·cases h;exact .inr ⟨rfl,rfl⟩
  ·cases h
 ·cases h;exact .inl ⟨rfl,rfl⟩
theorem Nc{t:ByteArray}{i:Nat}{e:Nat×Nat}(h:BD t i= .inl e):e.1≠0∧e.1≤30∧e.2≤i+10:=by
 unfold BD at h;split at h
 ·obtain⟨a1,a2,-⟩:=Fm (t:=t) 3 (i+1) 0;generalize Bz t 3 (i+1) 0=q at*;split at h
  ·rename_i e2 hu;cases h;have:=Ts hu;refine⟨?_,?_,?_⟩<;>omega
  ·rename_i n2 i2 hu;have hi2:i2≤i+9:=by
    unfold upM at hu;split at hu
    ·split at hu
     ·cases hu;omega
     ·split at hu
      ·obtain⟨b1,b2,-⟩:=Fm (t:=t) 3 (q.2+1) 0;cases hu;omega
      ·cases hu
    ·cases hu;omega
   rcases Rp h with⟨h1,h2⟩ | ⟨h1,h2⟩
   ·refine⟨?_,?_,?_⟩<;>omega
   ·refine⟨?_,?_,?_⟩<;>omega
 ·cases h;exact⟨show(20:Nat)≠0 by decide,show(20:Nat)≤30 by decide,show i+1≤i+10 by omega⟩
theorem Qz{t:ByteArray}{s:RdS}{e:Nat×Nat}(hi:s.i<t.size)(h:BO t s= .inl e):e.1≠0∧e.1≤30∧e.2≤t.size+10:=by
 have k:∀c:Nat,c≠0→c≤30→c≠0∧c≤30∧s.i≤t.size+10:=fun c h1 h2=>⟨h1,h2,by omega⟩;unfold BO at h;split at h
 ·split at h
  ·cases h;exact k 20 (by decide) (by decide)
  ·split at h
   ·rename_i e2 hp;cases h;unfold DT at hp;split at hp
    ·cases hp
    ·split at hp
     ·cases hp
     ·split at hp
      ·cases hp
      ·have:=Nc hp;exact⟨this.1,this.2.1,by omega⟩
   ·cases h
 ·split at h
  ·cases h
  ·split at h
   ·cases h
   ·split at h
    ·split at h
     ·cases h;exact k 20 (by decide) (by decide)
     ·cases h
    ·split at h
     ·split at h
      ·cases h;exact k 23 (by decide) (by decide)
      ·cases h
     ·split at h
      ·rename_i e2 hr;cases h;have:=JS hr hi;exact⟨show(10:Nat)≠0 by decide,show(10:Nat)≤30 by decide,by show e2≤_;omega⟩
      ·cases h
theorem K7{t:ByteArray}{f:AF}(h:IU t f):IU t (Aw f):=by unfold IU;rw [(Fp f).2.2.2];exact h
theorem RC{t:ByteArray}{f:AF}(h:IU t f):IU t (BV f):=by unfold IU;rw [(Df f).2.1];exact h
theorem Qy{t:ByteArray}{f:AF}(h:IU t f):IU t (Cl f):=by unfold IU;rw [(EQ f).2.1];exact h
theorem Q0{t:ByteArray}{s s':RdS}(hi:s.i<t.size)(hs:Rb t s)(h:BO t s= .inr s'):Rb t s':=by
 unfold BO at h;split at h
 ·split at h
  ·cases h
  ·split at h
   ·cases h
   ·cases h;exact⟨hs.f,hs.fs⟩
 ·split at h
  ·cases h;exact⟨Qy hs.f,hs.fs⟩
  ·split at h
   ·cases h;exact⟨RC hs.f,hs.fs⟩
   ·split at h
    ·split at h
     ·cases h
     ·rename_i g r hfs;cases h;have:=hs.fs;rw [hfs]at this;exact⟨this g UT,fun x hx=>this x (US _ hx)⟩
    ·split at h
     ·split at h
      ·cases h
      ·cases h;refine⟨⟨by show(-1:Int)≤(s.i:Int);omega,by show(s.i:Int)≤_;omega⟩,fun g hg=>?_⟩;rcases UZ.1 hg with rfl | hg
       ·exact K7 hs.f
       ·exact hs.fs g hg
     ·split at h
      ·cases h
      ·cases h;exact⟨K7 hs.f,hs.fs⟩
theorem Oz{t:ByteArray}{s:RdS}(hs:Rb t s):KQ t (Pf s):=by
 unfold Pf;split
 ·show KQ t (if _ then _ else _);split
  ·exact⟨by decide,by decide,by decide,by omega⟩
  ·rename_i h;show ReM.nodes _≤2000;omega
 ·have:=hs.f;unfold IU at this;exact⟨by decide,by decide,this.1,by omega⟩
theorem M3{t:ByteArray}:∀(n:Nat) (s:RdS),Rb t s→KQ t (F8 t n s)
 | 0,s,h=>Oz h
 | n+1,s,h=>by
   unfold F8;by_cases hi:s.i<t.size
   ·rw [if_pos hi];cases hp:BO t s with
    | inl e=>
      have:=Qz hi hp;exact⟨this.1,this.2.1,by show(-1:Int)≤(e.2:Int);omega,by show(e.2:Int)≤_;omega⟩
    | inr s'=>exact M3 n s' (Q0 hi h hp)
   ·rw [if_neg hi];exact Oz h
theorem K6(t:ByteArray):KQ t (DK t):=by
 unfold DK;split
 ·exact⟨by decide,by decide,by decide,by omega⟩
 ·exact M3 _ _ ⟨⟨by decide,by show(-1:Int)≤_;omega⟩,fun g hg=>by cases hg⟩
theorem Pe{t:ByteArray}{c:Nat}{p:Int}(h:DK t= .inl (c,p)):p≤1048600:=by
 have h1:=K6 t;rw [h]at h1;obtain⟨-,-,-,h4⟩:S4 t c p:=h1;unfold DK at h;split at h
 ·cases h;decide
 ·omega
def fiL(c:Nat)(p:Int):List Value:=[.int .i64 (c:Int),.int .i64 p,.string ⟨#[]⟩]
def Hy(c:Nat)(p:Int):List Lit:=[.int .i64 (c:Int),.int .i64 p,.string []]
theorem NY{c:Nat}{p:Int}(hc:c<9223372036854775808)(hp:inK .i64 p):Tryz.prog.keyLits 3 27 (fiL c p)=some (Hy c p):=by
 have c0:Tryz.prog.cellsOf 27=3:=by kernel_rfl
 have c1:Tryz.prog.cellsOf 25=1:=by kernel_rfl
 have c2:Tryz.prog.cellsOf 3=1:=by kernel_rfl
 have c3:Tryz.prog.cellsOf 9=1:=by kernel_rfl
 have h00:(⟨#[]⟩:ByteArray).size≤maxLen:=Ve _;simp [Program.keyLits,Tryz.underlying27,Tryz.underlying25,Tryz.underlying3,Tryz.underlying9,c0,c1,c2,c3,fiL,Hy,h00,Js (BB hc),Js hp]
theorem Ni{c c':Nat}{p p':Int}:decide (c=c'∧p=p')=true↔Hy c p=Hy c' p':=by
 unfold Hy;rw [decide_eq_true_eq];constructor
 ·rintro⟨rfl,rfl⟩;rfl
 ·intro h;simp only [List.cons.injEq,Lit.int.injEq,true_and,and_true]at h;exact⟨by omega,by omega⟩
theorem Sq{c c':Nat}{p p':Int}(hc:c<9223372036854775808)(hp:inK .i64 p)(hc':c'<9223372036854775808)(hp':inK .i64 p'){x y:Operand}{S:Nat→Prop}{H:Aa}{K:Value→Prop}(k:K (.bool (decide (c=c'∧p=p')))):
  AB Tryz.prog (do eqGuard .eql 27 x y (.agg (fiL c p).toArray) (.agg (fiL c' p').toArray);binOp .eql 27 (.agg (fiL c p).toArray) (.agg (fiL c' p').toArray)) S H K:=
 veq (m:=3) (la:=Hy c p) (lb:=Hy c' p') (by kernel_rfl) (by decide) (Tryz.eqGuardType27) rfl rfl (NY hc hp) (NY hc' hp') Ni k
inductive RwM
 | eps
 | cls (s:BitVec 256)
 | cat (a b:RwM)
 | alt (a b:RwM)
 | and_ (a b:RwM)
 | minus (a b:RwM)
 | rep (a:RwM) (m n:Int)
def AD(m:Int):Nat:=if m= -2 then 1 else m.toNat
def RwM.den:RwM→ReM
 | .eps=>.eps
 | .cls s=>.cls s
 | .cat a b=>.cat a.den b.den
 | .alt a b=>.alt a.den b.den
 | .and_ a b=>.and_ a.den b.den
 | .minus a b=>.minus a.den b.den
 | .rep a m n=>BG a.den (AD m) n
def Ax(op x y:Int):RnM:=⟨op,0#256,x,y,0,0⟩
def De(s:BitVec 256):RnM:=⟨1,s,0,0,0,0⟩
def B8(x m n:Int):RnM:=⟨7,0#256,x,0,m,n⟩
def NL(m n:Int):Prop:=(m= -2∧n= -1)∨(0≤m∧m≤255∧ -1≤n∧n≤255∧(0≤n→m≤n))
def Jx(ws:List RwM)(d:RnM):RwM→Prop
 | .eps=>d=Ax 0 0 0
 | .cls s=>d=De s
 | .cat a b=>∃j k:Nat,d=Ax 2 j k∧ws[j]? =some a∧ws[k]? =some b
 | .alt a b=>∃j k:Nat,d=Ax 3 j k∧ws[j]? =some a∧ws[k]? =some b
 | .and_ a b=>∃j k:Nat,d=Ax 5 j k∧ws[j]? =some a∧ws[k]? =some b
 | .minus a b=>∃j k:Nat,d=Ax 6 j k∧ws[j]? =some a∧ws[k]? =some b
 | .rep a m n=>∃j:Nat,d=B8 j m n∧ws[j]? =some a∧NL m n
inductive Raw:List RnM→List RwM→Prop
 | nil:Raw [] []
 | add {ds:List RnM} {ws:List RwM} {d:RnM} {w:RwM}:Raw ds ws→Jx ws d w→Raw (ds++[d]) (ws++[w])
theorem Raw.len{ds:List RnM}{ws:List RwM}(h:Raw ds ws):ds.length=ws.length:=by
 induction h with
 | nil=>rfl
 | add _ _ ih=>simp [ih]
theorem Jx.more{ws us:List RwM}{d:RnM}:∀{w:RwM},Jx ws d w→Jx (ws++us) d w
 | .eps,h=>h
 | .cls s,h=>h
 | .cat a b,⟨j,k,h1,h2,h3⟩=>⟨j,k,h1,F2 h2,F2 h3⟩
 | .alt a b,⟨j,k,h1,h2,h3⟩=>⟨j,k,h1,F2 h2,F2 h3⟩
 | .and_ a b,⟨j,k,h1,h2,h3⟩=>⟨j,k,h1,F2 h2,F2 h3⟩
 | .minus a b,⟨j,k,h1,h2,h3⟩=>⟨j,k,h1,F2 h2,F2 h3⟩
 | .rep a m n,⟨j,h1,h2,h3⟩=>⟨j,h1,F2 h2,h3⟩
theorem Qd{α:Type}{l:List α}{x y:α}{i:Nat}(h:(l++[x])[i]? =some y):l[i]? =some y∨(i=l.length∧y=x):=by
 by_cases hi:i<l.length
 ·rw [List.getElem?_append_left hi]at h;exact .inl h
 ·rw [List.getElem?_append_right (by omega)]at h;have:i - l.length=0:=by
   have:=(UR.1 h).1;simp at this;omega
  rw [this]at h;exact .inr ⟨by omega,by simpa using h.symm⟩
theorem Raw.at_{ds:List RnM}{ws:List RwM}(h:Raw ds ws):∀{i:Nat} {w:RwM},ws[i]? =some w→∃d us vs,ds[i]? =some d∧ws=us++vs∧us.length=i∧Jx us d w:=by
 induction h with
 | nil=>intro i w hw;cases hw
 | @add ds ws d w h1 h2 ih=>
   intro i w' hw;rcases Qd hw with hw | ⟨rfl,rfl⟩
   ·obtain⟨d',us,vs,h3,rfl,h4,h5⟩:=ih hw;exact⟨d',us,vs++[w],F2 h3,by simp,h4,h5⟩
   ·refine⟨d,ws,[w'],?_,rfl,rfl,h2⟩;rw [←h1.len];simp
theorem Raw.at2{ds:List RnM}{ws:List RwM}(h:Raw ds ws){i:Nat}{w:RwM}(hw:ws[i]? =some w):∃d,ds[i]? =some d∧Jx ws d w:=by
 obtain⟨d,us,vs,h1,rfl,-,h3⟩:=h.at_ hw;exact⟨d,h1,h3.more⟩
structure FrD where
 place:Int
 alt:Int
 meet:Int
 sign:Nat
 row:Int
 factor:Int
def frL(f:FrD):List Value:=[.int .i64 f.place,.int .i64 f.alt,.int .i64 f.meet,.int .u8 (f.sign:Int),.int .i64 f.row,.int .i64 f.factor]
def tFr:Ty FrD where
 size:=6
 rep _ _ cs d:=cs=frL d
 len h:=by rw [h];rfl
 frame h _:=h
 mono h _:=h
theorem Oh(d:FrD):(frL d).all (·.oneCell')=true:=rfl
def IxR(ws:List RwM)(x:Int):Option ReM→Prop
 | none=>x= -1
 | some r=>∃(j:Nat) (w:RwM),x=(j:Int)∧ws[j]? =some w∧w.den=r
structure FrR(ws:List RwM)(f:FrD)(a:AF):Prop where
 place:f.place=a.place
 alt:IxR ws f.alt a.alt
 meet:IxR ws f.meet a.meet
 sign:f.sign=a.sign
 row:IxR ws f.row a.row
 factor:IxR ws f.factor a.factor
theorem IxR.more{ws us:List RwM}{x:Int}:∀{o:Option ReM},IxR ws x o→IxR (ws++us) x o
 | none,h=>h
 | some r,⟨j,w,h1,h2,h3⟩=>⟨j,w,h1,F2 h2,h3⟩
theorem FrR.more{ws us:List RwM}{f:FrD}{a:AF}(h:FrR ws f a):FrR (ws++us) f a:=⟨h.place,h.alt.more,h.meet.more,h.sign,h.row.more,h.factor.more⟩
theorem IxR.neg{ws:List RwM}{x:Int}{o:Option ReM}(h:IxR ws x o):x<0↔o=none:=by
 cases o with
 | none=>exact⟨fun _=>rfl,fun _=>by rw [show x= -1 from h];decide⟩
 | some r=>
   obtain⟨j,w,rfl,-⟩:=h;exact⟨fun h=>absurd h (by omega),fun h=>by cases h⟩
theorem IxR.new{ds:List RnM}{ws:List RwM}{w:RwM}{r:ReM}(h:Raw ds ws)(hr:w.den=r):IxR (ws++[w]) (ds.length:Int) (some r):=⟨ds.length,w,rfl,by rw [h.len];simp,hr⟩
def AT(ds:List RnM)(f:FrD):List RnM×FrD:=
 if f.factor<0 then(ds,f)else if f.row<0 then(ds,{f with row:=f.factor,factor:= -1})else(ds++[Ax 2 f.row f.factor],{f with row:=ds.length,factor:= -1})
def Cw(ds:List RnM)(f:FrD):List RnM×FrD:=if f.row<0 then(ds++[Ax 0 0 0],{f with row:=ds.length})else(ds,f)
def DS(ds:List RnM)(f:FrD):List RnM×FrD:=
 if f.meet<0 then(ds,{f with meet:=f.row,row:= -1})else(ds++[Ax (if f.sign=38 then 5 else 6) f.meet f.row],{f with meet:=ds.length,row:= -1})
def Cz(ds:List RnM)(f:FrD):List RnM×FrD:=DS (Cw (AT ds f).1 (AT ds f).2).1 (Cw (AT ds f).1 (AT ds f).2).2
def LV(ds:List RnM)(f:FrD):List RnM×FrD:=
 if f.alt<0 then(ds,{f with alt:=f.meet,meet:= -1})else(ds++[Ax 3 f.alt f.meet],{f with alt:=ds.length,meet:= -1})
def D1(ds:List RnM)(f:FrD):List RnM×FrD:=LV (Cz ds f).1 (Cz ds f).2
theorem Fo(ds:List RnM)(f:FrD):(AT ds f).1.length≤ds.length+1:=by
 unfold AT;split;· simp
 split<;>simp
theorem JE(ds:List RnM)(f:FrD):(Cw ds f).1.length≤ds.length+1:=by unfold Cw;split<;>simp
theorem OS(ds:List RnM)(f:FrD):(DS ds f).1.length≤ds.length+1:=by unfold DS;split<;>simp
theorem P8(ds:List RnM)(f:FrD):(LV ds f).1.length≤ds.length+1:=by unfold LV;split<;>simp
theorem GU(ds:List RnM)(f:FrD):(Cz ds f).1.length≤ds.length+3:=by
 unfold Cz;have h1:=Fo ds f;have h2:=JE (AT ds f).1 (AT ds f).2;have h3:=OS (Cw (AT ds f).1 (AT ds f).2).1 (Cw (AT ds f).1 (AT ds f).2).2;omega
theorem Hs(ds:List RnM)(f:FrD):(D1 ds f).1.length≤ds.length+4:=by
 unfold D1;have h1:=GU ds f;have h2:=P8 (Cz ds f).1 (Cz ds f).2;omega
structure KO(ws:List RwM)(q:List RnM×FrD)(a:AF):Prop where
 ex:∃us,Raw q.1 (ws++us)∧FrR (ws++us) q.2 a
theorem KO.then_{ws:List RwM}{q q':List RnM×FrD}{a a':AF}(h:KO ws q a)(k:∀ws',Raw q.1 ws'→FrR ws' q.2 a→KO ws' q' a'):KO ws q' a':=by
 obtain⟨us,h1,h2⟩:=h;obtain⟨vs,h3,h4⟩:=k _ h1 h2;rw [UU]at h3 h4;exact⟨_,h3,h4⟩
theorem IP{ds:List RnM}{ws:List RwM}{f:FrD}{a:AF}(h:Raw ds ws)(g:FrR ws f a):KO ws (AT ds f) (Aw a):=by
 unfold AT Aw;cases hf:a.factor with
 | none=>
   rw [if_pos (g.factor.neg.2 hf)];exact⟨[],by simpa using h,by simpa using g⟩
 | some p=>
   rw [if_neg (fun e=>by have:=g.factor.neg.1 e;rw [hf]at this;cases this)];have gf:=g.factor;rw [hf]at gf;cases hr:a.row with
   | none=>
     rw [if_pos (g.row.neg.2 hr)];exact⟨[],by simpa using h,by simpa using⟨g.place,g.alt,g.meet,g.sign,gf,rfl⟩⟩
   | some q=>
     rw [if_neg (fun e=>by have:=g.row.neg.1 e;rw [hr]at this;cases this)];have gr:=g.row;rw [hr]at gr;obtain⟨j,w,e1,e2,e3⟩:=gr;obtain⟨k,v,e4,e5,e6⟩:=gf;refine⟨[.cat w v],h.add ⟨j,k,by rw [e1,e4],e2,e5⟩,⟨g.place,g.alt.more,g.meet.more,g.sign,?_,rfl⟩⟩;exact IxR.new h (by rw [←e3,←e6];rfl)
theorem I1{ds:List RnM}{ws:List RwM}{f:FrD}{a:AF}(h:Raw ds ws)(g:FrR ws f a):KO ws (Cz ds f) (BV a):=by
 refine(IP h g).then_ fun ws1 h1 g1=>?_;unfold Cz;generalize AT ds f=q1 at*;obtain⟨ds1,f1⟩:=q1;have he:KO ws1 (Cw ds1 f1) {Aw a with row:=some ((Aw a).row.getD .eps)}:=by
  unfold Cw;cases hr:(Aw a).row with
  | none=>
    rw [if_pos (g1.row.neg.2 hr)];exact⟨[.eps],h1.add rfl,⟨g1.place,g1.alt.more,g1.meet.more,g1.sign,IxR.new h1 rfl,g1.factor.more⟩⟩
  | some q=>
    rw [if_neg (fun e=>by have:=g1.row.neg.1 e;rw [hr]at this;cases this)];have gr:=g1.row;rw [hr]at gr;exact⟨[],by simpa using h1,by simpa using⟨g1.place,g1.alt,g1.meet,g1.sign,gr,g1.factor⟩⟩
 refine he.then_ fun ws2 h2 g2=>?_;generalize Cw ds1 f1=q2 at*;obtain⟨ds2,f2⟩:=q2;obtain⟨j,w,e1,e2,e3⟩:=g2.row;unfold DS;cases hm:(Aw a).meet with
 | none=>
   rw [if_pos (g2.meet.neg.2 hm)];refine⟨[],by simpa using h2,?_⟩;rw [UX];refine⟨g2.place,g2.alt,?_,g2.sign,rfl,g2.factor⟩;show IxR ws2 f2.row (some (match(Aw a).meet with | none=>_ | some q=>_));rw [hm];exact⟨j,w,e1,e2,e3⟩
 | some q=>
   rw [if_neg (fun e=>by have:=g2.meet.neg.1 e;rw [show({Aw a with row:=some ((Aw a).row.getD .eps)}:AF).meet=(Aw a).meet from rfl,hm]at this;cases this)];have gm:=g2.meet;rw [show({Aw a with row:=some ((Aw a).row.getD .eps)}:AF).meet=(Aw a).meet from rfl,hm]at gm;obtain⟨k,v,e4,e5,e6⟩:=gm;have hs:f2.sign=(Aw a).sign:=g2.sign;have fin:∀(x:RwM) (op:Int),Jx ws2 (Ax op f2.meet f2.row) x→some x.den=(BV a).meet→KO ws2 (ds2++[Ax op f2.meet f2.row],{f2 with meet:=(ds2.length:Int),row:= -1}) (BV a):=fun x op hx hxd=>
    ⟨[x],h2.add hx,⟨g2.place,g2.alt.more,by show IxR _ _ (BV a).meet;rw [←hxd];exact IxR.new h2 rfl,g2.sign,rfl,g2.factor.more⟩⟩
   by_cases h38:f2.sign=38
   ·rw [if_pos h38];refine fin (.and_ v w) 5 ⟨k,j,by rw [e1,e4],e5,e2⟩ ?_;show some (ReM.and_ v.den w.den)=some (match(Aw a).meet with | none=>_ | some q=>_);rw [hm];show _=some (if(Aw a).sign=38 then _ else _);rw [if_pos (by rw [←hs];exact h38),e3,e6]
   ·rw [if_neg h38];refine fin (.minus v w) 6 ⟨k,j,by rw [e1,e4],e5,e2⟩ ?_;show some (ReM.minus v.den w.den)=some (match(Aw a).meet with | none=>_ | some q=>_);rw [hm];show _=some (if(Aw a).sign=38 then _ else _);rw [if_neg (by rw [←hs];exact h38),e3,e6]
theorem Ht{ds:List RnM}{ws:List RwM}{f:FrD}{a:AF}(h:Raw ds ws)(g:FrR ws f a):KO ws (D1 ds f) (Cl a):=by
 refine(I1 h g).then_ fun ws2 h2 g2=>?_;unfold D1;generalize Cz ds f=q2 at*;obtain⟨ds2,f2⟩:=q2;have gm:=g2.meet;have hfm:(BV a).meet=some ((BV a).meet.getD .eps):=rfl;rw [hfm]at gm;obtain⟨j,w,e1,e2,e3⟩:=gm;unfold LV;cases hm:(BV a).alt with
 | none=>
   rw [if_pos (g2.alt.neg.2 hm)];refine⟨[],by simpa using h2,?_⟩;rw [UX];refine⟨g2.place,?_,rfl,g2.sign,g2.row,g2.factor⟩;show IxR ws2 f2.meet (some (match(BV a).alt with | none=>_ | some q=>_));rw [hm];exact⟨j,w,e1,e2,e3⟩
 | some q=>
   rw [if_neg (fun e=>by have:=g2.alt.neg.1 e;rw [hm]at this;cases this)];have ga:=g2.alt;rw [hm]at ga;obtain⟨k,v,e4,e5,e6⟩:=ga;refine⟨[.alt v w],h2.add ⟨k,j,by rw [e1,e4],e5,e2⟩,⟨g2.place,?_,rfl,g2.sign,g2.row.more,g2.factor.more⟩⟩;show IxR _ _ (some (match(BV a).alt with | none=>_ | some q=>_));rw [hm];exact IxR.new h2 (by show ReM.alt v.den w.den=_;rw [e3,e6])
end Go.Proofs.YtlnmhfhdjnenoaaGreatDoor
namespace Go.Proofs.YtlnmhfhdjnenoaaGreatDoor
open Go.VC
def EK:NfM:=Dy (Ew [97,98])
theorem EL:EK.edges=[CJ 0 1 (Hg 97),CJ 2 3 (Hg 98),AA 1 2]:=rfl
theorem LR:EK.start=0:=rfl
theorem MY:EK.fin=3:=rfl
theorem P5:EK.st=4:=rfl
theorem KR{q:Int}(h0:0≤q)(h1:q<4):EK.has q=true:=NfM.has_iff.2 ⟨h0,by rw [P5];exact h1,by rw [P5];decide⟩
theorem S6:Ke EK [97,98]=true:=by
 rw [Rd,LR,MY];refine Way.hop (a:=EK) (e:=CJ 0 1 (Hg 97)) (by rw [EL];simp) rfl (by decide+kernel) (KR (by decide) (by decide)) ?_;refine Way.sil (a:=EK) (e:=AA 1 2) (by rw [EL];simp) rfl (KR (by decide) (by decide)) ?_;refine Way.hop (a:=EK) (e:=CJ 2 3 (Hg 98)) (by rw [EL];simp) rfl (by decide+kernel) (KR (by decide) (by decide)) ?_;exact .nil (KR (by decide) (by decide))
theorem TC:Ke EK [97]=false:=by
 rw [Bool.eq_false_iff];intro h;rw [J6,MY]at h;have h1:∀q,PC EK q→q=0:=Fz (fun q h=>h.1) fun e he hs _ h=>by
  rw [EL]at he;simp only [UZ,Vb,or_false]at he;rcases he with rfl | rfl | rfl
  ·cases hs
  ·cases hs
  ·exact absurd h (by decide)
 have h2:∀q,goS EK (PC EK) 97 q→q=1∨q=2:=Fz (fun q ⟨e,he,hs,hb,hx,_,hq⟩=>by
  rw [EL]at he;simp only [UZ,Vb,or_false]at he;rcases he with rfl | rfl | rfl
  ·exact .inl hq
  ·exact absurd (h1 _ hx) (by decide)
  ·cases hs) fun e he hs _ h=>by
  rw [EL]at he;simp only [UZ,Vb,or_false]at he;rcases he with rfl | rfl | rfl
  ·cases hs
  ·cases hs
  ·exact .inr rfl
 rcases h2 3 h with h | h<;>exact absurd h (by decide)
theorem NA(H:Aa):Bv Tryz.prog 6 #[] H (.bool true):=by
 refine Ao.of_vc Tryz.func6 rfl (Tryz.call6 _) (Af (Tq ⟨#[97,98]⟩ (by decide) H) fun H1 ha1=>?_);have st1:=(St.nil H).call ha1;refine Ai.mk (Rj (Ew (byN ⟨#[97,98]⟩)) (ML _) (by decide) H1) ?_;rintro v H2 ⟨ha2,hv⟩;rw [if_neg (show¬2000<(Ew (byN ⟨#[97,98]⟩)).nodes by decide)]at hv;obtain⟨ea,ec,rfl,hown⟩:=hv;change SlO tEd none_ H2 H1.size 104 (.slice ea EK.edges.length ec) EK.edges at hown;obtain⟨ea',ec',e2,st2⟩:=st1.got ha2 hown;injection e2 with e21 e22 e23
 subst e21;subst e23;refine Ag _ [.int .i64 0,.int .i64 0,.int .i64 0,.slice none 0 0] E5 rfl ?_;intro p H3 hp hs3 hb3 ha3;have st3:=st2.box hp hs3 hb3 ha3;refine Ay (cs:=nfL EK (.slice ea EK.edges.length ec)) st3 1 rfl rfl (UQ _) rfl fun H4 st4=>?_;rw [Ae (show(nfL EK (.slice ea EK.edges.length ec)).length=4 from rfl)]at st4;have hb:=st4.blk 1 rfl;refine fa CN ?_;refine ld1 (v:=.int .i64 4) ct3 (by rw [hb.cell];rfl) trivial ?_;refine fa Gt ?_;refine ld1 (v:=.int .i64 3) ct3 (by rw [hb.cell];rfl) trivial ?_;have hr:EK.Rng:=⟨R5 (by rw [P5];decide),R5 (by rw [LR];decide),R5 (by rw [MY];decide)⟩;have hl:EK.edges.length≤33554432:=by rw [EL];decide
 refine Dh hr hl hb Ek trivial (st4.view 0 rfl) fun v5 hv5=>(Af (Ks (s:=⟨#[97,98]⟩) (fun k hk=>hk) hv5 (by decide)) fun H5 ha5=>?_);have st5:=st4.call ha5;rw [show Ke EK (byN ⟨#[97,98]⟩)=true from S6];refine Dh hr hl (st5.blk 1 rfl) Ek trivial (st5.view 0 rfl) fun v6 hv6=>(Af (Ks (s:=⟨#[97]⟩) (fun k hk=>hk) hv6 (by decide)) fun H6 ha6=>?_);have st6:=st5.call ha6;rw [show Ke EK (byN ⟨#[97]⟩)=false from TC];(conv=>whnf);exact⟨rfl,st6.old⟩
abbrev tRe:TypeId:=32
section
variable{B:Nat→Prop}{H0 H:Aa}{rest:List Pc}{bb:Nat}
end
theorem HJ:(Tryz.prog.info? 32).bind (·.zero)=some (.agg #[.slice none 0 0,.int .i64 0]):=rfl
abbrev reZ:List Value:=[.slice none 0 0,.int .i64 0]
end Go.Proofs.YtlnmhfhdjnenoaaGreatDoor
namespace Go.VC
section
variable{α:Type}{T:Ty α}{B:Nat→Prop}{H0 H:Aa}{ps:List Pc}{e:TypeId}{b n cap:Nat}{xs:List α}
theorem StB.cellsE{j:Nat}{x:α}(st:StB B H0 H ps)(i:Nat)(hp:ps[i]? =some (pS T e (some ⟨b,0,none⟩) n cap xs))(hx:xs[j]? =some x):∃c,Bo H b (j*T.size) c∧T.rep none_ H c x:=by
 have hi:=(UR.1 hx).1;obtain⟨-,-,-,l,-,-,h,-⟩:=(st.at_ i hp).1.placeS hi;exact h x hx
theorem StB.ltE(st:StB B H0 H ps)(i:Nat)(hp:ps[i]? =some (pS T e (some ⟨b,0,none⟩) n cap xs)):b<H.size:=(st.in_ i hp (.inl ⟨0,n,cap,rfl⟩)).2
theorem ixE{P:Program}{t by_ j:Nat}{z:Value}{k:IntKind}{ji:Int}{S0:Nat→Prop}{H2:Aa}{K:Value→Prop}(ht:SlT P t e T.size by_ z)(st:StB B H0 H ps)(i:Nat)(hp:ps[i]? =some (pS T e (some ⟨b,0,none⟩) n cap xs))
  (hj:j<xs.length) (hji:ji=(j:Int)) (hk:K (.pointer (some ⟨b,j*T.size,none⟩))):AB P (Instr.indexAt t (.slice (some ⟨b,0,none⟩) n cap) (.int k ji)) S0 H2 K:=by
 have hn:=st.len i hp;exact ix ht (by omega) (by omega) (by rw [hji,Int.toNat_natCast,UM];exact hk)
theorem UI{P:Program}{t j k:Nat}{v:Value}{x x':α}{K:Aa→Prop}(st:StB B H0 H ps)(i:Nat)(ht:C3 P t)(hp:ps[i]? =some (pS T e (some ⟨b,0,none⟩) n cap xs))(hx:xs[j]? =some x)(hk:k<T.size)(hv:v.oneCell'=true)
  (hr:∀H' c,T.rep none_ H' c x→T.rep none_ H' (c.set k v) x') (kk:∀H',StB B H0 H' (ps.set i (pS T e (some ⟨b,0,none⟩) n cap (xs.set j x')))→Agr (fun q=>q≠b) H H'→K H'):
  CP P (Instr.storeAt t (.pointer (some ⟨b,j*T.size+k,none⟩)) v) H K:=by
 have hj:=(UR.1 hx).1;have hok:=st.at_ i hp;obtain⟨-,-,-,l,hblk,hlen,hc,hput⟩:=hok.1.placeS hj;obtain⟨c,hc,hrep⟩:=hc x hx;have hcl:=T.len hrep;refine VC.st1 ht hblk (by omega) hv ?_;intro H' hb' ha' hs';have hSH:Agr none_ H H':=fun q hq=>hq.elim;have hrep':=hr H' c (T.frame hrep hSH);have hown:=hput H' (c.set k v) x' (by
  have:Ac l (j*T.size) (c.set k v)=l.set (j*T.size+k) v:=by
   apply List.ext_getElem?;intro m;rw [Db (by rw [Vi,hcl];exact hlen),Vi,hcl];by_cases hm:j*T.size≤m∧m<j*T.size+T.size
   ·rw [if_pos hm];have hcm:m - j*T.size<c.length:=by omega
    have hce:(c[m - j*T.size]?)=l[m]? :=by
     have h1:=hc (m - j*T.size) _ (Vc hcm);rw [show j*T.size+(m - j*T.size)=m by omega,hblk.cell]at h1;rw [Vc hcm,h1]
    by_cases hmk:m=j*T.size+k
    ·subst hmk;rw [show j*T.size+k - j*T.size=k by omega,Vd (by omega),Vd (by omega)]
    ·rw [UY (by omega),UY (by omega),hce]
   ·rw [if_neg hm,UY (by omega)]
  rw [this];exact hb') hSH hrep'
 exact kk H' (st.upd i hp (ha'.mono fun q hq hkb=>hq.2 (.inl (by subst hkb;exact⟨0,n,cap,rfl⟩))) _ ⟨hown,hok.2⟩ (fun q hq=>.inl hq) (fun q hq=>by rw [hs'];exact(st.in_ i hp hq).2) (by omega)) ha'
end
end Go.VC
namespace Go.Proofs.YtlnmhfhdjnenoaaGreatDoor
open Go.VC Go.Lib
abbrev tSt:TypeId:=83
abbrev stP(sb fb:Nat)(na:Option Addr)(nc fc n:Nat)(ds:List RnM)(frs:List FrD)(rest:List Pc):List Pc:=
 pB tSt sb [.slice na ds.length nc,.slice (some ⟨fb,0,none⟩) n fc]::pS tRn 94 na ds.length nc ds::pS tFr 85 (some ⟨fb,0,none⟩) n fc frs::rest
structure Dst(B:Nat→Prop)(H0 H:Aa)(sb fb:Nat)(ds:List RnM)(frs:List FrD)(rest:List Pc):Prop where
 ex:∃na nc fc n,StB B H0 H (stP sb fb na nc fc n ds frs rest)
def A9(x:Int):Prop:= -4294967296<x∧x<4294967296
theorem Bu{x:Int}(h:A9 x):inK .i64 x:=by
 unfold A9 at h;unfold inK;show(-9223372036854775808:Int)≤x∧x≤9223372036854775807;omega
theorem PE{op x y:Int}(h1:A9 op)(h2:A9 x)(h3:A9 y):(Ax op x y).Ok:=⟨Bu h1,Bu h2,Bu h3,Bu (x:=0) (by unfold A9;omega),Bu (x:=0) (by unfold A9;omega)⟩
section
variable{B:Nat→Prop}{H0 H:Aa}{sb fb nc fc n:Nat}{na:Option Addr}{ds:List RnM}{frs:List FrD}{rest:List Pc}
theorem Hv{op x y:Int}(st:StB B H0 H (stP sb fb na nc fc n ds frs rest))(h1:A9 op)(h2:A9 x)(h3:A9 y)(hl:ds.length≤16777216):
  Ao Tryz.prog 55 #[.pointer (some ⟨sb,0,none⟩),.int .i64 op,.int .i64 x,.int .i64 y] H
   (fun v H'=>v= .int .i64 (ds.length:Int)∧Agr (fun k=>k=fb) H H'∧∃na' nc',StB B H0 H' (stP sb fb na' nc' fc n (ds++[Ax op x y]) frs rest)):=by
 have f1:fb≠sb:=fun e=>st.apart2 (i:=0) (j:=2) rfl rfl (by decide) sb rfl (.inl ⟨0,n,fc,by rw [e]⟩);have f2:¬slB (.slice na ds.length nc) fb:=fun e=>st.apart2 (i:=1) (j:=2) rfl rfl (by decide) fb (.inl e) (.inl ⟨0,n,fc,rfl⟩);have f3:fb<H.size:=st.ltE 2 rfl;refine Ao.of_vc Tryz.func55 rfl (Tryz.call55 _) (VC.fa C6 ?_);refine ld1 (v:=.slice na ds.length nc) C0 (by rw [(st.blk 0 rfl).cell];rfl) trivial ?_;refine KE op x y (AM CU (rnL (Ax op x y)) rfl (Aq _) (by decide) (by decide) ?_);intro z H1 hz hs1 hb1 ha1;have st1:=st.skip hz ha1;refine Hp (ys:=[Ax op x y]) st1 1 CU rfl (hb1.cells (o:=0) (cs:=rnL (Ax op x y)) fun j v hv=>by rw [UM];exact hv) (Ty.reps_one ⟨rfl,PE h1 h2 h3⟩) rfl (fun u hu=>Vf.1 (Br _) u hu) (by simp [maxLen];omega) (by simp;omega) fun a9 c9 H9 st9 ha9=>?_;have el:ds.length+[Ax op x y].length=(ds++[Ax op x y]).length:=by simp
 rw [el]at st9 ⊢;refine VC.fa C6 (QK st9 0 C0 rfl (show 0<2 by decide) rfl fun H10 st10 ja js=>(VC.fa C6 ?_));refine ld1 (v:=.slice a9 (ds++[Ax op x y]).length c9) C0 (by rw [(st10.blk 0 rfl).cell];rfl) trivial ?_;have w1:IntKind.wrap .i64 (((ds++[Ax op x y]).length:Int) - 1)=(ds.length:Int):=by
  rw [UL,UP,w64 (by omega) (by omega)];omega
 (conv=>whnf);rw [w1];(conv=>whnf);refine⟨rfl,?_,a9,c9,st10⟩;rintro k rfl;rw [ja _ f1,ha9 _ ⟨by have:z=H.size:=hz;omega,f2⟩,ha1 _ (by have:z=H.size:=hz;omega)]
theorem AY{fr:List FrD}{f:FrD}{k:Nat}{v:Value}(st:StB B H0 H (stP sb fb na nc fc n ds (fr++[f]) rest))(hk:(frL f)[k]? =some v):cell H fb (fr.length*tFr.size+k)=some v:=by
 obtain⟨c,hc,rfl⟩:=st.cellsE 2 rfl (x:=f) (j:=fr.length) (by simp);exact hc k v hk
theorem Og{fr:List FrD}{f:FrD}(st:StB B H0 H (stP sb fb na nc fc n ds (fr++[f]) rest)):n=fr.length+1:=by
 have:=st.len 2 rfl;rw [this];simp
theorem DN{t k:Nat}{v:Value}{fr:List FrD}{f f':FrD}{K:Aa→Prop}(st:StB B H0 H (stP sb fb na nc fc n ds (fr++[f]) rest))(ht:C3 Tryz.prog t)(hk:k<6)(hv:v.oneCell'=true)(hr:(frL f).set k v=frL f')
  (kk:∀H',StB B H0 H' (stP sb fb na nc fc n ds (fr++[f']) rest)→Agr (fun q=>q≠fb) H H'→K H'):CP Tryz.prog (Instr.storeAt t (.pointer (some ⟨fb,fr.length*tFr.size+k,none⟩)) v) H K:=by
 refine UI (T:=tFr) (x:=f) (x':=f') st 2 ht rfl (by simp) hk hv (fun H' c hc=>by rw [show c=frL f from hc];exact hr) fun H' st' ha=>?_;rw [show(fr++[f]).set fr.length f'=fr++[f']from by simp]at st';exact kk H' st' ha
structure FrN(f:FrD):Prop where
 alt:A9 f.alt
 meet:A9 f.meet
 row:A9 f.row
 factor:A9 f.factor
theorem JI:A9 (-1):=by unfold A9;omega
theorem Ij{m:Nat}(h:m≤16777216):A9 (m:Int):=by unfold A9;omega
theorem GM{ds:List RnM}{f:FrD}(h:FrN f)(hl:ds.length≤16777216):FrN (AT ds f).2:=by
 unfold AT;split
 ·exact h
 ·split
  ·exact⟨h.alt,h.meet,h.factor,JI⟩
  ·exact⟨h.alt,h.meet,Ij hl,JI⟩
theorem Ng{ds:List RnM}{f:FrD}(h:FrN f)(hl:ds.length≤16777216):FrN (Cw ds f).2:=by
 unfold Cw;split
 ·exact⟨h.alt,h.meet,Ij hl,h.factor⟩
 ·exact h
theorem OT{ds:List RnM}{f:FrD}(h:FrN f)(hl:ds.length≤16777216):FrN (DS ds f).2:=by
 unfold DS;split
 ·exact⟨h.alt,h.row,JI,h.factor⟩
 ·exact⟨h.alt,Ij hl,JI,h.factor⟩
theorem ON{ds:List RnM}{f:FrD}(h:FrN f)(hl:ds.length≤16777200):FrN (Cz ds f).2:=by
 unfold Cz;have h1:=Fo ds f;have h2:=JE (AT ds f).1 (AT ds f).2;exact OT (Ng (GM h (by omega)) (by omega)) (by omega)
theorem Kx{fr:List FrD}{f:FrD}(st:StB B H0 H (stP sb fb na nc fc n ds (fr++[f]) rest))(hn:FrN f)(hl:ds.length≤16777216):
  Ao Tryz.prog 33 #[.pointer (some ⟨sb,0,none⟩)] H (fun _ H'=>∃na' nc',StB B H0 H' (stP sb fb na' nc' fc n (AT ds f).1 (fr++[(AT ds f).2]) rest)):=by
 have hlen:=Og st;have hmx:=st.max 2 rfl;simp only [UL,UP,maxLen]at hmx;refine Ao.of_vc Tryz.func33 rfl (Tryz.call33 _) (As.lex rfl (by kernel_rfl) (VC.fa Bs ?_));refine ld1 (v:=.slice (some ⟨fb,0,none⟩) n fc) D2 (by rw [(st.blk 0 rfl).cell];rfl) trivial ?_;refine VC.fa Bs ?_;refine ld1 (v:=.slice (some ⟨fb,0,none⟩) n fc) D2 (by rw [(st.blk 0 rfl).cell];rfl) trivial ?_;(conv=>whnf);rw [w64 (x:=(n:Int) - 1) (by omega) (by omega)];refine ixE (j:=fr.length) Hj st 2 rfl (by simp) (by omega) (VC.fa Dq (ld1 (v:=.int .i64 f.factor) ct3 (AY st (k:=5) rfl) trivial ?_));by_cases h1:f.factor<0
 ·have d1:decide (f.factor<0)=true:=decide_eq_true h1;have e:AT ds f=(ds,f):=by unfold AT;rw [if_pos h1]
  (conv=>whnf);rw [d1];(conv=>whnf);rw [e];exact⟨na,nc,st⟩
 ·have d1:decide (f.factor<0)=false:=decide_eq_false h1;(conv=>whnf);rw [d1];(conv=>whnf);try (refine Al.run ?_)
  refine VC.fa CO (ld1 (v:=.int .i64 f.row) ct3 (AY st (k:=4) rfl) trivial ?_);by_cases h2:f.row<0
  ·have d2:decide (f.row<0)=true:=decide_eq_true h2;have e:AT ds f=(ds,{f with row:=f.factor,factor:= -1}):=by unfold AT;rw [if_neg h1,if_pos h2]
   (conv=>whnf);rw [d2];refine VC.fa Dq (ld1 (v:=.int .i64 f.factor) ct3 (AY st (k:=5) rfl) trivial (VC.fa CO (DN (k:=4) (f':={f with row:=f.factor}) st ct3 (by decide) rfl rfl fun G1 sg1 ja=>(VC.fa Dq (DN (k:=5) (f':={f with row:=f.factor,factor:= -1}) sg1 ct3 (by decide) rfl rfl fun G2 sg2 ja=>?_)))));(conv=>whnf);rw [e];exact⟨na,nc,sg2⟩
  ·have d2:decide (f.row<0)=false:=decide_eq_false h2;have e:AT ds f=(ds++[Ax 2 f.row f.factor],{f with row:=ds.length,factor:= -1}):=by unfold AT;rw [if_neg h1,if_neg h2]
   (conv=>whnf);rw [d2];refine As.heldZ (fun k=>k=fb) [13] (sq [0,1,2,3,4,5,6,7,8,9] (.f 10 (sq [11,12] (.f 13 .e)))) rfl (by kernel_rfl) (VC.fa CO (ld1 (v:=.int .i64 f.row) ct3 (AY st (k:=4) rfl) rfl (VC.fa Dq (ld1 (v:=.int .i64 f.factor) ct3 (AY st (k:=5) rfl) rfl ?_))));refine Ai.mk (Hv (op:=2) st (by unfold A9;omega) hn.row hn.factor hl) ?_;rintro _ G1 ⟨rfl,af,na1,nc1,sg1⟩;refine⟨af,?_⟩;refine VC.fa CO (DN (k:=4) (f':={f with row:=ds.length}) sg1 ct3 (by decide) rfl rfl fun G2 sg2 ja=>(VC.fa Dq (DN (k:=5) (f':={f with row:=ds.length,factor:= -1}) sg2 ct3 (by decide) rfl rfl fun G3 sg3 ja=>?_)));(conv=>whnf);rw [e];exact⟨na1,nc1,sg3⟩
theorem Lc{fr:List FrD}{f:FrD}(st:StB B H0 H (stP sb fb na nc fc n ds (fr++[f]) rest))(hn:FrN f)(hl:ds.length≤16777200):
  Ao Tryz.prog 32 #[.pointer (some ⟨sb,0,none⟩)] H (fun _ H'=>∃na' nc',StB B H0 H' (stP sb fb na' nc' fc n (Cz ds f).1 (fr++[(Cz ds f).2]) rest)):=by
 have hlen:=Og st;have hmx:=st.max 2 rfl;simp only [UL,UP,maxLen]at hmx;refine Ao.of_vc Tryz.func32 rfl (Tryz.call32 _) (Ai.mk (Kx st hn (by omega)) ?_);rintro v1 H1 ⟨na1,nc1,st1⟩;have hn1:=GM hn (ds:=ds) (by omega);have hl1:=Fo ds f;have e0:Cz ds f=DS (Cw (AT ds f).1 (AT ds f).2).1 (Cw (AT ds f).1 (AT ds f).2).2:=rfl;obtain⟨ds1,f1,hq⟩:∃ds1 f1,AT ds f=(ds1,f1):=⟨_,_,rfl⟩;rw [hq]at st1 hn1 hl1 e0;replace st1:StB B H0 H1 (stP sb fb na1 nc1 fc n ds1 (fr++[f1]) rest):=st1;replace hn1:FrN f1:=hn1;replace hl1:ds1.length≤ds.length+1:=hl1;replace e0:Cz ds f=DS (Cw ds1 f1).1 (Cw ds1 f1).2:=e0;refine As.lex rfl (by kernel_rfl) (VC.fa Bs ?_);refine ld1 (v:=.slice (some ⟨fb,0,none⟩) n fc) D2 (by rw [(st1.blk 0 rfl).cell];rfl) trivial ?_;refine VC.fa Bs ?_;refine ld1 (v:=.slice (some ⟨fb,0,none⟩) n fc) D2 (by rw [(st1.blk 0 rfl).cell];rfl) trivial ?_;(conv=>whnf);rw [w64 (x:=(n:Int) - 1) (by omega) (by omega)];refine ixE (j:=fr.length) Hj st1 2 rfl (by simp) (by omega) ?_;(conv=>whnf);try (refine Al.run ?_)
 refine VC.fa CO (ld1 (v:=.int .i64 f1.row) ct3 (AY st1 (k:=4) rfl) trivial ?_);by_cases h2:f1.row<0
 ·have d2:decide (f1.row<0)=true:=decide_eq_true h2;have e1:DS (Cw ds1 f1).1 (Cw ds1 f1).2=DS (ds1++[Ax 0 0 0]) {f1 with row:=(ds1.length:Int)}:=by unfold Cw;rw [if_pos h2]
  (conv=>whnf);rw [d2];refine Ai.mk (Hv (op:=0) (x:=0) (y:=0) st1 (by unfold A9;omega) (by unfold A9;omega) (by unfold A9;omega) (by omega)) ?_;rintro _ G8 ⟨rfl,af8,na8,nc8,sg8⟩;refine VC.fa CO (DN (k:=4) (f':={f1 with row:=(ds1.length:Int)}) sg8 ct3 (by decide) rfl rfl fun G9 sg9 ja=>?_);have hn2:FrN {f1 with row:=(ds1.length:Int)}:=⟨hn1.alt,hn1.meet,Ij (by omega),hn1.factor⟩;(conv=>whnf);try (refine Al.run ?_)
  refine VC.fa Dp (ld1 (v:=.int .i64 ({f1 with row:=(ds1.length:Int)}).meet) ct3 (AY sg9 (k:=2) rfl) trivial ?_);by_cases m1:f1.meet<0
  ·have d3:decide (f1.meet<0)=true:=decide_eq_true m1;have e:Cz ds f=(ds1++[Ax 0 0 0],{({f1 with row:=(ds1.length:Int)})with meet:=({f1 with row:=(ds1.length:Int)}).row,row:= -1}):=by rw [e0,e1];unfold DS;rw [if_pos m1]
   (conv=>whnf);rw [d3];refine VC.fa CO (ld1 (v:=.int .i64 ({f1 with row:=(ds1.length:Int)}).row) ct3 (AY sg9 (k:=4) rfl) trivial (VC.fa Dp (DN (k:=2) (f':={({f1 with row:=(ds1.length:Int)})with meet:=({f1 with row:=(ds1.length:Int)}).row}) sg9 ct3 (by decide) rfl rfl fun G5 sg5 ja=>(VC.fa CO (DN (k:=4) (f':={({f1 with row:=(ds1.length:Int)})with meet:=({f1 with row:=(ds1.length:Int)}).row,row:= -1}) sg5 ct3 (by decide) rfl rfl fun G6 sg6 ja=>?_)))));(conv=>whnf);rw [e];exact⟨_,_,sg6⟩
  ·have d3:decide (f1.meet<0)=false:=decide_eq_false m1;(conv=>whnf);rw [d3];(conv=>whnf);try (refine Al.run ?_)
   refine VC.fa Lr (ld1 (v:=.int .u8 (({f1 with row:=(ds1.length:Int)}).sign:Int)) ct5 (AY sg9 (k:=3) rfl) trivial ?_);by_cases s1:f1.sign=38
   ·have d4:((f1.sign:Int)==38)=true:=by rw [s1];rfl
    have e:Cz ds f=(ds1++[Ax 0 0 0]++[Ax 5 ({f1 with row:=(ds1.length:Int)}).meet ({f1 with row:=(ds1.length:Int)}).row],{({f1 with row:=(ds1.length:Int)})with meet:=((ds1++[Ax 0 0 0]).length:Int),row:= -1}):=by rw [e0,e1];unfold DS;rw [if_neg m1];show(_++[Ax (if f1.sign=38 then 5 else 6) _ _],_)=_;rw [if_pos s1]
    (conv=>whnf);rw [d4];refine As.heldZ (fun k=>k=fb) [13] (sq [0,1,2,3,4,5,6,7,8,9] (.f 10 (sq [11,12] (.f 13 .e)))) rfl (by kernel_rfl) (VC.fa Dp (ld1 (v:=.int .i64 ({f1 with row:=(ds1.length:Int)}).meet) ct3 (AY sg9 (k:=2) rfl) rfl (VC.fa CO (ld1 (v:=.int .i64 ({f1 with row:=(ds1.length:Int)}).row) ct3 (AY sg9 (k:=4) rfl) rfl ?_))));refine Ai.mk (Hv (op:=5) sg9 (by unfold A9;omega) hn2.meet hn2.row (by simp;omega)) ?_;rintro _ G1 ⟨rfl,af,na1,nc1,sg1⟩;refine⟨af,?_⟩;refine VC.fa Dp (DN (k:=2) (f':={({f1 with row:=(ds1.length:Int)})with meet:=((ds1++[Ax 0 0 0]).length:Int)}) sg1 ct3 (by decide) rfl rfl fun G2 sg2 ja=>(VC.fa CO (DN (k:=4) (f':={({f1 with row:=(ds1.length:Int)})with meet:=((ds1++[Ax 0 0 0]).length:Int),row:= -1}) sg2 ct3 (by decide) rfl rfl fun G6 sg6 ja=>?_)));(conv=>whnf);rw [e];exact⟨_,_,sg6⟩
   ·have d4:((f1.sign:Int)==38)=false:=beq_eq_false_iff_ne.2 (by omega);have e:Cz ds f=(ds1++[Ax 0 0 0]++[Ax 6 ({f1 with row:=(ds1.length:Int)}).meet ({f1 with row:=(ds1.length:Int)}).row],{({f1 with row:=(ds1.length:Int)})with meet:=((ds1++[Ax 0 0 0]).length:Int),row:= -1}):=by rw [e0,e1];unfold DS;rw [if_neg m1];show(_++[Ax (if f1.sign=38 then 5 else 6) _ _],_)=_;rw [if_neg s1]
    (conv=>whnf);rw [d4];refine As.heldZ (fun k=>k=fb) [13] (sq [0,1,2,3,4,5,6,7,8,9] (.f 10 (sq [11,12] (.f 13 .e)))) rfl (by kernel_rfl) (VC.fa Dp (ld1 (v:=.int .i64 ({f1 with row:=(ds1.length:Int)}).meet) ct3 (AY sg9 (k:=2) rfl) rfl (VC.fa CO (ld1 (v:=.int .i64 ({f1 with row:=(ds1.length:Int)}).row) ct3 (AY sg9 (k:=4) rfl) rfl ?_))));refine Ai.mk (Hv (op:=6) sg9 (by unfold A9;omega) hn2.meet hn2.row (by simp;omega)) ?_;rintro _ G1 ⟨rfl,af,na1,nc1,sg1⟩;refine⟨af,?_⟩;refine VC.fa Dp (DN (k:=2) (f':={({f1 with row:=(ds1.length:Int)})with meet:=((ds1++[Ax 0 0 0]).length:Int)}) sg1 ct3 (by decide) rfl rfl fun G2 sg2 ja=>(VC.fa CO (DN (k:=4) (f':={({f1 with row:=(ds1.length:Int)})with meet:=((ds1++[Ax 0 0 0]).length:Int),row:= -1}) sg2 ct3 (by decide) rfl rfl fun G6 sg6 ja=>?_)));(conv=>whnf);rw [e];exact⟨_,_,sg6⟩
 ·have d2:decide (f1.row<0)=false:=decide_eq_false h2;have e1:DS (Cw ds1 f1).1 (Cw ds1 f1).2=DS ds1 f1:=by unfold Cw;rw [if_neg h2]
  (conv=>whnf);rw [d2];(conv=>whnf);try (refine Al.run ?_)
  refine VC.fa Dp (ld1 (v:=.int .i64 (f1).meet) ct3 (AY st1 (k:=2) rfl) trivial ?_);by_cases m1:f1.meet<0
  ·have d3:decide (f1.meet<0)=true:=decide_eq_true m1;have e:Cz ds f=(ds1,{(f1)with meet:=(f1).row,row:= -1}):=by rw [e0,e1];unfold DS;rw [if_pos m1]
   (conv=>whnf);rw [d3];refine VC.fa CO (ld1 (v:=.int .i64 (f1).row) ct3 (AY st1 (k:=4) rfl) trivial (VC.fa Dp (DN (k:=2) (f':={(f1)with meet:=(f1).row}) st1 ct3 (by decide) rfl rfl fun G5 sg5 ja=>(VC.fa CO (DN (k:=4) (f':={(f1)with meet:=(f1).row,row:= -1}) sg5 ct3 (by decide) rfl rfl fun G6 sg6 ja=>?_)))));(conv=>whnf);rw [e];exact⟨_,_,sg6⟩
  ·have d3:decide (f1.meet<0)=false:=decide_eq_false m1;(conv=>whnf);rw [d3];(conv=>whnf);try (refine Al.run ?_)
   refine VC.fa Lr (ld1 (v:=.int .u8 ((f1).sign:Int)) ct5 (AY st1 (k:=3) rfl) trivial ?_);by_cases s1:f1.sign=38
   ·have d4:((f1.sign:Int)==38)=true:=by rw [s1];rfl
    have e:Cz ds f=(ds1++[Ax 5 (f1).meet (f1).row],{(f1)with meet:=((ds1).length:Int),row:= -1}):=by rw [e0,e1];unfold DS;rw [if_neg m1];show(_++[Ax (if f1.sign=38 then 5 else 6) _ _],_)=_;rw [if_pos s1]
    (conv=>whnf);rw [d4];refine As.heldZ (fun k=>k=fb) [13] (sq [0,1,2,3,4,5,6,7,8,9] (.f 10 (sq [11,12] (.f 13 .e)))) rfl (by kernel_rfl) (VC.fa Dp (ld1 (v:=.int .i64 (f1).meet) ct3 (AY st1 (k:=2) rfl) rfl (VC.fa CO (ld1 (v:=.int .i64 (f1).row) ct3 (AY st1 (k:=4) rfl) rfl ?_))));refine Ai.mk (Hv (op:=5) st1 (by unfold A9;omega) hn1.meet hn1.row (by omega)) ?_;rintro _ G1 ⟨rfl,af,na1,nc1,sg1⟩;refine⟨af,?_⟩;refine VC.fa Dp (DN (k:=2) (f':={(f1)with meet:=((ds1).length:Int)}) sg1 ct3 (by decide) rfl rfl fun G2 sg2 ja=>(VC.fa CO (DN (k:=4) (f':={(f1)with meet:=((ds1).length:Int),row:= -1}) sg2 ct3 (by decide) rfl rfl fun G6 sg6 ja=>?_)));(conv=>whnf);rw [e];exact⟨_,_,sg6⟩
   ·have d4:((f1.sign:Int)==38)=false:=beq_eq_false_iff_ne.2 (by omega);have e:Cz ds f=(ds1++[Ax 6 (f1).meet (f1).row],{(f1)with meet:=((ds1).length:Int),row:= -1}):=by rw [e0,e1];unfold DS;rw [if_neg m1];show(_++[Ax (if f1.sign=38 then 5 else 6) _ _],_)=_;rw [if_neg s1]
    (conv=>whnf);rw [d4];refine As.heldZ (fun k=>k=fb) [13] (sq [0,1,2,3,4,5,6,7,8,9] (.f 10 (sq [11,12] (.f 13 .e)))) rfl (by kernel_rfl) (VC.fa Dp (ld1 (v:=.int .i64 (f1).meet) ct3 (AY st1 (k:=2) rfl) rfl (VC.fa CO (ld1 (v:=.int .i64 (f1).row) ct3 (AY st1 (k:=4) rfl) rfl ?_))));refine Ai.mk (Hv (op:=6) st1 (by unfold A9;omega) hn1.meet hn1.row (by omega)) ?_;rintro _ G1 ⟨rfl,af,na1,nc1,sg1⟩;refine⟨af,?_⟩;refine VC.fa Dp (DN (k:=2) (f':={(f1)with meet:=((ds1).length:Int)}) sg1 ct3 (by decide) rfl rfl fun G2 sg2 ja=>(VC.fa CO (DN (k:=4) (f':={(f1)with meet:=((ds1).length:Int),row:= -1}) sg2 ct3 (by decide) rfl rfl fun G6 sg6 ja=>?_)));(conv=>whnf);rw [e];exact⟨_,_,sg6⟩
theorem JC{fr:List FrD}{f:FrD}(st:StB B H0 H (stP sb fb na nc fc n ds (fr++[f]) rest))(hn:FrN f)(hl:ds.length≤16777200):
  Ao Tryz.prog 31 #[.pointer (some ⟨sb,0,none⟩)] H (fun _ H'=>∃na' nc',StB B H0 H' (stP sb fb na' nc' fc n (D1 ds f).1 (fr++[(D1 ds f).2]) rest)):=by
 have hlen:=Og st;have hmx:=st.max 2 rfl;simp only [UL,UP,maxLen]at hmx;refine Ao.of_vc Tryz.func31 rfl (Tryz.call31 _) (Ai.mk (Lc st hn (by omega)) ?_);rintro v1 H1 ⟨na1,nc1,st1⟩;have hn1:=ON hn (ds:=ds) (by omega);have hl1:=GU ds f;have e0:D1 ds f=LV (Cz ds f).1 (Cz ds f).2:=rfl;obtain⟨ds1,f1,hq⟩:∃ds1 f1,Cz ds f=(ds1,f1):=⟨_,_,rfl⟩;rw [hq]at st1 hn1 hl1 e0;replace st1:StB B H0 H1 (stP sb fb na1 nc1 fc n ds1 (fr++[f1]) rest):=st1;replace hn1:FrN f1:=hn1;replace hl1:ds1.length≤ds.length+3:=hl1;replace e0:D1 ds f=LV ds1 f1:=e0;refine As.lex rfl (by kernel_rfl) (VC.fa Bs ?_);refine ld1 (v:=.slice (some ⟨fb,0,none⟩) n fc) D2 (by rw [(st1.blk 0 rfl).cell];rfl) trivial ?_;refine VC.fa Bs ?_;refine ld1 (v:=.slice (some ⟨fb,0,none⟩) n fc) D2 (by rw [(st1.blk 0 rfl).cell];rfl) trivial ?_;(conv=>whnf);rw [w64 (x:=(n:Int) - 1) (by omega) (by omega)];refine ixE (j:=fr.length) Hj st1 2 rfl (by simp) (by omega) ?_;(conv=>whnf);try (refine Al.run ?_)
 refine VC.fa Iz (ld1 (v:=.int .i64 f1.alt) ct3 (AY st1 (k:=1) rfl) trivial ?_);by_cases h2:f1.alt<0
 ·have d2:decide (f1.alt<0)=true:=decide_eq_true h2;have e:D1 ds f=(ds1,{f1 with alt:=f1.meet,meet:= -1}):=by rw [e0];unfold LV;rw [if_pos h2]
  (conv=>whnf);rw [d2];refine VC.fa Dp (ld1 (v:=.int .i64 f1.meet) ct3 (AY st1 (k:=2) rfl) trivial (VC.fa Iz (DN (k:=1) (f':={f1 with alt:=f1.meet}) st1 ct3 (by decide) rfl rfl fun G5 sg5 ja=>(VC.fa Dp (DN (k:=2) (f':={f1 with alt:=f1.meet,meet:= -1}) sg5 ct3 (by decide) rfl rfl fun G6 sg6 ja=>?_)))));(conv=>whnf);rw [e];exact⟨_,_,sg6⟩
 ·have d2:decide (f1.alt<0)=false:=decide_eq_false h2;have e:D1 ds f=(ds1++[Ax 3 f1.alt f1.meet],{f1 with alt:=(ds1.length:Int),meet:= -1}):=by rw [e0];unfold LV;rw [if_neg h2]
  (conv=>whnf);rw [d2];refine As.heldZ (fun k=>k=fb) [13] (sq [0,1,2,3,4,5,6,7,8,9] (.f 10 (sq [11,12] (.f 13 .e)))) rfl (by kernel_rfl) (VC.fa Iz (ld1 (v:=.int .i64 f1.alt) ct3 (AY st1 (k:=1) rfl) rfl (VC.fa Dp (ld1 (v:=.int .i64 f1.meet) ct3 (AY st1 (k:=2) rfl) rfl ?_))));refine Ai.mk (Hv (op:=3) st1 (by unfold A9;omega) hn1.alt hn1.meet (by omega)) ?_;rintro _ G1 ⟨rfl,af,na1,nc1,sg1⟩;refine⟨af,?_⟩;refine VC.fa Iz (DN (k:=1) (f':={f1 with alt:=(ds1.length:Int)}) sg1 ct3 (by decide) rfl rfl fun G2 sg2 ja=>(VC.fa Dp (DN (k:=2) (f':={f1 with alt:=(ds1.length:Int),meet:= -1}) sg2 ct3 (by decide) rfl rfl fun G6 sg6 ja=>?_)));(conv=>whnf);rw [e];exact⟨_,_,sg6⟩
end
theorem vbt{kk:IntKind}{i:Nat}{t:ByteArray}{S:Nat→Prop}{H:Aa}{K:Value→Prop}(hi:i<t.size)(k:K (.int .u8 (bt t i:Int))):AB Tryz.prog (Instr.index 9 (.string t) (.int kk (i:Int))) S H K:=by
 obtain⟨b,h1,h2,h3⟩:=CI hi;refine CS E7 rfl h1 ?_;rw [←h2];exact k
theorem Ph(c:Nat)(H:Aa):Bv Tryz.prog 29 #[.int .u8 (c:Int)] H (.bool (E6 c)):=by
 refine Ao.of_vc Tryz.func29 rfl (Tryz.call29 _) ?_;(conv=>whnf);by_cases h42:c=42
 ·have d:((c:Int)==42)=true:=by rw [h42];rfl
  (conv=>whnf);rw [d];(conv=>whnf);refine⟨?_,Agr.refl _ _⟩;rw [h42];rfl
 ·have d:((c:Int)==42)=false:=DY h42;(conv=>whnf);rw [d];clear d;by_cases h43:c=43
  ·have d:((c:Int)==43)=true:=by rw [h43];rfl
   (conv=>whnf);rw [d];(conv=>whnf);refine⟨?_,Agr.refl _ _⟩;rw [h43];rfl
  ·have d:((c:Int)==43)=false:=DY h43;(conv=>whnf);rw [d];clear d;by_cases h63:c=63
   ·have d:((c:Int)==63)=true:=by rw [h63];rfl
    (conv=>whnf);rw [d];(conv=>whnf);refine⟨?_,Agr.refl _ _⟩;rw [h63];rfl
   ·have d:((c:Int)==63)=false:=DY h63;(conv=>whnf);rw [d];clear d;by_cases h123:c=123
    ·have d:((c:Int)==123)=true:=by rw [h123];rfl
     (conv=>whnf);rw [d];(conv=>whnf);refine⟨?_,Agr.refl _ _⟩;rw [h123];rfl
    ·have d:((c:Int)==123)=false:=DY h123;(conv=>whnf);rw [d];clear d;(conv=>whnf);refine⟨?_,Agr.refl _ _⟩;rw [Il h42 h43 h63 h123]
theorem Jf{i:Nat}{t:ByteArray}(H:Aa):Bv Tryz.prog 54 #[.string t,.int .i64 (i:Int)] H (.bool (Do t i)):=by
 refine Ao.of_vc Tryz.func54 rfl (Tryz.call54 _) ?_;by_cases hi:i<t.size
 ·have d1:decide ((i:Int)<(t.size:Int))=true:=decide_eq_true (by omega);(conv=>whnf);rw [d1];refine vbt hi ?_;by_cases h2:48≤bt t i
  ·have d2:decide (48≤((bt t i:Nat):Int))=true:=decide_eq_true (by omega);(conv=>whnf);rw [d2];refine vbt hi ?_;(conv=>whnf);refine⟨?_,Agr.refl _ _⟩
   congr 1
   unfold Do;rw [decide_eq_decide];omega
  ·have d2:decide (48≤((bt t i:Nat):Int))=false:=decide_eq_false (by omega);(conv=>whnf);rw [d2];(conv=>whnf);refine⟨?_,Agr.refl _ _⟩
   congr 1
   exact(decide_eq_false fun h=>h2 h.1).symm
 ·have d1:decide ((i:Int)<(t.size:Int))=false:=decide_eq_false (by omega);(conv=>whnf);rw [d1];(conv=>whnf);refine⟨?_,Agr.refl _ _⟩
  congr 1
  exact(decide_eq_false fun h=>by have:=Cb hi;omega).symm
def frZ:List Value:=[.int .i64 0,.int .i64 0,.int .i64 0,.int .u8 0,.int .i64 0,.int .i64 0]
theorem TS:(Tryz.prog.info? 85).bind (·.zero)=some (.agg frZ.toArray):=by kernel_rfl
def frO(p:Int):List Value:=[.int .i64 p,.int .i64 (-1),.int .i64 (-1),.int .u8 0,.int .i64 (-1),.int .i64 (-1)]
theorem Qp(p:Int)(H:Aa):Ao Tryz.prog 28 #[.int .i64 p] H fun v H'=>v= .agg (frO p).toArray∧Agr (Old H) H H':=by
 refine Ao.of_vc Tryz.func28 rfl (Tryz.call28 _) (Ag (.agg frZ.toArray) frZ TS rfl ?_);intro q H1 hq hs1 hb1 ha1;refine Av Tryz.underlying85 rfl (.agg frZ.toArray) TS (frO p) rfl (VC.stN (cs:=frO p) rfl hb1 (UQ _) rfl ?_);intro H2 hb2 ha2 hs2;rw [A8 (show(frO p).length=frZ.length from rfl)]at hb2;refine ldN (cs:=frO p) U1 (hb2.cells fun j v hv=>by rw [UM];exact hv) trivial ?_;exact⟨rfl,(ha1.mono fun k hk=>by have:k<H.size:=hk;have:q=H.size:=hq;omega).trans (ha2.mono fun k hk=>by have:k<H.size:=hk;have:q=H.size:=hq;omega)⟩
end Go.Proofs.YtlnmhfhdjnenoaaGreatDoor
