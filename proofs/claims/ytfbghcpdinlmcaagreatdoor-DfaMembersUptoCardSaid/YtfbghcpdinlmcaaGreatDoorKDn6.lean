/- Parts of the proof: PPa8, PDp7, PDp8, PDp9, PDp10, PDp11 -/
import Derived.Test.YtfbghcpdinlmcaaGreatDoorKDn5
set_option maxHeartbeats 64000000
open Bool renaming and_eq_true → AaA
open Int renaming toNat_natCast → AaI, toNat_of_nonneg → AaU
open List renaming length_append → Aa0, length_singleton → Aa1, append_assoc → Aa4, append_sublist_append_left → Aa5, getElem?_set_self → Aa6, all_eq_true → Aa7, getElem?_append_right → Aa8, length_set → Aa9, nil_sublist → AaC, getElem?_eq_some_iff → AaD, mem_singleton → AaE, append_nil → AaF, getElem?_append_left → AaH, size_toArray → AaJ, set_set → AaK, toList_toArray → AaL, replicate → AaM, getElem?_take → AaN, take_length_add_append → AaO, drop_length_add_append → AaP, getElem?_map → AaQ, getElem?_replicate → AaR, mem_append → AaS, length_cons → AaV
open Nat renaming zero_add → Aa2, le_refl → Aa3, mul_one → AaB, zero_le → AaG, mul_le_mul → AaT
set_option linter.unusedVariables false
set_option linter.unusedSimpArgs false
set_option maxRecDepth 100000
namespace Go.VC
theorem StB.capT{α:Type}{T:Ty α}{S:Nat→Prop}{B:Nat→Prop}{H0 H:Aa}{ps:List Pc}{e:TypeId}{a:Option Addr}{n cap:Nat}{xs:List α}(st:StB B H0 H ps)(i:Nat)(hp:ps[i]? =some (pN T S e a n cap xs)):xs.length≤cap:=by
 obtain⟨cs,⟨h0,h1⟩,h2⟩:=(st.at_ i hp).1;rcases h1 with⟨h1,h3⟩ | ⟨b,cap',l,h1,h4,h5,h6,h7,h8,h9⟩
 ·rw [h3];exact AaG _
 ·cases h1;omega
theorem StB.popT{α:Type}{T:Ty α}{B:Nat→Prop}{H0 H:Aa}{ps:List Pc}{e:TypeId}{a:Option Addr}{n cap:Nat}{xs:List α}{x:α}(st:StB B H0 H ps)(i:Nat)(hp:ps[i]? =some (pS T e a n cap (xs++[x]))):StB B H0 H (ps.set i (pS T e a xs.length cap xs)):=by
 have hown:=(st.at_ i hp).1;refine st.say i hp _ ⟨hown.pop,fun k hk=>hk.elim⟩ fun k hk=>?_;rcases hk with⟨o,m,c,hk⟩ | hk
 ·injection hk with e1 e2 e3
  subst e1;exact .inl ⟨o,n,cap,rfl⟩
 ·exact hk.elim
theorem Blk.ne{H:Aa}{b b':Nat}{e e':TypeId}{l l':List Value}(h:Blk H b e l)(h':Blk H b' e' l')(he:e≠e'):b≠b':=by
 rintro rfl;have e1:=Option.some.inj (h.symm.trans h');injection e1 with _ e2 _
 exact he e2
end Go.VC
namespace Go.Proofs.YtfbghcpdinlmcaaGreatDoor
open Go.VC Go.Lib
section
variable{t:ByteArray}{i:Nat}{f:AF}{fs:List AF}
theorem LE(h:bt t i=40)(hl:fs.length<1000):BO t ⟨i,f,fs⟩= .inr ⟨i+1,DR i,A0 f::fs⟩:=by
 unfold BO;simp only [h];rw [if_neg (by decide),if_neg (by decide),if_neg (by decide),if_neg (by decide),if_pos trivial,if_neg (by omega)]
theorem LD(h:bt t i=40)(hl:1000≤fs.length):BO t ⟨i,f,fs⟩= .inl (23,i):=by
 unfold BO;simp only [h];rw [if_neg (by decide),if_neg (by decide),if_neg (by decide),if_neg (by decide),if_pos trivial,if_pos hl]
theorem Ke{g:AF}(h:bt t i=41):BO t ⟨i,f,g::fs⟩= .inr ⟨i+1,{g with factor:=(Cr f).alt},fs⟩:=by
 unfold BO;simp only [h];rw [if_neg (by decide),if_neg (by decide),if_neg (by decide),if_pos trivial]
theorem Jl(h:bt t i=41):BO t ⟨i,f,[]⟩= .inl (20,i):=by
 unfold BO;simp only [h];rw [if_neg (by decide),if_neg (by decide),if_neg (by decide),if_pos trivial]
theorem M7(h:bt t i=124):BO t ⟨i,f,fs⟩= .inr ⟨i+1,Cr f,fs⟩:=by
 unfold BO;simp only [h];rw [if_neg (by decide),if_pos trivial]
theorem Gy(h:bt t i=38∨bt t i=45):BO t ⟨i,f,fs⟩= .inr ⟨i+1,{BY f with sign:=bt t i},fs⟩:=by
 unfold BO;rcases h with h | h<;>(simp only [h];rw [if_neg (by decide),if_neg (by decide),if_pos (by decide)])
theorem E3(h:EF (bt t i)=true)(hf:f.factor=none):BO t ⟨i,f,fs⟩= .inl (20,i):=by
 unfold BO;simp only [hf];rw [if_pos h]
def Lt(c:Nat):Prop:=c≠124∧c≠38∧c≠45∧c≠41∧EF c=false
theorem M8(h:Lt (bt t i))(h40:bt t i≠40){x:BitVec 256}{k:Nat}(hr:Bo t i= .inr (x,k)):BO t ⟨i,f,fs⟩= .inr ⟨k,{A0 f with factor:=some (.cls x)},fs⟩:=by
 unfold BO;simp only [hr];rw [if_neg (by rw [h.2.2.2.2];decide),if_neg h.1,if_neg (by rintro(e | e);exact h.2.1 e;exact h.2.2.1 e),if_neg h.2.2.2.1,if_neg h40]
theorem LC(h:Lt (bt t i))(h40:bt t i≠40){e:Nat}(hr:Bo t i= .inl e):BO t ⟨i,f,fs⟩= .inl (10,e):=by
 unfold BO;simp only [hr];rw [if_neg (by rw [h.2.2.2.2];decide),if_neg h.1,if_neg (by rintro(e | e);exact h.2.1 e;exact h.2.2.1 e),if_neg h.2.2.2.1,if_neg h40]
theorem VP{e:Nat}(h:Ga t i= .inl e):e≤i+2:=by
 unfold Ga at h;split at h
 ·cases h;omega
 ·split at h
  ·cases h
  ·split at h
   ·cases h
   ·split at h
    ·cases h
    ·split at h
     ·split at h
      ·cases h;omega
      ·split at h
       ·cases h;omega
       ·cases h
     ·split at h
      ·cases h;omega
      ·cases h
theorem N6{u:ByteArray}{e:Nat}(h:Bl t u i= .inl e):e≤i+3:=by
 unfold Bl at h;split at h
 ·have:=VP h;omega
 ·split at h
  ·cases h;omega
  ·cases h
theorem Nz:∀{n i e:Nat} {x:BitVec 256},CG t n i x= .inl e→i≤t.size+2→e≤t.size+6
 | 0,i,e,x,h,hi=>by cases h;omega
 | n+1,i,e,x,h,hi=>by
   unfold CG at h;split at h
   ·cases h
   ·split at h
    ·rename_i e1 h1;cases h;have:=N6 h1;omega
    ·rename_i lo j h1;have:=CL h1;unfold FY at h;split at h
     ·split at h
      ·rename_i e2 h2;cases h;have:=N6 h2;omega
      ·rename_i hi2 k2 h2;have:=CL h2;split at h
       ·cases h;omega
       ·exact Nz h (by omega)
     ·exact Nz h (by omega)
theorem LF{e:Nat}(h:Bo t i= .inl e)(hi:i<t.size):e≤t.size+6:=by
 unfold Bo at h;split at h
 ·cases h
 ·split at h
  ·unfold GW at h;split at h
   ·rename_i e1 h1;cases h;exact Nz h1 (by split<;>omega)
   ·cases h
  ·split at h
   ·rename_i e1 h1;cases h;have:=N6 h1;omega
   ·cases h
end
abbrev tPl:Ty Int:=HT .i64
abbrev sP(s:Nat)(t:ByteArray)(i:Nat)(a:Option Addr)(n cap:Nat)(os:List Int)(ps:List Pc):List Pc:=pSc s t i (.slice a n cap)::pS tPl 3 a n cap os::ps
structure Sc(B:Nat→Prop)(H:Aa)(s:Nat)(t:ByteArray)(i:Nat)(os:List Int)(ps:List Pc):Prop where
 ex:∃a n cap,StB B H H (sP s t i a n cap os ps)
structure SR(B:Nat→Prop)(H:Aa)(s:Nat)(t:ByteArray)(j:Nat)(os:List Int)(ps:List Pc)(r:ReM)(v:Value)(H':Aa):Prop where
 ex:∃(B':Nat→Prop) (fn:Value),v= .agg (Ab r fn).toArray∧(∀k,B k→B' k)∧Agr B H H'∧Sc B' H' s t j os ps∧Cq B' H' fn r
structure SE(B:Nat→Prop)(H:Aa)(t:ByteArray)(st:RdS)(x:Value)(H':Aa):Prop where
 ex:∃c p:Nat,BE t st= .inl (c,(p:Int))∧x=D5 c p∧Agr B H H'
theorem SE.from{B B':Nat→Prop}{H H1 H':Aa}{t:ByteArray}{st st':RdS}{x:Value}(h:SE B' H1 t st' x H')(hp:BE t st=BE t st')(ha:Agr B H H1)(hs:∀k,B k→B' k):SE B H t st x H':=by
 obtain⟨c,p,h1,h2,h3⟩:=h;exact⟨c,p,hp.trans h1,h2,ha.trans fun k hk=>h3 k (hs k hk)⟩
def IC(t:ByteArray)(i:Nat):Prop:=∀(B:Nat→Prop) (H:Aa) (s:Nat) (os:List Int) (ps:List Pc) (f:AF) (fs:List AF),Fx H→B 0→i≤t.size→os.length=fs.length→fs.length≤1000→
 f.alt=none→f.meet=none→f.row=none→f.factor=none→Sc B H s t i os ps→
 BC Tryz.prog 72 #[.pointer (some ⟨s,0,none⟩)] H
  (fun v H'=>∃j f' r,i≤j∧j≤t.size∧(j=t.size∨bt t j=41)∧BE t ⟨i,f,fs⟩=BE t ⟨j,f',fs⟩∧(Cr f').alt=some r∧f'.place=f.place∧SR B H s t j os ps r v H')
  (fun x H'=>SE B H t ⟨i,f,fs⟩ x H')
theorem KH{x:Int}(h:inK .i64 x):(Lit.int .i64 x).wf=true:=by
 unfold Lit.wf;simp only [AaA,decide_eq_true_eq];exact h
def Iz(c e:Nat):List Lit:=[.int .i64 (c:Int),.int .i64 (e:Int),.string []]
theorem R5{c e:Nat}(hc:c<9223372036854775808)(he:e<9223372036854775808):Tryz.prog.keyLits 3 68 (An c e)=some (Iz c e):=by
 have c0:Tryz.prog.cellsOf 68=3:=by kernel_rfl
 have c1:Tryz.prog.cellsOf 24=1:=by kernel_rfl
 have c2:Tryz.prog.cellsOf 3=1:=by kernel_rfl
 have c3:Tryz.prog.cellsOf 9=1:=by kernel_rfl
 have h0:(0:Nat)≤maxLen:=AaG _;have h00:(⟨#[]⟩:ByteArray).size≤maxLen:=AaG _;simp [Program.keyLits,Tryz.underlying68,Tryz.underlying24,Tryz.underlying3,Tryz.underlying9,c0,c1,c2,c3,An,Iz,h00,KH (Bs hc),KH (Bs he)]
theorem Qd{c e c' e':Nat}:decide (c=c'∧e=e')=true↔Iz c e=Iz c' e':=by
 unfold Iz;rw [decide_eq_true_eq];constructor
 ·rintro⟨rfl,rfl⟩;rfl
 ·intro h;simp only [List.cons.injEq,Lit.int.injEq,true_and,and_true]at h;exact⟨by omega,by omega⟩
theorem XA{c e c' e':Nat}(hc:c<9223372036854775808)(he:e<9223372036854775808)(hc':c'<9223372036854775808)(he':e'<9223372036854775808){x y:Operand}{S:Nat→Prop}{H:Aa}{K:Value→Prop}(k:K (.bool (!decide (c=c'∧e=e')))):
  AH Tryz.prog (do eqGuard .neq 68 x y (.agg (An c e).toArray) (.agg (An c' e').toArray);binOp .neq 68 (.agg (An c e).toArray) (.agg (An c' e').toArray)) S H K:=
 Zr (m:=3) (la:=Iz c e) (lb:=Iz c' e') (by kernel_rfl) (by decide) (Tryz.eqGuardType68) rfl rfl (R5 hc he) (R5 hc' he') Qd k
theorem Xt{B:Nat→Prop}{H:Aa}{s i:Nat}{t:ByteArray}{os:List Int}{ps:List Pc}{f:AF}{fs:List AF}(hE:Fx H)(hEB:B 0)(ht:t.size≤1048576)(hi:i<t.size)(hos:os.length=fs.length)(hfs:fs.length≤1000)
  (hfb:Lt (bt t i)) (IH:∀i',i<i'→IC t i') (sc:Sc B H s t i os ps):
  BC Tryz.prog 193 #[.pointer (some ⟨s,0,none⟩)] H
   (fun v H'=>∃j r,i<j∧j≤t.size∧BE t ⟨i,f,fs⟩=BE t ⟨j,{A0 f with factor:=some r},fs⟩∧SR B H s t j os ps r v H')
   (fun x H'=>SE B H t ⟨i,f,fs⟩ x H'):=by
 obtain⟨a,n,cap,st⟩:=sc;refine BC.of_vc Tryz.func193 rfl (Tryz.call193 _) (Ak (.agg Aj.toArray) Aj CM rfl ?_);intro q2 H1 hq1 hs1 hb1 ha1;have st1:=st.box hq1 hs1 hb1 ha1;refine Ah.of (Ao (Df (st1.blk 0 rfl) hi) fun H2 ha2=>?_);have st2:=st1.call ha2;by_cases h40:bt t i=40
 ·have d1:(((bt t i:Nat):Int) != 40)=false:=by rw [h40];rfl
  (conv=>whnf);rw [d1];obtain rfl:n=os.length:=st2.len 1 rfl;replace st2:StB B H H2 (sP s t i a os.length cap os ps++[pB 142 q2 Aj]):=st2;refine AQ.run (VC.fa F6 ?_);refine ld1 (v:=.slice a os.length cap) CW (by rw [(st2.blk 0 rfl).cell];rfl) trivial ?_;by_cases hd:1000≤fs.length
  ·have d2:decide (1000≤(os.length:Int))=true:=decide_eq_true (by omega);(conv=>whnf);rw [d2];refine VC.fa AC ?_;refine ld1 (v:=.int .i64 ((i:Nat):Int)) ct3 (by rw [(st2.blk 0 rfl).cell];rfl) trivial ?_;refine Ah.mk (CC (c:=23) (e:=i)) (fun _ _ h=>h.elim) ?_;rintro _ _ ⟨rfl,rfl⟩;exact⟨23,i,DS hi (LD h40 hd),rfl,st2.old⟩
  ·have d2:decide (1000≤(os.length:Int))=false:=decide_eq_false (by omega);(conv=>whnf);rw [d2];refine Ce.of (Ar.heldZ (fun k=>k=s) [13] (sq [0,1,2,3,4,5,6,7,8] (.f 9 (.f 10 (sq [11,12] (.f 13 .e))))) rfl (by kernel_rfl) (VC.fa F6 ?_));refine ld1 (v:=.slice a os.length cap) CW (by rw [(st2.blk 0 rfl).cell];rfl) rfl ?_;refine VC.fa AC ?_;refine ld1 (v:=.int .i64 (i:Int)) ct3 (by rw [(st2.blk 0 rfl).cell];rfl) rfl ?_;refine A2 AL [.int .i64 (i:Int)] rfl rfl (by decide) (by decide) ?_;intro q3 H3 hq3 hs3 hb3 ha3;have st3:=st2.skip hq3 ha3;refine⟨fun k hk=>by rw [show k=s from hk];exact(st3.blk 0 rfl).trans (st2.blk 0 rfl).symm,?_⟩;refine KY (x:=(i:Int)) st3 1 AL rfl hb3 ⟨rfl,Bs (by omega)⟩ rfl (by omega) (by decide) fun a4 cap4 H4 st4 ha4=>?_;refine⟨fun k hk=>by rw [show k=s from hk];exact(st4.blk 0 rfl).trans (st2.blk 0 rfl).symm,?_⟩;refine VC.fa F6 (AT st4 0 CW rfl (by simp) rfl fun H5 st5=>?_);replace st5:StB B H H5 (sP s t i a4 (os.length+1) cap4 (os++[(i:Int)]) ps++[pB 142 q2 Aj]):=st5;refine VC.fa AC ?_;refine ld1 (v:=.int .i64 ((i:Nat):Int)) ct3 (by rw [(st5.blk 0 rfl).cell];rfl) trivial ?_;(conv=>whnf);rw [w64 (x:=((i:Nat):Int)+1) (by omega) (by omega)];refine VC.fa AC (AT st5 0 ct3 rfl (by simp) rfl fun H6 st6=>?_);replace st6:StB B H H6 (sP s t (i+1) a4 (os.length+1) cap4 (os++[(i:Int)]) ps++[pB 142 q2 Aj]):=st6;have hpo:BE t ⟨i,f,fs⟩=BE t ⟨i+1,DR i,A0 f::fs⟩:=DA hi (LE h40 (by omega));refine Ah.mk (IH (i+1) (by omega) B H6 s (os++[(i:Int)]) (ps++[pB 142 q2 Aj]) (DR i) (A0 f::fs) (It hE hEB st6) hEB (by omega) (by simp;omega) (by simp;omega) rfl rfl rfl rfl ⟨a4,_,cap4,st6.rebase⟩) ?_ ?_
   rotate_left
   ·intro x H7 h;exact h.from hpo st6.old fun k hk=>hk
   rintro _ H7 ⟨j,f',r,hij,hj,hend,hpr,hcl,hpl,⟨B1,f1,rfl,s1,a7,⟨a2,n2,cap2,st7⟩,gv⟩⟩;obtain⟨g1,c1,rfl⟩:=gv.fn;have hn2:n2=os.length+1:=by have:=st7.len 1 rfl;rw [this];simp
   subst hn2;replace st7:StB B1 H7 H7 (sP s t j a2 (os.length+1) cap2 (os++[(i:Int)]) ps++[pB 142 q2 Aj]):=st7;have a07:Agr B H H7:=st6.old.trans a7;refine Ak (.agg Aj.toArray) Aj CM rfl ?_;intro q6 H8 hq8 hs8 hb8 ha8;have st8:=st7.box hq8 hs8 hb8 ha8;rw [Aa4]at st8;refine Bf (cs:=Ab r (.func (.func g1) #[] c1)) st8 _ rfl (lgR _ _ 1) (by simp [Ab,Aj]) rfl fun H9 st9 ja9 js9=>?_;rw [lsR,Cd rfl]at st9;replace st9:StB B1 H7 H9 (sP s t j a2 (os.length+1) cap2 (os++[(i:Int)]) ps++[pB 142 q2 Aj,pB 142 q6 (Ab r (.func (.func g1) #[] c1))]):=st9;refine AQ.run (Ah.of (Ao (Ep (st9.blk 0 rfl)) fun H10 ha10=>?_));have st10:=st9.call ha10;have a10:Agr B H H10:=a07.trans fun k hk=>st10.old k (s1 k hk);by_cases hjt:j<t.size
   ·rw [decide_eq_false (show¬t.size≤j by omega)];have h41:bt t j=41:=by rcases hend with h | h;omega;exact h
    (conv=>whnf);refine VC.fa AC ?_;refine ld1 (v:=.int .i64 ((j:Nat):Int)) ct3 (by rw [(st10.blk 0 rfl).cell];rfl) trivial ?_;(conv=>whnf);rw [w64 (x:=((j:Nat):Int)+1) (by omega) (by omega)];refine VC.fa AC (AT st10 0 ct3 rfl (by simp) rfl fun H11 st11=>?_);replace st11:StB B1 H7 H11 (sP s t (j+1) a2 (os.length+1) cap2 (os++[(i:Int)]) ps++[pB 142 q2 Aj,pB 142 q6 (Ab r (.func (.func g1) #[] c1))]):=st11;have hcap:=st11.capT 1 rfl;rw [Aa0,Aa1]at hcap;refine Ce.of (Ar.heldZ (fun k=>k=s) [14] (sq [0,1,2,3,4,5,6,7,8,9,10,11,12,13] (.f 14 .e)) rfl (by kernel_rfl) (VC.fa F6 ?_));refine ld1 (v:=.slice a2 (os.length+1) cap2) CW (by rw [(st11.blk 0 rfl).cell];rfl) rfl ?_;refine VC.fa F6 ?_;refine ld1 (v:=.slice a2 (os.length+1) cap2) CW (by rw [(st11.blk 0 rfl).cell];rfl) rfl ?_;(conv=>whnf);rw [w64 (x:=((os.length+1:Nat):Int) - 1) (by omega) (by omega)];rw [show((os.length+1:Nat):Int) - 1=(os.length:Int) by omega];refine Si AL (by omega) (by omega) (VC.fa F6 ?_);have st12:=st11.popT 1 rfl;refine AT st12 0 CW rfl (by simp) rfl fun H13 st13=>?_;rw [AaI]at st13;replace st13:StB B1 H7 H13 (sP s t (j+1) a2 os.length cap2 os ps++[pB 142 q2 Aj,pB 142 q6 (Ab r (.func (.func g1) #[] c1))]):=st13;refine ldN (cs:=Ab r (.func (.func g1) #[] c1)) AO (Au (st13.blk _ (lgR _ _ 1))) trivial (Bf (cs:=Ab r (.func (.func g1) #[] c1)) st13 _ rfl (lgR _ _ 0) (by simp [Ab,Aj]) rfl fun H14 st14 ja14 js14=>?_);rw [lsR,Cd rfl]at st14;refine ldN (cs:=Ab r (.func (.func g1) #[] c1)) AO (Au (st14.blk _ (lgR _ _ 0))) trivial (⟨j+1,r,by omega,by omega,?_,B1,_,rfl,s1,a07.trans fun k hk=>st14.old k (s1 k hk),⟨a2,_,cap2,st14.lft.rebase⟩,gv.frame st14.old fun k hk=>hk⟩);rw [hpo,hpr,DA (s:=⟨j,f',A0 f::fs⟩) hjt (Ke h41),hcl]
   ·rw [decide_eq_true (show t.size≤j by omega)];refine Ce.held (Old H10) [] (sq [0,1,2,3,4,5,6,7,8,9,10,11,12] (.f 13 .e)) (CQ _ _) rfl (by kernel_rfl) (VC.fa F6 ?_);refine ld1 (v:=.slice a2 (os.length+1) cap2) CW (by rw [(st10.blk 0 rfl).cell];rfl) (st10.blk 0 rfl).lt ?_;refine VC.fa F6 ?_;refine ld1 (v:=.slice a2 (os.length+1) cap2) CW (by rw [(st10.blk 0 rfl).cell];rfl) (st10.blk 0 rfl).lt ?_;(conv=>whnf);rw [w64 (x:=((os.length+1:Nat):Int) - 1) (by omega) (by omega)];rw [show((os.length+1:Nat):Int) - 1=(os.length:Int) by omega];refine ixO (j:=os.length) (x:=(i:Int)) AL st10 1 rfl (by simp) rfl fun b5 o5 cs5 hO5 hc5 hr5=>?_;obtain⟨rfl,-⟩:=hr5;refine ld1 (v:=.int .i64 (i:Int)) ct3 hc5.one hO5 (Ah.mk (CC (c:=21) (e:=i)) (fun _ _ h=>h.elim) ?_);rintro _ _ ⟨rfl,rfl⟩;refine⟨21,i,?_,rfl,a10⟩;rw [hpo,hpr,LB (s:=⟨j,f',A0 f::fs⟩) hjt];show Sum.inl (21,f'.place)=_;rw [hpl];rfl
 ·have d1:(((bt t i:Nat):Int) != 40)=true:=bne_iff_ne.2 (by omega);(conv=>whnf);rw [d1];obtain⟨X,j,c0,e0,hX,hc0,he0,hj⟩:∃(X:BitVec 256) (j c0 e0:Nat),(∀v,KV t i v→v= .tuple #[Bm X,.int .i64 (j:Int),Ej c0 e0])∧c0≤10∧e0≤t.size+10∧(Bo t i= .inl e0∧c0=10∨Bo t i= .inr (X,j)∧c0=0∧e0=0):=by
   cases hr:Bo t i with
   | inl e=>exact⟨0,0,10,e,fun v hv=>by unfold KV at hv;rw [hr]at hv;exact hv,by omega,by have:=LF hr hi;omega,.inl ⟨rfl,rfl⟩⟩
   | inr y=>exact⟨y.1,y.2,0,0,fun v hv=>by unfold KV at hv;rw [hr]at hv;exact hv,by omega,by omega,.inr ⟨rfl,rfl,rfl⟩⟩
  have sx0:StB B H H2 (sP s t i a n cap os ps++[pB 142 q2 Aj]):=st2;refine Ce.of (Ar.cut [3,4,5] (fun x:Nat×Nat=>match x with | (q3,q5)=>[.pointer (some ⟨q3,0,none⟩),.int .i64 (j:Int),.pointer (some ⟨q5,0,none⟩)]) (fun x G=>match x with | (q3,q5)=>StB B H G (sP s t i a n cap os ps++[pB 142 q2 Aj])∧Blk G q3 101 (Af X)∧Blk G q5 68 (An c0 e0)) ?_ ?_)
  ·refine Ar.held3 (fun k=>k=s) (sq3 [0,1,2,3,4,5,6,7] (.t 8 (sq3 [9,10,11,12] (.b 13 (.f 14 (.f 15 (.q 16 (.f 17 .e)))) 14 (.f 13 (.f 15 (.q 16 (.f 17 .e)))))) 13 (.b 8 (sq3 [9,10,11,12] (.f 14 (.f 15 (.q 16 (.f 17 .e))))) 14 (.f 8 (sq3 [9,10,11,12] (.f 15 (.q 16 (.f 17 .e)))))) 14 (.b 8 (sq3 [9,10,11,12] (.f 13 (.f 15 (.q 16 (.f 17 .e))))) 13 (.f 8 (sq3 [9,10,11,12] (.f 15 (.q 16 (.f 17 .e)))))))) rfl (by kernel_rfl) (VC.fa K6 ?_);refine ld1 (v:=.string t) ct9 (by rw [(st2.blk 0 rfl).cell];rfl) rfl ?_;refine VC.fa AC ?_;refine ld1 (v:=.int .i64 (i:Int)) ct3 (by rw [(st2.blk 0 rfl).cell];rfl) rfl ?_;(conv=>whnf);refine⟨?_,?_,?_⟩
   ·refine Ag.mk (Ey (It hE hEB sx0) (by omega) hi) ?_;rintro _ J1 ⟨ag0,hR⟩;obtain rfl:=hX _ hR;have sx1:=sx0.call ag0;refine⟨fun k hk=>by rw [show k=s from hk];exact(sx1.blk 0 rfl).trans (st2.blk 0 rfl).symm,?_⟩;(conv=>whnf);refine⟨?_,?_⟩
    ·refine Ak (Bm 0) (Af 0) rfl rfl ?_;intro q3 J2 gq1 gs1 gb1 ga1;have sx2:=sx1.box gq1 gs1 gb1 ga1;rw [Aa4]at sx2;replace sx2:StB B H J2 (sP s t i a n cap os ps++[pB 142 q2 Aj,pB 101 q3 (Af 0)]):=sx2;refine⟨fun k hk=>by rw [show k=s from hk];exact(sx2.blk 0 rfl).trans (st2.blk 0 rfl).symm,?_⟩;(conv=>whnf);refine Ak (Ej 0 0) (An 0 0) rfl rfl ?_;intro q5 J3 gq2 gs2 gb2 ga2;have sx3:=sx2.box gq2 gs2 gb2 ga2;rw [Aa4]at sx3;replace sx3:StB B H J3 (sP s t i a n cap os ps++[pB 142 q2 Aj,pB 101 q3 (Af 0),pB 68 q5 (An 0 0)]):=sx3;refine⟨fun k hk=>by rw [show k=s from hk];exact(sx3.blk 0 rfl).trans (st2.blk 0 rfl).symm,?_⟩;(conv=>whnf);refine AI (cs:=Af X) sx3 _ rfl (lgR _ _ 1) (Aa3 _) rfl fun J4 sx4=>?_;rw [lsR]at sx4;have e4:Ae (Af 0) 0 (Af X)=Af X:=A8 rfl;replace sx4:StB B H J4 (sP s t i a n cap os ps++[pB 142 q2 Aj,pB 101 q3 (Ae (Af 0) 0 (Af X)),pB 68 q5 (An 0 0)]):=sx4;rw [e4]at sx4;refine⟨fun k hk=>by rw [show k=s from hk];exact(sx4.blk 0 rfl).trans (st2.blk 0 rfl).symm,?_⟩;refine AI (cs:=An c0 e0) sx4 _ rfl (lgR _ _ 2) (Aa3 _) rfl fun J5 sx5=>?_;rw [lsR]at sx5;have e5:Ae (An 0 0) 0 (An c0 e0)=An c0 e0:=A8 rfl;replace sx5:StB B H J5 (sP s t i a n cap os ps++[pB 142 q2 Aj,pB 101 q3 (Af X),pB 68 q5 (Ae (An 0 0) 0 (An c0 e0))]):=sx5;rw [e5]at sx5;refine⟨fun k hk=>by rw [show k=s from hk];exact(sx5.blk 0 rfl).trans (st2.blk 0 rfl).symm,?_⟩;(conv=>whnf);exact⟨rfl,(q3,q5),rfl,sx5.subl ((Aa5 _).2 (List.Sublist.cons_cons _ (AaC _))),sx5.blk _ (lgR _ _ 1),sx5.blk _ (lgR _ _ 2)⟩
    ·refine Ak (Ej 0 0) (An 0 0) rfl rfl ?_;intro q5 J2 gq1 gs1 gb1 ga1;have sx2:=sx1.box gq1 gs1 gb1 ga1;rw [Aa4]at sx2;replace sx2:StB B H J2 (sP s t i a n cap os ps++[pB 142 q2 Aj,pB 68 q5 (An 0 0)]):=sx2;refine⟨fun k hk=>by rw [show k=s from hk];exact(sx2.blk 0 rfl).trans (st2.blk 0 rfl).symm,?_⟩;(conv=>whnf);refine Ak (Bm 0) (Af 0) rfl rfl ?_;intro q3 J3 gq2 gs2 gb2 ga2;have sx3:=sx2.box gq2 gs2 gb2 ga2;rw [Aa4]at sx3;replace sx3:StB B H J3 (sP s t i a n cap os ps++[pB 142 q2 Aj,pB 68 q5 (An 0 0),pB 101 q3 (Af 0)]):=sx3;refine⟨fun k hk=>by rw [show k=s from hk];exact(sx3.blk 0 rfl).trans (st2.blk 0 rfl).symm,?_⟩;(conv=>whnf);refine AI (cs:=Af X) sx3 _ rfl (lgR _ _ 2) (Aa3 _) rfl fun J4 sx4=>?_;rw [lsR]at sx4;have e4:Ae (Af 0) 0 (Af X)=Af X:=A8 rfl;replace sx4:StB B H J4 (sP s t i a n cap os ps++[pB 142 q2 Aj,pB 68 q5 (An 0 0),pB 101 q3 (Ae (Af 0) 0 (Af X))]):=sx4;rw [e4]at sx4;refine⟨fun k hk=>by rw [show k=s from hk];exact(sx4.blk 0 rfl).trans (st2.blk 0 rfl).symm,?_⟩;refine AI (cs:=An c0 e0) sx4 _ rfl (lgR _ _ 1) (Aa3 _) rfl fun J5 sx5=>?_;rw [lsR]at sx5;have e5:Ae (An 0 0) 0 (An c0 e0)=An c0 e0:=A8 rfl;replace sx5:StB B H J5 (sP s t i a n cap os ps++[pB 142 q2 Aj,pB 68 q5 (Ae (An 0 0) 0 (An c0 e0)),pB 101 q3 (Af X)]):=sx5;rw [e5]at sx5;refine⟨fun k hk=>by rw [show k=s from hk];exact(sx5.blk 0 rfl).trans (st2.blk 0 rfl).symm,?_⟩;(conv=>whnf);exact⟨rfl,(q3,q5),rfl,sx5.subl ((Aa5 _).2 (List.Sublist.cons_cons _ (AaC _))),sx5.blk _ (lgR _ _ 2),sx5.blk _ (lgR _ _ 1)⟩
   ·refine Ak (Bm 0) (Af 0) rfl rfl ?_;intro q3 J1 gq0 gs0 gb0 ga0;have sx1:=sx0.box gq0 gs0 gb0 ga0;rw [Aa4]at sx1;replace sx1:StB B H J1 (sP s t i a n cap os ps++[pB 142 q2 Aj,pB 101 q3 (Af 0)]):=sx1;refine⟨fun k hk=>by rw [show k=s from hk];exact(sx1.blk 0 rfl).trans (st2.blk 0 rfl).symm,?_⟩;(conv=>whnf);refine⟨?_,?_⟩
    ·refine Ag.mk (Ey (It hE hEB sx1) (by omega) hi) ?_;rintro _ J2 ⟨ag1,hR⟩;obtain rfl:=hX _ hR;have sx2:=sx1.call ag1;refine⟨fun k hk=>by rw [show k=s from hk];exact(sx2.blk 0 rfl).trans (st2.blk 0 rfl).symm,?_⟩;(conv=>whnf);refine Ak (Ej 0 0) (An 0 0) rfl rfl ?_;intro q5 J3 gq2 gs2 gb2 ga2;have sx3:=sx2.box gq2 gs2 gb2 ga2;rw [Aa4]at sx3;replace sx3:StB B H J3 (sP s t i a n cap os ps++[pB 142 q2 Aj,pB 101 q3 (Af 0),pB 68 q5 (An 0 0)]):=sx3;refine⟨fun k hk=>by rw [show k=s from hk];exact(sx3.blk 0 rfl).trans (st2.blk 0 rfl).symm,?_⟩;(conv=>whnf);refine AI (cs:=Af X) sx3 _ rfl (lgR _ _ 1) (Aa3 _) rfl fun J4 sx4=>?_;rw [lsR]at sx4;have e4:Ae (Af 0) 0 (Af X)=Af X:=A8 rfl;replace sx4:StB B H J4 (sP s t i a n cap os ps++[pB 142 q2 Aj,pB 101 q3 (Ae (Af 0) 0 (Af X)),pB 68 q5 (An 0 0)]):=sx4;rw [e4]at sx4;refine⟨fun k hk=>by rw [show k=s from hk];exact(sx4.blk 0 rfl).trans (st2.blk 0 rfl).symm,?_⟩;refine AI (cs:=An c0 e0) sx4 _ rfl (lgR _ _ 2) (Aa3 _) rfl fun J5 sx5=>?_;rw [lsR]at sx5;have e5:Ae (An 0 0) 0 (An c0 e0)=An c0 e0:=A8 rfl;replace sx5:StB B H J5 (sP s t i a n cap os ps++[pB 142 q2 Aj,pB 101 q3 (Af X),pB 68 q5 (Ae (An 0 0) 0 (An c0 e0))]):=sx5;rw [e5]at sx5;refine⟨fun k hk=>by rw [show k=s from hk];exact(sx5.blk 0 rfl).trans (st2.blk 0 rfl).symm,?_⟩;(conv=>whnf);exact⟨rfl,(q3,q5),rfl,sx5.subl ((Aa5 _).2 (List.Sublist.cons_cons _ (AaC _))),sx5.blk _ (lgR _ _ 1),sx5.blk _ (lgR _ _ 2)⟩
    ·refine Ak (Ej 0 0) (An 0 0) rfl rfl ?_;intro q5 J2 gq1 gs1 gb1 ga1;have sx2:=sx1.box gq1 gs1 gb1 ga1;rw [Aa4]at sx2;replace sx2:StB B H J2 (sP s t i a n cap os ps++[pB 142 q2 Aj,pB 101 q3 (Af 0),pB 68 q5 (An 0 0)]):=sx2;refine⟨fun k hk=>by rw [show k=s from hk];exact(sx2.blk 0 rfl).trans (st2.blk 0 rfl).symm,?_⟩;(conv=>whnf);refine Ag.mk (Ey (It hE hEB sx2) (by omega) hi) ?_;rintro _ J3 ⟨ag2,hR⟩;obtain rfl:=hX _ hR;have sx3:=sx2.call ag2;refine⟨fun k hk=>by rw [show k=s from hk];exact(sx3.blk 0 rfl).trans (st2.blk 0 rfl).symm,?_⟩;(conv=>whnf);refine AI (cs:=Af X) sx3 _ rfl (lgR _ _ 1) (Aa3 _) rfl fun J4 sx4=>?_;rw [lsR]at sx4;have e4:Ae (Af 0) 0 (Af X)=Af X:=A8 rfl;replace sx4:StB B H J4 (sP s t i a n cap os ps++[pB 142 q2 Aj,pB 101 q3 (Ae (Af 0) 0 (Af X)),pB 68 q5 (An 0 0)]):=sx4;rw [e4]at sx4;refine⟨fun k hk=>by rw [show k=s from hk];exact(sx4.blk 0 rfl).trans (st2.blk 0 rfl).symm,?_⟩;refine AI (cs:=An c0 e0) sx4 _ rfl (lgR _ _ 2) (Aa3 _) rfl fun J5 sx5=>?_;rw [lsR]at sx5;have e5:Ae (An 0 0) 0 (An c0 e0)=An c0 e0:=A8 rfl;replace sx5:StB B H J5 (sP s t i a n cap os ps++[pB 142 q2 Aj,pB 101 q3 (Af X),pB 68 q5 (Ae (An 0 0) 0 (An c0 e0))]):=sx5;rw [e5]at sx5;refine⟨fun k hk=>by rw [show k=s from hk];exact(sx5.blk 0 rfl).trans (st2.blk 0 rfl).symm,?_⟩;(conv=>whnf);exact⟨rfl,(q3,q5),rfl,sx5.subl ((Aa5 _).2 (List.Sublist.cons_cons _ (AaC _))),sx5.blk _ (lgR _ _ 1),sx5.blk _ (lgR _ _ 2)⟩
   ·refine Ak (Ej 0 0) (An 0 0) rfl rfl ?_;intro q5 J1 gq0 gs0 gb0 ga0;have sx1:=sx0.box gq0 gs0 gb0 ga0;rw [Aa4]at sx1;replace sx1:StB B H J1 (sP s t i a n cap os ps++[pB 142 q2 Aj,pB 68 q5 (An 0 0)]):=sx1;refine⟨fun k hk=>by rw [show k=s from hk];exact(sx1.blk 0 rfl).trans (st2.blk 0 rfl).symm,?_⟩;(conv=>whnf);refine⟨?_,?_⟩
    ·refine Ag.mk (Ey (It hE hEB sx1) (by omega) hi) ?_;rintro _ J2 ⟨ag1,hR⟩;obtain rfl:=hX _ hR;have sx2:=sx1.call ag1;refine⟨fun k hk=>by rw [show k=s from hk];exact(sx2.blk 0 rfl).trans (st2.blk 0 rfl).symm,?_⟩;(conv=>whnf);refine Ak (Bm 0) (Af 0) rfl rfl ?_;intro q3 J3 gq2 gs2 gb2 ga2;have sx3:=sx2.box gq2 gs2 gb2 ga2;rw [Aa4]at sx3;replace sx3:StB B H J3 (sP s t i a n cap os ps++[pB 142 q2 Aj,pB 68 q5 (An 0 0),pB 101 q3 (Af 0)]):=sx3;refine⟨fun k hk=>by rw [show k=s from hk];exact(sx3.blk 0 rfl).trans (st2.blk 0 rfl).symm,?_⟩;(conv=>whnf);refine AI (cs:=Af X) sx3 _ rfl (lgR _ _ 2) (Aa3 _) rfl fun J4 sx4=>?_;rw [lsR]at sx4;have e4:Ae (Af 0) 0 (Af X)=Af X:=A8 rfl;replace sx4:StB B H J4 (sP s t i a n cap os ps++[pB 142 q2 Aj,pB 68 q5 (An 0 0),pB 101 q3 (Ae (Af 0) 0 (Af X))]):=sx4;rw [e4]at sx4;refine⟨fun k hk=>by rw [show k=s from hk];exact(sx4.blk 0 rfl).trans (st2.blk 0 rfl).symm,?_⟩;refine AI (cs:=An c0 e0) sx4 _ rfl (lgR _ _ 1) (Aa3 _) rfl fun J5 sx5=>?_;rw [lsR]at sx5;have e5:Ae (An 0 0) 0 (An c0 e0)=An c0 e0:=A8 rfl;replace sx5:StB B H J5 (sP s t i a n cap os ps++[pB 142 q2 Aj,pB 68 q5 (Ae (An 0 0) 0 (An c0 e0)),pB 101 q3 (Af X)]):=sx5;rw [e5]at sx5;refine⟨fun k hk=>by rw [show k=s from hk];exact(sx5.blk 0 rfl).trans (st2.blk 0 rfl).symm,?_⟩;(conv=>whnf);exact⟨rfl,(q3,q5),rfl,sx5.subl ((Aa5 _).2 (List.Sublist.cons_cons _ (AaC _))),sx5.blk _ (lgR _ _ 2),sx5.blk _ (lgR _ _ 1)⟩
    ·refine Ak (Bm 0) (Af 0) rfl rfl ?_;intro q3 J2 gq1 gs1 gb1 ga1;have sx2:=sx1.box gq1 gs1 gb1 ga1;rw [Aa4]at sx2;replace sx2:StB B H J2 (sP s t i a n cap os ps++[pB 142 q2 Aj,pB 68 q5 (An 0 0),pB 101 q3 (Af 0)]):=sx2;refine⟨fun k hk=>by rw [show k=s from hk];exact(sx2.blk 0 rfl).trans (st2.blk 0 rfl).symm,?_⟩;(conv=>whnf);refine Ag.mk (Ey (It hE hEB sx2) (by omega) hi) ?_;rintro _ J3 ⟨ag2,hR⟩;obtain rfl:=hX _ hR;have sx3:=sx2.call ag2;refine⟨fun k hk=>by rw [show k=s from hk];exact(sx3.blk 0 rfl).trans (st2.blk 0 rfl).symm,?_⟩;(conv=>whnf);refine AI (cs:=Af X) sx3 _ rfl (lgR _ _ 2) (Aa3 _) rfl fun J4 sx4=>?_;rw [lsR]at sx4;have e4:Ae (Af 0) 0 (Af X)=Af X:=A8 rfl;replace sx4:StB B H J4 (sP s t i a n cap os ps++[pB 142 q2 Aj,pB 68 q5 (An 0 0),pB 101 q3 (Ae (Af 0) 0 (Af X))]):=sx4;rw [e4]at sx4;refine⟨fun k hk=>by rw [show k=s from hk];exact(sx4.blk 0 rfl).trans (st2.blk 0 rfl).symm,?_⟩;refine AI (cs:=An c0 e0) sx4 _ rfl (lgR _ _ 1) (Aa3 _) rfl fun J5 sx5=>?_;rw [lsR]at sx5;have e5:Ae (An 0 0) 0 (An c0 e0)=An c0 e0:=A8 rfl;replace sx5:StB B H J5 (sP s t i a n cap os ps++[pB 142 q2 Aj,pB 68 q5 (Ae (An 0 0) 0 (An c0 e0)),pB 101 q3 (Af X)]):=sx5;rw [e5]at sx5;refine⟨fun k hk=>by rw [show k=s from hk];exact(sx5.blk 0 rfl).trans (st2.blk 0 rfl).symm,?_⟩;(conv=>whnf);exact⟨rfl,(q3,q5),rfl,sx5.subl ((Aa5 _).2 (List.Sublist.cons_cons _ (AaC _))),sx5.blk _ (lgR _ _ 2),sx5.blk _ (lgR _ _ 1)⟩
  ·rintro⟨q3,q5⟩ G junk ⟨stg,hb3,hb5⟩;refine AQ.run ?_;refine ldN (cs:=An c0 e0) Jw (hb5.cells (fun j v hv=>by rw [Aa2];exact hv)) trivial ?_;refine A6 Tryz.underlying68 rfl _ rfl (An 0 0) rfl (XA (by omega) (by omega) (by decide) (by decide) ?_);rcases hj with⟨hr,rfl⟩ | ⟨hr,rfl,rfl⟩
   ·rw [decide_eq_false (by omega)];refine ldN (cs:=An 10 e0) Jw (hb5.cells (fun j v hv=>by rw [Aa2];exact hv)) trivial ?_;(conv=>whnf);exact⟨10,e0,DS hi (LC hfb h40 hr),rfl,stg.old⟩
   ·have hok:=I6 hr;rw [decide_eq_true ⟨rfl,rfl⟩];refine VC.fa AC (Vg stg 0 ct3 rfl (by simp) rfl fun G2 sg2 ja2 js2=>?_);replace sg2:StB B H G2 (sP s t j a n cap os ps++[pB 142 q2 Aj]):=sg2;have hb3':=hb3.agr ja2 (hb3.ne (stg.blk 0 rfl) (by decide));refine ldN (cs:=Af X) AU (CK hb3') trivial (A6 Tryz.underlying104 rfl _ rfl (Af X) rfl (Ah.of (Ag.mk (Nu (r:=.cls X) sg2 rfl) ?_)));rintro _ G3 ⟨B1,f1,rfl,s1,a3,sg3,gs⟩;obtain⟨g1,c1,rfl⟩:=gs.fn;refine Bf (cs:=Ab (.cls X) (.func (.func g1) #[] c1)) sg3 _ rfl (lgR _ _ 0) (by simp [Ab,Aj]) rfl fun G4 sg4 ja4 js4=>?_;rw [lsR,Cd rfl]at sg4;refine ldN (cs:=Ab (.cls X) (.func (.func g1) #[] c1)) AO (Au (sg4.blk _ (lgR _ _ 0))) trivial ?_;exact⟨j,.cls X,hok.1,hok.2,DA hi (M8 hfb h40 hr),B1,_,rfl,s1,(sg2.old.trans (a3.mono fun k hk=>sg2.up hk)).trans fun k hk=>sg4.old k (s1 k hk),⟨a,n,cap,sg4.lft.rebase⟩,gs.frame sg4.old fun k hk=>hk⟩
theorem Zf(d:RnM):(rnL d)[259]? =some (.int .i64 d.m):=by
 unfold rnL AZ;rw [Aa8 (by simp),Aa8 (by simp [Aq])];simp [Aq]
theorem Pd(d:RnM):(rnL d)[260]? =some (.int .i64 d.n):=by
 unfold rnL AZ;rw [Aa8 (by simp),Aa8 (by simp [Aq])];simp [Aq]
theorem W3{c:Nat}{m n:Int}(hc:c≤2001)(h:QS m n):EQ c (AJ m) n≤2000000:=by
 have hm:AJ m≤255:=by unfold AJ;split<;>rcases h with h | h<;>omega
 have hn:n.toNat≤255:=by rcases h with h | h<;>omega
 have h1:AJ m*c≤255*2001:=AaT hm hc;have h2:n.toNat*(c+2)≤255*2003:=AaT hn (by omega);have h3:(n.toNat - AJ m)*(c+3)≤255*2004:=AaT (by omega) (by omega);unfold EQ;split
 ·split<;>omega
 ·split
  ·omega
  ·split<;>omega
def szI(w:RwM):Int:=((szR w.den:Nat):Int)
def szL(ws:List RwM)(j:Nat):List Int:=(ws.take j).map szI++AaM (ws.length - j) 0
theorem AS(ws:List RwM){j:Nat}(hj:j≤ws.length):(szL ws j).length=ws.length:=by unfold szL;simp;omega
theorem NL{ws:List RwM}{j i:Nat}{w:RwM}(h:ws[i]? =some w)(hi:i<j):(szL ws j)[i]? =some (szI w):=by
 have hl:=(AaD.1 h).1;unfold szL;rw [AaH (by simp;omega),AaQ,AaN,if_pos hi,h];rfl
theorem CP{ws:List RwM}{j:Nat}{w:RwM}(h:ws[j]? =some w):(szL ws j).set j (szI w)=szL ws (j+1):=by
 have hl:=(AaD.1 h).1;apply List.ext_getElem?;intro i;have l1:=AS ws (j:=j) (by omega);by_cases hi:i=j
 ·subst hi;rw [Aa6 (by omega),NL h (by omega)]
 ·rw [List.getElem?_set_ne (by omega)];unfold szL;by_cases hij:i<j
  ·rw [AaH (by simp;omega),AaH (by simp;omega),AaQ,AaQ,AaN,AaN,if_pos hij,if_pos (by omega)]
  ·rw [Aa8 (by simp;omega),Aa8 (by simp;omega),AaR,AaR];simp only [List.length_map,List.length_take];by_cases hi2:i<ws.length
   ·rw [if_pos (by omega),if_pos (by omega)]
   ·rw [if_neg (by omega),if_neg (by omega)]
abbrev pSz(b n:Nat)(xs:List Int):Pc:=pS tPl 3 (some ⟨b,0,none⟩) n n xs
theorem W8{S:Nat→Prop}{H:Aa}{na:Option Addr}{nc:Nat}{ds:List RnM}{ws:List RwM}(hS:∀k,S k→k<H.size)(hR:Raw ds ws)(hl:ds.length≤16777216)(hd:SlD tRn S H na nc ds):
  Al Tryz.prog 82 #[.slice na ds.length nc] H (fun v H'=>∃b,v= .slice (some ⟨b,0,none⟩) ds.length ds.length∧St H H' [pSz b ds.length (szL ws ws.length)]):=by
 have hlen:=hR.len;refine Al.of_vc Tryz.func82 rfl (Tryz.call82 _) (Vu (T:=tPl) (v:=0) (S:=none_) AL ⟨rfl,Bs (x:=0) (by decide)⟩ (by omega) rfl (by omega) (by omega) ?_);intro b H1 hb hs1 hb1 ha1;rw [AaI]at hb1 ⊢;have st1:St H H1 [pSz b ds.length (szL ws 0)]:=by
  have:=(St.nil H).new (T:=tPl) (n:=ds.length) (xs:=AaM ws.length (0:Int)) hb hs1 hb1 ha1 (by rw [hlen];exact DT (T:=tPl) (c:=[.int .i64 0]) ⟨rfl,Bs (x:=0) (by decide)⟩ _) (by simp [hlen]) (by unfold maxLen;omega);unfold szL;simpa using this
 have hmax:ws.length≤16777216:=by omega
 (conv=>whnf);refine A3.mk [4] (fun j:Nat=>[.int .i64 (j:Int)]) (fun j G=>j≤ws.length∧St H G [pSz b ds.length (szL ws j)]) (fun j _=>ws.length - j) ?_ ?_
 ·(conv=>whnf);exact⟨0,rfl,by omega,st1⟩
 ·rintro j G junk ⟨hj,stg⟩;have hv:(ws.length:Int)=(ds.length:Int):=by rw [hlen]
  refine AB.mk (fun hz=>?_) (fun hz=>?_)<;>simp only [decide_eq_true_eq,decide_eq_false_iff_not]at hz
  ·have hjl:j<ws.length:=by omega
   obtain⟨w,hw⟩:∃w,ws[j]? =some w:=⟨_,List.getElem?_eq_getElem hjl⟩;obtain⟨d,us,vs,hdd,hws,hul,hnr⟩:=hR.at_ hw;have hxl:=AS ws hj;have hlt:∀{i:Nat} {a:RwM},us[i]? =some a→(szL ws j)[i]? =some (szI a)∧i<ws.length:=fun{i a} h=>by
    have hi:=(AaD.1 h).1;have:ws[i]? =some a:=by rw [hws];exact Gc h
    exact⟨NL this (by omega),by omega⟩
   have nd:∀{G':Aa} {S0:Nat→Prop} {K:Value→Prop},St H G' [pSz b ds.length (szL ws j)]→(∀b2 o2,Bi G' b2 o2 (rnL d)→Old G' b2→K (.pointer (some ⟨b2,o2,none⟩)))→AH Tryz.prog (Instr.indexAt 54 (.slice na ds.length nc) (.int .i64 (j:Int))) S0 G' K:=fun st k=>by
    refine ixr (i:=j) C6 (hd.frame (st.old.mono hS)) hdd rfl ?_;rintro b2 o2 c2 hS2 hc2 ⟨rfl,hok⟩;exact k b2 o2 hc2 (st.up (hS b2 hS2))
   refine Am.run (Am.run (nd stg fun b2 o2 hc2 hO2=>(VC.fa AN (ld1 (v:=.int .i64 d.op) ct3 (hc2 0 _ (BB d)) trivial ?_))));cases w with
   | eps=>
     obtain rfl:d=A4 0 0 0:=hnr;(conv=>whnf);try (refine Am.run ?_)
     (conv=>whnf);try (refine Am.run ?_)
     refine nd stg fun b3 o3 hc3 hO3=>(VC.fa AN (ld1 (v:=.int .i64 (A4 0 0 0).op) ct3 (hc3 0 _ (BB _)) trivial ?_));(conv=>whnf);try (refine Am.run ?_)
     refine ixE (T:=tPl) (j:=j) AL stg 0 rfl (by rw [AS ws hj];exact hjl) rfl ?_;refine GS (T:=tPl) (j:=j) (x:=1) stg 0 ct3 rfl rfl (AaB _) (by rw [AS ws hj];exact hjl) rfl (fun _ _=>⟨rfl,Bs (x:=1) (by decide)⟩) fun G3 sg3=>?_;(conv=>whnf);try (refine Am.run ?_)
     refine ixO (j:=j) (x:=(1:Int)) AL sg3 0 rfl (by exact Aa6 (by rw [AS ws hj];exact hjl)) rfl fun b9 o9 cs9 hO9 hc9 hr9=>?_;obtain⟨rfl,-⟩:=hr9;refine ld1 (v:=.int .i64 ((1:Int))) ct3 hc9.one trivial ?_;(conv=>whnf);rw [w64 (x:=(j:Int)+1) (by omega) (by omega)];refine⟨rfl,j+1,rfl,⟨by omega,?_⟩,by omega⟩;have e:(1:Int)=szI (.eps):=by unfold szI;show(1:Int)=((szR (RwM.eps).den:Nat):Int);rw [show szR (RwM.eps).den=1 from rfl];rfl
     have sg8:=sg3;replace sg8:St H _ [pSz b ds.length ((szL ws j).set j 1)]:=sg8;rw [e,CP hw]at sg8;exact sg8
   | cls s=>
     obtain rfl:d=Di s:=hnr;(conv=>whnf);try (refine Am.run ?_)
     (conv=>whnf);try (refine Am.run ?_)
     refine nd stg fun b3 o3 hc3 hO3=>(VC.fa AN (ld1 (v:=.int .i64 (Di s).op) ct3 (hc3 0 _ (BB _)) trivial ?_));(conv=>whnf);try (refine Am.run ?_)
     refine ixE (T:=tPl) (j:=j) AL stg 0 rfl (by rw [AS ws hj];exact hjl) rfl ?_;refine GS (T:=tPl) (j:=j) (x:=1) stg 0 ct3 rfl rfl (AaB _) (by rw [AS ws hj];exact hjl) rfl (fun _ _=>⟨rfl,Bs (x:=1) (by decide)⟩) fun G3 sg3=>?_;(conv=>whnf);try (refine Am.run ?_)
     refine ixO (j:=j) (x:=(1:Int)) AL sg3 0 rfl (by exact Aa6 (by rw [AS ws hj];exact hjl)) rfl fun b9 o9 cs9 hO9 hc9 hr9=>?_;obtain⟨rfl,-⟩:=hr9;refine ld1 (v:=.int .i64 ((1:Int))) ct3 hc9.one trivial ?_;(conv=>whnf);rw [w64 (x:=(j:Int)+1) (by omega) (by omega)];refine⟨rfl,j+1,rfl,⟨by omega,?_⟩,by omega⟩;have e:(1:Int)=szI (.cls s):=by unfold szI;show(1:Int)=((szR (RwM.cls s).den:Nat):Int);rw [show szR (RwM.cls s).den=1 from rfl];rfl
     have sg8:=sg3;replace sg8:St H _ [pSz b ds.length ((szL ws j).set j 1)]:=sg8;rw [e,CP hw]at sg8;exact sg8
   | cat a c=>
     obtain⟨i1,i2,rfl,hi1,hi2⟩:=hnr;obtain⟨g1,l1⟩:=hlt hi1;obtain⟨g2,l2⟩:=hlt hi2;have za:=EB a.den;have zc:=EB c.den;have hsz:szR (RwM.cat a c).den=min (1+szR a.den+szR c.den) 2001:=KP .cat a.den c.den;(conv=>whnf);try (refine Am.run ?_)
     refine nd stg fun b3 o3 hc3 hO3=>(VC.fa Bh (ld1 (v:=.int .i64 (i1:Int)) ct3 (hc3 257 _ (ET _)) trivial (ixO (j:=i1) (x:=szI a) AL stg 0 rfl g1 rfl fun b9 o9 cs9 hO9 hc9 hr9=>?_)));obtain⟨rfl,-⟩:=hr9;refine ld1 (v:=.int .i64 (szI a)) ct3 hc9.one trivial ?_;(conv=>whnf);try (refine Am.run ?_)
     refine nd stg fun b4 o4 hc4 hO4=>(VC.fa AN (ld1 (v:=.int .i64 (A4 2 (i1:Int) (i2:Int)).op) ct3 (hc4 0 _ (BB _)) trivial ?_));(conv=>whnf);try (refine Am.run ?_)
     (conv=>whnf);rw [w64 (x:=1+szI a) (by unfold szI;omega) (by unfold szI;omega)];refine nd stg fun b5 o5 hc5 hO5=>(VC.fa CA (ld1 (v:=.int .i64 (i2:Int)) ct3 (hc5 258 _ (JO _)) trivial (ixO (j:=i2) (x:=szI c) AL stg 0 rfl g2 rfl fun b9 o9 cs9 hO9 hc9 hr9=>?_)));obtain⟨rfl,-⟩:=hr9;refine ld1 (v:=.int .i64 (szI c)) ct3 hc9.one trivial ?_;(conv=>whnf);rw [w64 (x:=1+szI a+szI c) (by unfold szI;omega) (by unfold szI;omega)];rw [show 1+szI a+szI c=((1+szR a.den+szR c.den:Nat):Int) by unfold szI;omega];refine ixE (T:=tPl) (j:=j) AL stg 0 rfl (by rw [AS ws hj];exact hjl) rfl ?_;refine GS (T:=tPl) (j:=j) (x:=((1+szR a.den+szR c.den:Nat):Int)) stg 0 ct3 rfl rfl (AaB _) (by rw [AS ws hj];exact hjl) rfl (fun _ _=>⟨rfl,Bs (by omega)⟩) fun G3 sg3=>?_;(conv=>whnf);try (refine Am.run ?_)
     refine ixO (j:=j) (x:=(((1+szR a.den+szR c.den:Nat):Int):Int)) AL sg3 0 rfl (by exact Aa6 (by rw [AS ws hj];exact hjl)) rfl fun b9 o9 cs9 hO9 hc9 hr9=>?_;obtain⟨rfl,-⟩:=hr9;refine ld1 (v:=.int .i64 ((((1+szR a.den+szR c.den:Nat):Int):Int))) ct3 hc9.one trivial ?_;by_cases hcap:2001<1+szR a.den+szR c.den
     ·have d9:decide (2001<(((1+szR a.den+szR c.den:Nat):Int):Int))=true:=decide_eq_true (by omega);(conv=>whnf);rw [d9];refine ixE (T:=tPl) (j:=j) AL sg3 0 rfl (by rw [Aa9,AS ws hj];exact hjl) rfl ?_;refine GS (T:=tPl) (j:=j) (x:=2001) sg3 0 ct3 rfl rfl (AaB _) (by rw [Aa9,AS ws hj];exact hjl) rfl (fun _ _=>⟨rfl,Bs (x:=2001) (by decide)⟩) fun G8 sg8=>?_;(conv=>whnf);rw [w64 (x:=(j:Int)+1) (by omega) (by omega)];refine⟨rfl,j+1,rfl,⟨by omega,?_⟩,by omega⟩;have e:(2001:Int)=szI (.cat a c):=by unfold szI;rw [hsz];omega
      replace sg8:St H G8 [pSz b ds.length (((szL ws j).set j ((1+szR a.den+szR c.den:Nat):Int)).set j 2001)]:=sg8;rw [AaK,e,CP hw]at sg8;exact sg8
     ·have d9:decide (2001<(((1+szR a.den+szR c.den:Nat):Int):Int))=false:=decide_eq_false (by omega);(conv=>whnf);rw [d9];(conv=>whnf);rw [w64 (x:=(j:Int)+1) (by omega) (by omega)];refine⟨rfl,j+1,rfl,⟨by omega,?_⟩,by omega⟩;have e:(((1+szR a.den+szR c.den:Nat):Int):Int)=szI (.cat a c):=by unfold szI;rw [hsz];omega
      have sg8:=sg3;replace sg8:St H _ [pSz b ds.length ((szL ws j).set j ((1+szR a.den+szR c.den:Nat):Int))]:=sg8;rw [e,CP hw]at sg8;exact sg8
   | alt a c=>
     obtain⟨i1,i2,rfl,hi1,hi2⟩:=hnr;obtain⟨g1,l1⟩:=hlt hi1;obtain⟨g2,l2⟩:=hlt hi2;have za:=EB a.den;have zc:=EB c.den;have hsz:szR (RwM.alt a c).den=min (1+szR a.den+szR c.den) 2001:=KP .alt a.den c.den;(conv=>whnf);try (refine Am.run ?_)
     refine nd stg fun b3 o3 hc3 hO3=>(VC.fa Bh (ld1 (v:=.int .i64 (i1:Int)) ct3 (hc3 257 _ (ET _)) trivial (ixO (j:=i1) (x:=szI a) AL stg 0 rfl g1 rfl fun b9 o9 cs9 hO9 hc9 hr9=>?_)));obtain⟨rfl,-⟩:=hr9;refine ld1 (v:=.int .i64 (szI a)) ct3 hc9.one trivial ?_;(conv=>whnf);try (refine Am.run ?_)
     refine nd stg fun b4 o4 hc4 hO4=>(VC.fa AN (ld1 (v:=.int .i64 (A4 3 (i1:Int) (i2:Int)).op) ct3 (hc4 0 _ (BB _)) trivial ?_));(conv=>whnf);try (refine Am.run ?_)
     (conv=>whnf);rw [w64 (x:=1+szI a) (by unfold szI;omega) (by unfold szI;omega)];refine nd stg fun b5 o5 hc5 hO5=>(VC.fa CA (ld1 (v:=.int .i64 (i2:Int)) ct3 (hc5 258 _ (JO _)) trivial (ixO (j:=i2) (x:=szI c) AL stg 0 rfl g2 rfl fun b9 o9 cs9 hO9 hc9 hr9=>?_)));obtain⟨rfl,-⟩:=hr9;refine ld1 (v:=.int .i64 (szI c)) ct3 hc9.one trivial ?_;(conv=>whnf);rw [w64 (x:=1+szI a+szI c) (by unfold szI;omega) (by unfold szI;omega)];rw [show 1+szI a+szI c=((1+szR a.den+szR c.den:Nat):Int) by unfold szI;omega];refine ixE (T:=tPl) (j:=j) AL stg 0 rfl (by rw [AS ws hj];exact hjl) rfl ?_;refine GS (T:=tPl) (j:=j) (x:=((1+szR a.den+szR c.den:Nat):Int)) stg 0 ct3 rfl rfl (AaB _) (by rw [AS ws hj];exact hjl) rfl (fun _ _=>⟨rfl,Bs (by omega)⟩) fun G3 sg3=>?_;(conv=>whnf);try (refine Am.run ?_)
     refine ixO (j:=j) (x:=(((1+szR a.den+szR c.den:Nat):Int):Int)) AL sg3 0 rfl (by exact Aa6 (by rw [AS ws hj];exact hjl)) rfl fun b9 o9 cs9 hO9 hc9 hr9=>?_;obtain⟨rfl,-⟩:=hr9;refine ld1 (v:=.int .i64 ((((1+szR a.den+szR c.den:Nat):Int):Int))) ct3 hc9.one trivial ?_;by_cases hcap:2001<1+szR a.den+szR c.den
     ·have d9:decide (2001<(((1+szR a.den+szR c.den:Nat):Int):Int))=true:=decide_eq_true (by omega);(conv=>whnf);rw [d9];refine ixE (T:=tPl) (j:=j) AL sg3 0 rfl (by rw [Aa9,AS ws hj];exact hjl) rfl ?_;refine GS (T:=tPl) (j:=j) (x:=2001) sg3 0 ct3 rfl rfl (AaB _) (by rw [Aa9,AS ws hj];exact hjl) rfl (fun _ _=>⟨rfl,Bs (x:=2001) (by decide)⟩) fun G8 sg8=>?_;(conv=>whnf);rw [w64 (x:=(j:Int)+1) (by omega) (by omega)];refine⟨rfl,j+1,rfl,⟨by omega,?_⟩,by omega⟩;have e:(2001:Int)=szI (.alt a c):=by unfold szI;rw [hsz];omega
      replace sg8:St H G8 [pSz b ds.length (((szL ws j).set j ((1+szR a.den+szR c.den:Nat):Int)).set j 2001)]:=sg8;rw [AaK,e,CP hw]at sg8;exact sg8
     ·have d9:decide (2001<(((1+szR a.den+szR c.den:Nat):Int):Int))=false:=decide_eq_false (by omega);(conv=>whnf);rw [d9];(conv=>whnf);rw [w64 (x:=(j:Int)+1) (by omega) (by omega)];refine⟨rfl,j+1,rfl,⟨by omega,?_⟩,by omega⟩;have e:(((1+szR a.den+szR c.den:Nat):Int):Int)=szI (.alt a c):=by unfold szI;rw [hsz];omega
      have sg8:=sg3;replace sg8:St H _ [pSz b ds.length ((szL ws j).set j ((1+szR a.den+szR c.den:Nat):Int))]:=sg8;rw [e,CP hw]at sg8;exact sg8
   | and_ a c=>
     obtain⟨i1,i2,rfl,hi1,hi2⟩:=hnr;obtain⟨g1,l1⟩:=hlt hi1;obtain⟨g2,l2⟩:=hlt hi2;have za:=EB a.den;have zc:=EB c.den;have hsz:szR (RwM.and_ a c).den=min (1+szR a.den+szR c.den) 2001:=KP .and_ a.den c.den;(conv=>whnf);try (refine Am.run ?_)
     refine nd stg fun b3 o3 hc3 hO3=>(VC.fa Bh (ld1 (v:=.int .i64 (i1:Int)) ct3 (hc3 257 _ (ET _)) trivial (ixO (j:=i1) (x:=szI a) AL stg 0 rfl g1 rfl fun b9 o9 cs9 hO9 hc9 hr9=>?_)));obtain⟨rfl,-⟩:=hr9;refine ld1 (v:=.int .i64 (szI a)) ct3 hc9.one trivial ?_;(conv=>whnf);try (refine Am.run ?_)
     refine nd stg fun b4 o4 hc4 hO4=>(VC.fa AN (ld1 (v:=.int .i64 (A4 5 (i1:Int) (i2:Int)).op) ct3 (hc4 0 _ (BB _)) trivial ?_));(conv=>whnf);try (refine Am.run ?_)
     (conv=>whnf);rw [w64 (x:=1+szI a) (by unfold szI;omega) (by unfold szI;omega)];refine nd stg fun b5 o5 hc5 hO5=>(VC.fa CA (ld1 (v:=.int .i64 (i2:Int)) ct3 (hc5 258 _ (JO _)) trivial (ixO (j:=i2) (x:=szI c) AL stg 0 rfl g2 rfl fun b9 o9 cs9 hO9 hc9 hr9=>?_)));obtain⟨rfl,-⟩:=hr9;refine ld1 (v:=.int .i64 (szI c)) ct3 hc9.one trivial ?_;(conv=>whnf);rw [w64 (x:=1+szI a+szI c) (by unfold szI;omega) (by unfold szI;omega)];rw [show 1+szI a+szI c=((1+szR a.den+szR c.den:Nat):Int) by unfold szI;omega];refine ixE (T:=tPl) (j:=j) AL stg 0 rfl (by rw [AS ws hj];exact hjl) rfl ?_;refine GS (T:=tPl) (j:=j) (x:=((1+szR a.den+szR c.den:Nat):Int)) stg 0 ct3 rfl rfl (AaB _) (by rw [AS ws hj];exact hjl) rfl (fun _ _=>⟨rfl,Bs (by omega)⟩) fun G3 sg3=>?_;(conv=>whnf);try (refine Am.run ?_)
     refine ixO (j:=j) (x:=(((1+szR a.den+szR c.den:Nat):Int):Int)) AL sg3 0 rfl (by exact Aa6 (by rw [AS ws hj];exact hjl)) rfl fun b9 o9 cs9 hO9 hc9 hr9=>?_;obtain⟨rfl,-⟩:=hr9;refine ld1 (v:=.int .i64 ((((1+szR a.den+szR c.den:Nat):Int):Int))) ct3 hc9.one trivial ?_;by_cases hcap:2001<1+szR a.den+szR c.den
     ·have d9:decide (2001<(((1+szR a.den+szR c.den:Nat):Int):Int))=true:=decide_eq_true (by omega);(conv=>whnf);rw [d9];refine ixE (T:=tPl) (j:=j) AL sg3 0 rfl (by rw [Aa9,AS ws hj];exact hjl) rfl ?_;refine GS (T:=tPl) (j:=j) (x:=2001) sg3 0 ct3 rfl rfl (AaB _) (by rw [Aa9,AS ws hj];exact hjl) rfl (fun _ _=>⟨rfl,Bs (x:=2001) (by decide)⟩) fun G8 sg8=>?_;(conv=>whnf);rw [w64 (x:=(j:Int)+1) (by omega) (by omega)];refine⟨rfl,j+1,rfl,⟨by omega,?_⟩,by omega⟩;have e:(2001:Int)=szI (.and_ a c):=by unfold szI;rw [hsz];omega
      replace sg8:St H G8 [pSz b ds.length (((szL ws j).set j ((1+szR a.den+szR c.den:Nat):Int)).set j 2001)]:=sg8;rw [AaK,e,CP hw]at sg8;exact sg8
     ·have d9:decide (2001<(((1+szR a.den+szR c.den:Nat):Int):Int))=false:=decide_eq_false (by omega);(conv=>whnf);rw [d9];(conv=>whnf);rw [w64 (x:=(j:Int)+1) (by omega) (by omega)];refine⟨rfl,j+1,rfl,⟨by omega,?_⟩,by omega⟩;have e:(((1+szR a.den+szR c.den:Nat):Int):Int)=szI (.and_ a c):=by unfold szI;rw [hsz];omega
      have sg8:=sg3;replace sg8:St H _ [pSz b ds.length ((szL ws j).set j ((1+szR a.den+szR c.den:Nat):Int))]:=sg8;rw [e,CP hw]at sg8;exact sg8
   | minus a c=>
     obtain⟨i1,i2,rfl,hi1,hi2⟩:=hnr;obtain⟨g1,l1⟩:=hlt hi1;obtain⟨g2,l2⟩:=hlt hi2;have za:=EB a.den;have zc:=EB c.den;have hsz:szR (RwM.minus a c).den=min (1+szR a.den+szR c.den) 2001:=KP .minus a.den c.den;(conv=>whnf);try (refine Am.run ?_)
     refine nd stg fun b3 o3 hc3 hO3=>(VC.fa Bh (ld1 (v:=.int .i64 (i1:Int)) ct3 (hc3 257 _ (ET _)) trivial (ixO (j:=i1) (x:=szI a) AL stg 0 rfl g1 rfl fun b9 o9 cs9 hO9 hc9 hr9=>?_)));obtain⟨rfl,-⟩:=hr9;refine ld1 (v:=.int .i64 (szI a)) ct3 hc9.one trivial ?_;(conv=>whnf);try (refine Am.run ?_)
     refine nd stg fun b4 o4 hc4 hO4=>(VC.fa AN (ld1 (v:=.int .i64 (A4 6 (i1:Int) (i2:Int)).op) ct3 (hc4 0 _ (BB _)) trivial ?_));(conv=>whnf);try (refine Am.run ?_)
     (conv=>whnf);rw [w64 (x:=1+szI a) (by unfold szI;omega) (by unfold szI;omega)];refine nd stg fun b5 o5 hc5 hO5=>(VC.fa CA (ld1 (v:=.int .i64 (i2:Int)) ct3 (hc5 258 _ (JO _)) trivial (ixO (j:=i2) (x:=szI c) AL stg 0 rfl g2 rfl fun b9 o9 cs9 hO9 hc9 hr9=>?_)));obtain⟨rfl,-⟩:=hr9;refine ld1 (v:=.int .i64 (szI c)) ct3 hc9.one trivial ?_;(conv=>whnf);rw [w64 (x:=1+szI a+szI c) (by unfold szI;omega) (by unfold szI;omega)];rw [show 1+szI a+szI c=((1+szR a.den+szR c.den:Nat):Int) by unfold szI;omega];refine ixE (T:=tPl) (j:=j) AL stg 0 rfl (by rw [AS ws hj];exact hjl) rfl ?_;refine GS (T:=tPl) (j:=j) (x:=((1+szR a.den+szR c.den:Nat):Int)) stg 0 ct3 rfl rfl (AaB _) (by rw [AS ws hj];exact hjl) rfl (fun _ _=>⟨rfl,Bs (by omega)⟩) fun G3 sg3=>?_;(conv=>whnf);try (refine Am.run ?_)
     refine ixO (j:=j) (x:=(((1+szR a.den+szR c.den:Nat):Int):Int)) AL sg3 0 rfl (by exact Aa6 (by rw [AS ws hj];exact hjl)) rfl fun b9 o9 cs9 hO9 hc9 hr9=>?_;obtain⟨rfl,-⟩:=hr9;refine ld1 (v:=.int .i64 ((((1+szR a.den+szR c.den:Nat):Int):Int))) ct3 hc9.one trivial ?_;by_cases hcap:2001<1+szR a.den+szR c.den
     ·have d9:decide (2001<(((1+szR a.den+szR c.den:Nat):Int):Int))=true:=decide_eq_true (by omega);(conv=>whnf);rw [d9];refine ixE (T:=tPl) (j:=j) AL sg3 0 rfl (by rw [Aa9,AS ws hj];exact hjl) rfl ?_;refine GS (T:=tPl) (j:=j) (x:=2001) sg3 0 ct3 rfl rfl (AaB _) (by rw [Aa9,AS ws hj];exact hjl) rfl (fun _ _=>⟨rfl,Bs (x:=2001) (by decide)⟩) fun G8 sg8=>?_;(conv=>whnf);rw [w64 (x:=(j:Int)+1) (by omega) (by omega)];refine⟨rfl,j+1,rfl,⟨by omega,?_⟩,by omega⟩;have e:(2001:Int)=szI (.minus a c):=by unfold szI;rw [hsz];omega
      replace sg8:St H G8 [pSz b ds.length (((szL ws j).set j ((1+szR a.den+szR c.den:Nat):Int)).set j 2001)]:=sg8;rw [AaK,e,CP hw]at sg8;exact sg8
     ·have d9:decide (2001<(((1+szR a.den+szR c.den:Nat):Int):Int))=false:=decide_eq_false (by omega);(conv=>whnf);rw [d9];(conv=>whnf);rw [w64 (x:=(j:Int)+1) (by omega) (by omega)];refine⟨rfl,j+1,rfl,⟨by omega,?_⟩,by omega⟩;have e:(((1+szR a.den+szR c.den:Nat):Int):Int)=szI (.minus a c):=by unfold szI;rw [hsz];omega
      have sg8:=sg3;replace sg8:St H _ [pSz b ds.length ((szL ws j).set j ((1+szR a.den+szR c.den:Nat):Int))]:=sg8;rw [e,CP hw]at sg8;exact sg8
   | rep a m n=>
     obtain⟨i1,rfl,hi1,hrk⟩:=hnr;obtain⟨g1,l1⟩:=hlt hi1;have za:=EB a.den;have hmn:0≤n→((AJ m:Nat):Int)≤n:=by intro h0;unfold AJ;rcases hrk with h | h<;>split<;>omega
     have hsz:szR (RwM.rep a m n).den=min (EQ (szR a.den) (AJ m) n) 2001:=WG a.den (AJ m) n hmn;have hrl:=W3 za hrk;(conv=>whnf);try (refine Am.run ?_)
     refine nd stg fun b3 o3 hc3 hO3=>(VC.fa Bh (ld1 (v:=.int .i64 (i1:Int)) ct3 (hc3 257 _ (ET _)) trivial (ixO (j:=i1) (x:=szI a) AL stg 0 rfl g1 rfl fun b9 o9 cs9 hO9 hc9 hr9=>?_)));obtain⟨rfl,-⟩:=hr9;refine ld1 (v:=.int .i64 (szI a)) ct3 hc9.one trivial ?_;(conv=>whnf);try (refine Am.run ?_)
     refine nd stg fun b4 o4 hc4 hO4=>(VC.fa AN (ld1 (v:=.int .i64 (B9 (i1:Int) m n).op) ct3 (hc4 0 _ (BB _)) trivial ?_));(conv=>whnf);try (refine Am.run ?_)
     refine Ar.heldZ (Old G) [15] (sq [0,1,2,3,4,5,6,7,8,9,10,11,12] (.f 13 (sq [14] (.f 15 .e)))) rfl (by kernel_rfl) (nd stg fun b5 o5 hc5 hO5=>(VC.fa Rw (ld1 (v:=.int .i64 m) ct3 (hc5 259 _ (Zf _)) hO5 (nd stg fun b6 o6 hc6 hO6=>(VC.fa F7 (ld1 (v:=.int .i64 n) ct3 (hc6 260 _ (Pd _)) hO6 (Ao (WK (c:=szR a.den) za hrk G) fun G7 ha7=>?_)))))));have sg7:=stg.call ha7;refine⟨ha7,?_⟩;refine ixE (T:=tPl) (j:=j) AL sg7 0 rfl (by rw [AS ws hj];exact hjl) rfl ?_;refine GS (T:=tPl) (j:=j) (x:=((EQ (szR a.den) (AJ m) n:Nat):Int)) sg7 0 ct3 rfl rfl (AaB _) (by rw [AS ws hj];exact hjl) rfl (fun _ _=>⟨rfl,Bs (by omega)⟩) fun G3 sg3=>?_;(conv=>whnf);try (refine Am.run ?_)
     refine ixO (j:=j) (x:=(((EQ (szR a.den) (AJ m) n:Nat):Int):Int)) AL sg3 0 rfl (by exact Aa6 (by rw [AS ws hj];exact hjl)) rfl fun b9 o9 cs9 hO9 hc9 hr9=>?_;obtain⟨rfl,-⟩:=hr9;refine ld1 (v:=.int .i64 ((((EQ (szR a.den) (AJ m) n:Nat):Int):Int))) ct3 hc9.one trivial ?_;by_cases hcap:2001<EQ (szR a.den) (AJ m) n
     ·have d9:decide (2001<(((EQ (szR a.den) (AJ m) n:Nat):Int):Int))=true:=decide_eq_true (by omega);(conv=>whnf);rw [d9];refine ixE (T:=tPl) (j:=j) AL sg3 0 rfl (by rw [Aa9,AS ws hj];exact hjl) rfl ?_;refine GS (T:=tPl) (j:=j) (x:=2001) sg3 0 ct3 rfl rfl (AaB _) (by rw [Aa9,AS ws hj];exact hjl) rfl (fun _ _=>⟨rfl,Bs (x:=2001) (by decide)⟩) fun G8 sg8=>?_;(conv=>whnf);rw [w64 (x:=(j:Int)+1) (by omega) (by omega)];refine⟨rfl,j+1,rfl,⟨by omega,?_⟩,by omega⟩;have e:(2001:Int)=szI (.rep a m n):=by unfold szI;rw [hsz];omega
      replace sg8:St H G8 [pSz b ds.length (((szL ws j).set j ((EQ (szR a.den) (AJ m) n:Nat):Int)).set j 2001)]:=sg8;rw [AaK,e,CP hw]at sg8;exact sg8
     ·have d9:decide (2001<(((EQ (szR a.den) (AJ m) n:Nat):Int):Int))=false:=decide_eq_false (by omega);(conv=>whnf);rw [d9];(conv=>whnf);rw [w64 (x:=(j:Int)+1) (by omega) (by omega)];refine⟨rfl,j+1,rfl,⟨by omega,?_⟩,by omega⟩;have e:(((EQ (szR a.den) (AJ m) n:Nat):Int):Int)=szI (.rep a m n):=by unfold szI;rw [hsz];omega
      have sg8:=sg3;replace sg8:St H _ [pSz b ds.length ((szL ws j).set j ((EQ (szR a.den) (AJ m) n:Nat):Int))]:=sg8;rw [e,CP hw]at sg8;exact sg8
  ·obtain rfl:j=ws.length:=by omega
   (conv=>whnf);exact⟨b,rfl,stg⟩
abbrev reP(bb:Nat)(a:Option Addr)(c:Nat)(ns:List RnM)(Av:Int)(rest:List Pc):List Pc:=pB tRe bb (reL (.slice a ns.length c) Av)::pS tRn 159 a ns.length c ns::rest
section
variable{B:Nat→Prop}{H0 H:Aa}{bb c:Nat}{a:Option Addr}{ns:List RnM}{Av:Int}{rest:List Pc}
theorem E4{op x y:Int}(st:StB B H0 H (reP bb a c ns Av rest))(h1:AD op)(h2:AD x)(h3:AD y)(hl:ns.length≤16777216):
  Al Tryz.prog 137 #[.pointer (some ⟨bb,0,none⟩),.int .i64 op,.int .i64 x,.int .i64 y] H
   (fun v H'=>v= .int .i64 (ns.length:Int)∧∃a' c',StB B H0 H' (reP bb a' c' (ns++[A4 op x y]) Av rest)):=by
 refine Al.of_vc Tryz.func137 rfl (Tryz.call137 _) (VC.fa BD ?_);refine ld1 (v:=.slice a ns.length c) Cb (by rw [(st.blk 0 rfl).cell];rfl) trivial ?_;refine MB op x y (A2 C6 (rnL (A4 op x y)) rfl (Ai _) (by decide) (by decide) ?_);intro z H1 hz hs1 hb1 ha1;have st1:=st.skip hz ha1;refine MO (ys:=[A4 op x y]) st1 1 C6 rfl (hb1.cells (o:=0) (cs:=rnL (A4 op x y)) fun j v hv=>by rw [Aa2];exact hv) (Ty.reps_one ⟨rfl,TB h1 h2 h3⟩) rfl (fun u hu=>Aa7.1 (Be _) u hu) (by simp [maxLen];omega) (by simp;omega) fun a9 c9 H9 st9 ha9=>?_;have el:ns.length+[A4 op x y].length=(ns++[A4 op x y]).length:=by simp
 rw [el]at st9 ⊢;refine VC.fa BD (AT st9 0 Cb rfl (show 0<2 by decide) rfl fun H10 st10=>(VC.fa BD ?_));refine ld1 (v:=.slice a9 (ns++[A4 op x y]).length c9) Cb (by rw [(st10.blk 0 rfl).cell];rfl) trivial ?_;have w1:IntKind.wrap .i64 (((ns++[A4 op x y]).length:Int) - 1)=(ns.length:Int):=by
  rw [Aa0,Aa1,w64 (by omega) (by omega)];omega
 (conv=>whnf);rw [w1];(conv=>whnf);exact⟨rfl,a9,c9,st10⟩
def P8(r:ReM)(ms:List RnM):Prop:=r.plain=true→∀d∈ms,d.op≠5∧d.op≠6
structure GrP(B:Nat→Prop)(H0:Aa)(bb:Nat)(Av:Int)(rest:List Pc)(ns:List RnM)(r:ReM)(v:Value)(H':Aa):Prop where
 ex:∃(ms:List RnM) (a':Option Addr) (c':Nat),ms.length=r.nodes∧P8 r ms∧v= .int .i64 ((ns.length+ms.length - 1:Nat):Int)∧Ba (ns++ms) r (ns.length+ms.length - 1)∧StB B H0 H' (reP bb a' c' (ns++ms) Av rest)
def P6(w:RwM):Prop:=∀(B:Nat→Prop) (H0 H:Aa) (bb c:Nat) (a:Option Addr) (ns:List RnM) (Av:Int) (rest:List Pc) (na:Option Addr) (nc i:Nat) (ds:List RnM) (ws:List RwM),Raw ds ws→SlD tRn B H0 na nc ds→(∀k,B k→k<H0.size)→ws[i]? =some w→
 ns.length+w.den.nodes≤4194304→StB B H0 H (reP bb a c ns Av rest)→
 Al Tryz.prog 83 #[.slice na ds.length nc,.int .i64 (i:Int),.pointer (some ⟨bb,0,none⟩)] H (GrP B H0 bb Av rest ns w.den)
theorem AX(r:ReM):1≤r.nodes:=by cases r<;>simp [ReM.nodes]<;>omega
theorem KF{α:Type}(l:List α)(x:α):(l++[x])[l.length]? =some x:=by simp
theorem Bv{n:Nat}(h:n≤4194304):AD (n:Int):=by unfold AD;omega
theorem LA{w:RwM}(IH:P6 w){na:Option Addr}{nc i:Nat}{ds:List RnM}{ws:List RwM}(hR:Raw ds ws)(hd:SlD tRn B H0 na nc ds)(hB:∀k,B k→k<H0.size)(hw:ws[i]? =some w)(hl:ns.length+w.den.nodes+2≤4194304)(st:StB B H0 H (reP bb a c ns Av rest)):
  Al Tryz.prog 174 #[.slice na ds.length nc,.int .i64 (i:Int),.pointer (some ⟨bb,0,none⟩)] H (GrP B H0 bb Av rest ns (AW w.den)):=by
 refine Al.of_vc Tryz.func174 rfl (Tryz.call174 _) (Ag.mk (IH B H0 H bb c a ns Av rest na nc i ds ws hR hd hB hw (by omega) st) ?_);rintro _ H1 ⟨ms,a1,c1,hm,hsg,rfl,ht,st1⟩;have hp:=AX w.den;refine Ag.mk (E4 (op:=0) (x:=0) (y:=0) st1 (by unfold AD;omega) (by unfold AD;omega) (by unfold AD;omega) (by simp;omega)) ?_;rintro _ H2 ⟨rfl,a2,c2,st2⟩;refine Ag.mk (E4 (op:=3) (x:=((ns.length+ms.length - 1:Nat):Int)) (y:=((ns++ms).length:Int)) st2 (by unfold AD;omega) (Bv (by omega)) (Bv (by simp;omega)) (by simp;omega)) ?_;rintro _ H3 ⟨rfl,a3,c3,st3⟩;(conv=>whnf);refine⟨ms++[A4 0 0 0]++[A4 3 ((ns.length+ms.length - 1:Nat):Int) ((ns++ms).length:Int)],a3,c3,?_,?_,?_,?_,?_⟩
 ·simp [AW,ReM.nodes,hm];omega
 ·intro hp d hd;have hp1:w.den.plain=true:=by simpa [AW,ReM.plain]using hp
  simp only [AaS,AaE]at hd;rcases hd with(hd | rfl) | rfl
  ·exact hsg hp1 d hd
  ·exact⟨show(0:Int)≠5 by decide,show(0:Int)≠6 by decide⟩
  ·exact⟨show(3:Int)≠5 by decide,show(3:Int)≠6 by decide⟩
 ·congr 1;simp only [Aa0,Aa1];omega
 ·have e:ns++(ms++[A4 0 0 0]++[A4 3 ((ns.length+ms.length - 1:Nat):Int) ((ns++ms).length:Int)])=((ns++ms)++[A4 0 0 0])++[A4 3 ((ns.length+ms.length - 1:Nat):Int) ((ns++ms).length:Int)]:=by simp [Aa4]
  rw [e];refine⟨A4 3 ((ns.length+ms.length - 1:Nat):Int) ((ns++ms).length:Int),ns.length+ms.length - 1,(ns++ms).length,?_,rfl,rfl,rfl,ht.more.more,⟨A4 0 0 0,Gc (KF _ _),rfl⟩⟩;have:=KF ((ns++ms)++[A4 0 0 0]) (A4 3 ((ns.length+ms.length - 1:Nat):Int) ((ns++ms).length:Int));rw [show ns.length+(ms++[A4 0 0 0]++[A4 3 ((ns.length+ms.length - 1:Nat):Int) ((ns++ms).length:Int)]).length - 1=((ns++ms)++[A4 0 0 0]).length by simp only [Aa0,Aa1];omega];exact this
 ·have e:ns++(ms++[A4 0 0 0]++[A4 3 ((ns.length+ms.length - 1:Nat):Int) ((ns++ms).length:Int)])=((ns++ms)++[A4 0 0 0])++[A4 3 ((ns.length+ms.length - 1:Nat):Int) ((ns++ms).length:Int)]:=by simp [Aa4]
  rw [e];exact st3
end
def rO(r:ReM)(m k:Nat):ReM:=(BA r m k).getD .eps
theorem JK(r:ReM)(m:Nat):rO r m 1=if 0<m then r else AW r:=rfl
theorem GA(r:ReM)(m k:Nat)(h:1≤k):rO r m (k+1)= .cat (rO r m k) (if k<m then r else AW r):=CS r m k h
theorem N9(r:ReM)(m:Nat){k:Nat}(h:1≤k):∀j,(rO r m k).nodes≤(rO r m (k+j)).nodes
 | 0=>Aa3 _
 | j+1=>by
   have ih:=N9 r m h j;have e:(rO r m (k+(j+1))).nodes=1+(rO r m (k+j)).nodes+(if k+j<m then r else AW r).nodes:=by
    rw [show k+(j+1)=(k+j)+1 by omega,GA r m (k+j) (by omega)];rfl
   omega
section
variable{B:Nat→Prop}{H0 H:Aa}{bb c:Nat}{a:Option Addr}{ns:List RnM}{Av:Int}{rest:List Pc}
structure UnI(B:Nat→Prop)(H0:Aa)(bb:Nat)(Av:Int)(rest:List Pc)(ns:List RnM)(r:ReM)(m k:Nat)(out:Int)(G:Aa):Prop where
 ex:∃(ms:List RnM) (a:Option Addr) (c:Nat),(k=0→ms=[]∧out= -1)∧(0<k→ms.length=(rO r m k).nodes∧P8 (rO r m k) ms∧out=((ns.length+ms.length - 1:Nat):Int)∧Ba (ns++ms) (rO r m k) (ns.length+ms.length - 1))∧StB B H0 G (reP bb a c (ns++ms) Av rest)
theorem Es{r1 r2:ReM}{ms1 ms2:List RnM}{op:Int}{R:ReM}{G:Aa}{a':Option Addr}{c':Nat}(h1:ms1.length=r1.nodes)(n1:P8 r1 ms1)(h2:ms2.length=r2.nodes)(n2:P8 r2 ms2)(hg:R.plain=true→r1.plain=true∧r2.plain=true∧op≠5∧op≠6)
  (hR:R.nodes=1+r1.nodes+r2.nodes)
  (hT:∀ns' d j k,ns'[ns.length+(ms1++ms2++[d]).length - 1]? =some d→d=A4 op ((j:Nat):Int) ((k:Nat):Int)→Ba ns' r1 j→Ba ns' r2 k→Ba ns' R (ns.length+(ms1++ms2++[d]).length - 1))
  (t1:Ba (ns++ms1) r1 (ns.length+ms1.length - 1)) (t2:Ba (ns++ms1++ms2) r2 ((ns++ms1).length+ms2.length - 1))
  (st:StB B H0 G (reP bb a' c' (ns++ms1++ms2++[A4 op ((ns.length+ms1.length - 1:Nat):Int) (((ns++ms1).length+ms2.length - 1:Nat):Int)]) Av rest)):
  GrP B H0 bb Av rest ns R (.int .i64 ((ns++ms1++ms2).length:Int)) G:=by
 have p1:=AX r1;have p2:=AX r2;obtain⟨d,hd⟩:∃d,d=A4 op ((ns.length+ms1.length - 1:Nat):Int) (((ns++ms1).length+ms2.length - 1:Nat):Int):=⟨_,rfl⟩;rw [←hd]at st;have e:ns++(ms1++ms2++[d])=ns++ms1++ms2++[d]:=by simp [Aa4]
 refine⟨ms1++ms2++[d],a',c',?_,?_,?_,?_,?_⟩
 ·simp only [Aa0,Aa1,h1,h2];omega
 ·intro hp x hx;obtain⟨k1,k2,k3,k4⟩:=hg hp;simp only [AaS,AaE]at hx;rcases hx with(hx | hx) | hx
  ·exact n1 k1 x hx
  ·exact n2 k2 x hx
  ·rw [hx,hd];exact⟨k3,k4⟩
 ·congr 1;simp only [Aa0,Aa1];omega
 ·rw [e];refine hT _ d _ _ ?_ hd t1.more.more t2.more;rw [show ns.length+(ms1++ms2++[d]).length - 1=(ns++ms1++ms2).length by simp only [Aa0,Aa1];omega];exact KF _ _
 ·rw [e];exact st
theorem L0{r1:ReM}{ms1:List RnM}{G:Aa}{a':Option Addr}{c':Nat}(h1:ms1.length=r1.nodes)(n1:P8 r1 ms1)(t1:Ba (ns++ms1) r1 (ns.length+ms1.length - 1))
  (st:StB B H0 G (reP bb a' c' (ns++ms1++[A4 4 ((ns.length+ms1.length - 1:Nat):Int) 0]) Av rest)):
  GrP B H0 bb Av rest ns (.star r1) (.int .i64 ((ns++ms1).length:Int)) G:=by
 have p1:=AX r1;have e:ns++(ms1++[A4 4 ((ns.length+ms1.length - 1:Nat):Int) 0])=ns++ms1++[A4 4 ((ns.length+ms1.length - 1:Nat):Int) 0]:=by simp [Aa4]
 refine⟨ms1++[A4 4 ((ns.length+ms1.length - 1:Nat):Int) 0],a',c',?_,?_,?_,?_,?_⟩
 ·simp only [Aa0,Aa1,h1,ReM.nodes];omega
 ·intro hp x hx;simp only [AaS,AaE]at hx;rcases hx with hx | rfl
  ·exact n1 hp x hx
  ·exact⟨show(4:Int)≠5 by decide,show(4:Int)≠6 by decide⟩
 ·congr 1;simp only [Aa0,Aa1];omega
 ·rw [e];refine⟨A4 4 ((ns.length+ms1.length - 1:Nat):Int) 0,ns.length+ms1.length - 1,?_,rfl,rfl,t1.more⟩;rw [show ns.length+(ms1++[A4 4 ((ns.length+ms1.length - 1:Nat):Int) 0]).length - 1=(ns++ms1).length by simp only [Aa0,Aa1];omega];exact KF _ _
 ·rw [e];exact st
theorem R6{G:Aa}{a':Option Addr}{c':Nat}(st:StB B H0 G (reP bb a' c' (ns++[A4 0 0 0]) Av rest)):GrP B H0 bb Av rest ns .eps (.int .i64 (ns.length:Int)) G:=
 ⟨[A4 0 0 0],a',c',rfl,fun _ x hx=>by rcases AaE.1 hx with rfl;exact⟨show(0:Int)≠5 by decide,show(0:Int)≠6 by decide⟩,by simp,⟨A4 0 0 0,by simp,rfl⟩,st⟩
theorem GrP.drop{ms:List Pc}{r:ReM}{v:Value}{G:Aa}(h:GrP B H0 bb Av (rest++ms) ns r v G):GrP B H0 bb Av rest ns r v G:=by
 obtain⟨ms1,a1,c1,h1,hs,h2,h3,st⟩:=h;exact⟨ms1,a1,c1,h1,hs,h2,h3,st.subl (List.Sublist.cons_cons _ (List.Sublist.cons_cons _ (List.sublist_append_left _ _)))⟩
theorem Vn{w:RwM}(IH:P6 w){na:Option Addr}{nc i:Nat}{ds:List RnM}{ws:List RwM}{m n:Int}(hR:Raw ds ws)(hd:SlD tRn B H0 na nc ds)(hB:∀k,B k→k<H0.size)(hw:ws[i]? =some w)(hrk:QS m n)(hl:ns.length+(BH w.den (AJ m) n).nodes≤4194304)(st:StB B H0 H (reP bb a c ns Av rest)):
  Al Tryz.prog 136 #[.slice na ds.length nc,.agg (rnL (B9 (i:Int) m n)).toArray,.pointer (some ⟨bb,0,none⟩)] H (GrP B H0 bb Av rest ns (BH w.den (AJ m) n)):=by
 have hmx:AJ m≤255:=by unfold AJ;split<;>rcases hrk with h | h<;>omega
 have hnx1:n≤255:=by rcases hrk with h | h<;>omega
 have hnx2: -1≤n:=by rcases hrk with h | h<;>omega
 have hmn:0≤n→((AJ m:Nat):Int)≤n:=by intro h0;unfold AJ;rcases hrk with h | h<;>split<;>omega
 have hpos:=AX w.den;refine Al.of_vc Tryz.func136 rfl (Tryz.call136 _) (B0 (rnL (B9 (i:Int) m n)) rfl ?_);intro x H1 hx hs1 hb1 ha1;have st1:=st.box hx hs1 hb1 ha1;replace st1:StB B H0 H1 (reP bb a c ns Av (rest++[pB 159 x (rnL (B9 (i:Int) m n))])):=st1;refine VC.fa Rw ?_;refine ld1 (v:=.int .i64 m) ct3 (by rw [(st1.blk _ (lgR (_::_::rest) _ 0)).cell,Aa2];exact Zf _) trivial ?_;(conv=>whnf);refine Am.cut [7] (fun _:Unit=>[.int .i64 ((AJ m:Nat):Int)]) (fun _ G=>StB B H0 G (reP bb a c ns Av (rest++[pB 159 x (rnL (B9 (i:Int) m n))]))) ?_ ?_
 ·by_cases h2:m= -2
  ·subst h2;(conv=>whnf);exact⟨rfl,(),rfl,st1⟩
  ·have d1:(m== -2)=false:=beq_eq_false_iff_ne.2 h2;(conv=>whnf);rw [d1];(conv=>whnf);refine⟨rfl,(),?_,st1⟩;have:((AJ m:Nat):Int)=m:=by
    unfold AJ;rw [if_neg h2];have:0≤m:=by rcases hrk with h | h<;>omega
    omega
   rw [this]
 rintro⟨⟩ G junk sg;clear st st1 hb1 ha1;refine VC.fa F7 ?_;refine ld1 (v:=.int .i64 n) ct3 (by rw [(sg.blk _ (lgR (_::_::rest) _ 0)).cell,Aa2];exact Pd _) trivial ?_;(conv=>whnf);by_cases h1:n<0
 ·have d1:decide (n<0)=true:=decide_eq_true h1;rw [d1];by_cases h0:AJ m=0
  ·have hrep:BH w.den (AJ m) n= .star w.den:=by unfold BH;rw [if_pos h1,if_pos h0]
   rw [hrep]at hl ⊢;simp only [ReM.nodes]at hl;have d2:(((AJ m:Nat):Int)==0)=true:=by rw [h0];rfl
   (conv=>whnf);rw [d2];refine VC.fa Bh ?_;refine ld1 (v:=.int .i64 (i:Int)) ct3 (by rw [(sg.blk _ (lgR (_::_::rest) _ 0)).cell,Aa2];exact ET _) trivial ?_;refine Ag.mk (IH B H0 _ bb _ _ (ns) Av (rest++[pB 159 x (rnL (B9 (i:Int) m n))]) na nc i ds ws hR hd hB hw (by omega) sg) ?_;rintro _ G1 ⟨ms1,a1,c1,hm1,hs1,rfl,ht1,sg1⟩;refine Ag.mk (E4 (op:=4) (x:=((ns.length+ms1.length - 1:Nat):Int)) (y:=0) sg1 (by unfold AD;omega) (Bv (by omega)) (by unfold AD;omega) (by simp;omega)) ?_;rintro _ G2 ⟨rfl,a2,c2,sg2⟩;(conv=>whnf);exact(L0 hm1 hs1 ht1 sg2).drop
  ·have d2:(((AJ m:Nat):Int)==0)=false:=beq_eq_false_iff_ne.2 (by omega);(conv=>whnf);rw [d2];have hns:¬(n<0∧AJ m=0):=fun h=>h0 h.2;clear d1 d2;refine VC.fa F7 ?_;refine ld1 (v:=.int .i64 n) ct3 (by rw [(sg.blk _ (lgR (_::_::rest) _ 0)).cell,Aa2];exact Pd _) trivial ?_;(conv=>whnf);by_cases h0:n=0
   ·have d1:(n==0)=true:=by rw [h0];rfl
    have hrep:BH w.den (AJ m) n= .eps:=by unfold BH;rw [if_neg (by omega),if_pos h0]
    rw [hrep]at hl ⊢;simp only [ReM.nodes]at hl;rw [d1];refine Ag.mk (E4 (op:=0) (x:=0) (y:=0) sg (by unfold AD;omega) (by unfold AD;omega) (by unfold AD;omega) (by omega)) ?_;rintro _ G3 ⟨rfl,a2,c2,sg3⟩;(conv=>whnf);exact(R6 sg3).drop
   ·have d1:(n==0)=false:=beq_eq_false_iff_ne.2 h0;rw [d1];have hn0:n≠0:=h0;have sg3:=sg;clear sg;obtain⟨K,hK⟩:∃K:Nat,K=if n<0 then AJ m else n.toNat:=⟨_,rfl⟩
    have hK1:1≤K:=by rw [hK];split<;>omega
    have hKb:K≤255:=by rw [hK];split<;>omega
    have hKO:(rO w.den (AJ m) K).nodes≤(BH w.den (AJ m) n).nodes:=by
     unfold BH;by_cases h1:n<0
     ·rw [if_pos h1,if_neg (by omega),hK,if_pos h1];show _≤1+((BA w.den (AJ m) (AJ m)).getD .eps).nodes+_;unfold rO;omega
     ·rw [if_neg h1,if_neg hn0,hK,if_neg h1];exact Aa3 _
    refine VC.fa F7 ?_;refine ld1 (v:=.int .i64 n) ct3 (by rw [(sg3.blk _ (lgR (_::_::rest) _ 0)).cell,Aa2];exact Pd _) trivial ?_;(conv=>whnf);refine Am.cut [8] (fun _:Unit=>[.int .i64 (K:Int)]) (fun _ G=>StB B H0 G (reP bb a c ns Av (rest++[pB 159 x (rnL (B9 (i:Int) m n))]))) ?_ ?_
    ·(conv=>whnf);by_cases h1:n<0
     ·have d1:decide (n<0)=true:=decide_eq_true h1;rw [d1];(conv=>whnf);exact⟨rfl,(),by rw [hK,if_pos h1],sg3⟩
     ·have d1:decide (n<0)=false:=decide_eq_false h1;rw [d1];(conv=>whnf);exact⟨rfl,(),by rw [hK,if_neg h1,AaU (by omega)],sg3⟩
    rintro⟨⟩ G4 junk4 sg4;clear sg3;(conv=>whnf);refine A3.mk [9,10] (fun y:Nat×Int=>match y with | (k,out)=>[.int .i64 out,.int .i64 (k:Int)]) (fun y G=>match y with | (k,out)=>k≤K∧UnI B H0 bb Av (rest++[pB 159 x (rnL (B9 (i:Int) m n))]) ns w.den (AJ m) k out G) (fun y _=>match y with | (k,_)=>K - k) ?_ ?_
    ·(conv=>whnf);exact⟨(0,-1),rfl,AaG _,⟨[],_,_,fun _=>⟨rfl,rfl⟩,fun h=>absurd h (by decide),by simpa using sg4⟩⟩
    ·rintro⟨k,out⟩ G junk5 ⟨hk,⟨ms,a1,c1,hz0,hz1,sg⟩⟩;clear sg4;have hnext:k<K→(rO w.den (AJ m) (k+1)).nodes≤(BH w.den (AJ m) n).nodes:=fun h=>by
      have:=N9 w.den (AJ m) (k:=k+1) (by omega) (K - (k+1));rw [show k+1+(K - (k+1))=K by omega]at this;omega
     have hpart:k<K→(ns++ms).length+(if k<AJ m then w.den else AW w.den).nodes≤4194304:=fun h=>by
      have h1:=hnext h;by_cases hk0:k=0
      ·obtain⟨rfl,-⟩:=hz0 hk0;subst hk0;rw [JK]at h1;simp only [AaF];omega
      ·obtain⟨hm1,-,-,-⟩:=hz1 (by omega);rw [GA _ _ _ (by omega)]at h1;simp only [ReM.nodes]at h1;simp only [Aa0];omega
     refine AB.mk (fun hz=>?_) (fun hz=>?_)<;>simp only [decide_eq_true_eq,decide_eq_false_iff_not]at hz
     ·have hkK:k<K:=by omega
      replace hnext:=hnext hkK;replace hpart:=hpart hkK;(conv=>whnf);try (refine Am.run ?_)
      (conv=>whnf);try (refine Am.run ?_)
      (conv=>whnf);by_cases hkm:k<AJ m
      ·have d1:decide ((k:Int)<((AJ m:Nat):Int))=true:=decide_eq_true (by omega);rw [if_pos hkm]at hpart;rw [d1];refine VC.fa Bh ?_;refine ld1 (v:=.int .i64 (i:Int)) ct3 (by rw [(sg.blk _ (lgR (_::_::rest) _ 0)).cell,Aa2];exact ET _) trivial ?_;refine Ag.mk (IH B H0 _ bb _ _ (ns++ms) Av (rest++[pB 159 x (rnL (B9 (i:Int) m n))]) na nc i ds ws hR hd hB hw (by omega) sg) ?_;rintro _ G1 ⟨ms2,a2,c2,hm2,hs2,rfl,ht2,st2⟩;have p2:=AX (w.den);(conv=>whnf);try (refine Am.run ?_)
       (conv=>whnf);by_cases hk0:k=0
       ·obtain⟨rfl,rfl⟩:=hz0 hk0;subst hk0;(conv=>whnf);rw [w64 (x:=((0:Nat):Int)+1) (by omega) (by omega)];have e1:rO w.den (AJ m) 1=w.den:=by rw [JK];exact if_pos hkm
        refine⟨rfl,(1,_),rfl,⟨by omega,⟨ms2,a2,c2,fun h=>absurd h (by decide),fun _=>?_,by simpa using st2⟩⟩,by show K - 1<K - 0;omega⟩;rw [e1];simp only [AaF]at ht2;exact⟨hm2,hs2,by simp,ht2⟩
       ·obtain⟨hm1,hs1,rfl,ht1⟩:=hz1 (by omega);have hnx:rO w.den (AJ m) (k+1)= .cat (rO w.den (AJ m) k) (w.den):=by rw [GA _ _ _ (by omega)];rw [if_pos hkm]
        have hnn:(rO w.den (AJ m) (k+1)).nodes=1+(rO w.den (AJ m) k).nodes+(w.den).nodes:=by rw [hnx];rfl
        have p1:=AX (rO w.den (AJ m) k);have hout:decide (((ns.length+ms.length - 1:Nat):Int)<0)=false:=decide_eq_false (by omega)
        try rw [hout]
        refine Ag.mk (E4 (op:=2) (x:=((ns.length+ms.length - 1:Nat):Int)) (y:=(((ns++ms).length+ms2.length - 1:Nat):Int)) st2 (by unfold AD;omega) (Bv (by omega)) (Bv (by simp;omega)) (by simp;omega)) ?_;rintro _ G2 ⟨rfl,a3,c3,st3⟩;(conv=>whnf);rw [w64 (x:=(k:Int)+1) (by omega) (by omega)];obtain⟨ms3,a4,c4,g1,gs,g2,g3,g4⟩:=Es (R:=rO w.den (AJ m) (k+1)) hm1 hs1 hm2 hs2 (fun h=>by rw [hnx]at h;simp only [ReM.plain,AaA]at h;exact⟨h.1,h.2,by decide,by decide⟩) hnn (fun ns' d j k' h1 h2 h3 h4=>by rw [hnx];exact⟨d,j,k',h1,by rw [h2];rfl,by rw [h2];rfl,by rw [h2];rfl,h3,h4⟩) ht1 ht2 st3;have g2':((ns++ms++ms2).length:Int)=((ns.length+ms3.length - 1:Nat):Int):=by injection g2
        refine⟨rfl,(k+1,((ns++ms++ms2).length:Int)),rfl,⟨by omega,⟨ms3,a4,c4,fun h=>absurd h (by omega),fun _=>⟨g1,gs,g2',g3⟩,g4⟩⟩,by show K - (k+1)<K - k;omega⟩
      ·have d1:decide ((k:Int)<((AJ m:Nat):Int))=false:=decide_eq_false (by omega);rw [if_neg hkm]at hpart;rw [d1];refine VC.fa Bh ?_;refine ld1 (v:=.int .i64 (i:Int)) ct3 (by rw [(sg.blk _ (lgR (_::_::rest) _ 0)).cell,Aa2];exact ET _) trivial ?_;refine Ag.mk (LA IH hR hd hB hw (by simp only [AW,ReM.nodes]at hpart;omega) sg) ?_;rintro _ G1 ⟨ms2,a2,c2,hm2,hs2,rfl,ht2,st2⟩;have p2:=AX (AW w.den);(conv=>whnf);try (refine Am.run ?_)
       (conv=>whnf);by_cases hk0:k=0
       ·obtain⟨rfl,rfl⟩:=hz0 hk0;subst hk0;(conv=>whnf);rw [w64 (x:=((0:Nat):Int)+1) (by omega) (by omega)];have e1:rO w.den (AJ m) 1=AW w.den:=by rw [JK];exact if_neg hkm
        refine⟨rfl,(1,_),rfl,⟨by omega,⟨ms2,a2,c2,fun h=>absurd h (by decide),fun _=>?_,by simpa using st2⟩⟩,by show K - 1<K - 0;omega⟩;rw [e1];simp only [AaF]at ht2;exact⟨hm2,hs2,by simp,ht2⟩
       ·obtain⟨hm1,hs1,rfl,ht1⟩:=hz1 (by omega);have hnx:rO w.den (AJ m) (k+1)= .cat (rO w.den (AJ m) k) (AW w.den):=by rw [GA _ _ _ (by omega)];rw [if_neg hkm]
        have hnn:(rO w.den (AJ m) (k+1)).nodes=1+(rO w.den (AJ m) k).nodes+(AW w.den).nodes:=by rw [hnx];rfl
        have p1:=AX (rO w.den (AJ m) k);have hout:decide (((ns.length+ms.length - 1:Nat):Int)<0)=false:=decide_eq_false (by omega)
        try rw [hout]
        refine Ag.mk (E4 (op:=2) (x:=((ns.length+ms.length - 1:Nat):Int)) (y:=(((ns++ms).length+ms2.length - 1:Nat):Int)) st2 (by unfold AD;omega) (Bv (by omega)) (Bv (by simp;omega)) (by simp;omega)) ?_;rintro _ G2 ⟨rfl,a3,c3,st3⟩;(conv=>whnf);rw [w64 (x:=(k:Int)+1) (by omega) (by omega)];obtain⟨ms3,a4,c4,g1,gs,g2,g3,g4⟩:=Es (R:=rO w.den (AJ m) (k+1)) hm1 hs1 hm2 hs2 (fun h=>by rw [hnx]at h;simp only [ReM.plain,AaA]at h;exact⟨h.1,h.2,by decide,by decide⟩) hnn (fun ns' d j k' h1 h2 h3 h4=>by rw [hnx];exact⟨d,j,k',h1,by rw [h2];rfl,by rw [h2];rfl,by rw [h2];rfl,h3,h4⟩) ht1 ht2 st3;have g2':((ns++ms++ms2).length:Int)=((ns.length+ms3.length - 1:Nat):Int):=by injection g2
        refine⟨rfl,(k+1,((ns++ms++ms2).length:Int)),rfl,⟨by omega,⟨ms3,a4,c4,fun h=>absurd h (by omega),fun _=>⟨g1,gs,g2',g3⟩,g4⟩⟩,by show K - (k+1)<K - k;omega⟩
     ·obtain rfl:k=K:=by omega
      obtain⟨hm1,hs1,rfl,ht1⟩:=hz1 (by omega);have p1:=AX (rO w.den (AJ m) k);(conv=>whnf);try (refine Am.run ?_)
      refine VC.fa F7 ?_;refine ld1 (v:=.int .i64 n) ct3 (by rw [(sg.blk _ (lgR (_::_::rest) _ 0)).cell,Aa2];exact Pd _) trivial ?_;(conv=>whnf);by_cases h1:n<0
      ·have d1:decide (n<0)=true:=decide_eq_true h1;rw [if_pos h1]at hK;have hrep:BH w.den (AJ m) n= .cat (rO w.den (AJ m) k) (.star w.den):=by unfold BH;rw [if_pos h1,if_neg (by omega),hK];rfl
       rw [hrep]at hl ⊢;simp only [ReM.nodes]at hl;rw [d1];refine VC.fa Bh ?_;refine ld1 (v:=.int .i64 (i:Int)) ct3 (by rw [(sg.blk _ (lgR (_::_::rest) _ 0)).cell,Aa2];exact ET _) trivial ?_;refine Ag.mk (IH B H0 _ bb _ _ (ns++ms) Av (rest++[pB 159 x (rnL (B9 (i:Int) m n))]) na nc i ds ws hR hd hB hw (by simp only [Aa0];omega) sg) ?_;rintro _ G6 ⟨ms1,a6,c6,hm6,hs6,rfl,ht6,sg6⟩;refine Ag.mk (E4 (op:=4) (x:=(((ns++ms).length+ms1.length - 1:Nat):Int)) (y:=0) sg6 (by unfold AD;omega) (Bv (by simp only [Aa0];omega)) (by unfold AD;omega) (by simp only [Aa0];omega)) ?_;rintro _ G7 ⟨rfl,a7,c7,sg7⟩;obtain⟨ms2,a8,c8,g1,gs,g2,g3,g4⟩:=L0 hm6 hs6 ht6 sg7;have g2':((ns++ms++ms1).length:Int)=(((ns++ms).length+ms2.length - 1:Nat):Int):=by injection g2
       rw [g2'];simp only [ReM.nodes]at g1;refine Ag.mk (E4 (op:=2) (x:=((ns.length+ms.length - 1:Nat):Int)) (y:=(((ns++ms).length+ms2.length - 1:Nat):Int)) g4 (by unfold AD;omega) (Bv (by omega)) (Bv (by simp only [Aa0];omega)) (by simp only [Aa0];omega)) ?_;rintro _ G8 ⟨rfl,a9,c9,sg9⟩;(conv=>whnf);exact(Es (R:=.cat (rO w.den (AJ m) k) (.star w.den)) hm1 hs1 (r2:=.star w.den) (by simp only [ReM.nodes];exact g1) gs (fun h=>by simp only [ReM.plain,AaA]at h ⊢;exact⟨h.1,h.2,by decide,by decide⟩) rfl (fun ns' d j k' h1 h2 h3 h4=>⟨d,j,k',h1,by rw [h2];rfl,by rw [h2];rfl,by rw [h2];rfl,h3,h4⟩) ht1 g3 sg9).drop
      ·have d1:decide (n<0)=false:=decide_eq_false h1;rw [if_neg h1]at hK;have hrep:BH w.den (AJ m) n=rO w.den (AJ m) k:=by unfold BH;rw [if_neg h1,if_neg hn0,hK];rfl
       rw [hrep];rw [d1];(conv=>whnf);exact GrP.drop ⟨ms,a1,c1,hm1,hs1,rfl,ht1,sg⟩
 ·have d1:decide (n<0)=false:=decide_eq_false h1;rw [d1];have hns:¬(n<0∧AJ m=0):=fun h=>h1 h.1;clear d1;refine VC.fa F7 ?_;refine ld1 (v:=.int .i64 n) ct3 (by rw [(sg.blk _ (lgR (_::_::rest) _ 0)).cell,Aa2];exact Pd _) trivial ?_;(conv=>whnf);by_cases h0:n=0
  ·have d1:(n==0)=true:=by rw [h0];rfl
   have hrep:BH w.den (AJ m) n= .eps:=by unfold BH;rw [if_neg (by omega),if_pos h0]
   rw [hrep]at hl ⊢;simp only [ReM.nodes]at hl;rw [d1];refine Ag.mk (E4 (op:=0) (x:=0) (y:=0) sg (by unfold AD;omega) (by unfold AD;omega) (by unfold AD;omega) (by omega)) ?_;rintro _ G3 ⟨rfl,a2,c2,sg3⟩;(conv=>whnf);exact(R6 sg3).drop
  ·have d1:(n==0)=false:=beq_eq_false_iff_ne.2 h0;rw [d1];have hn0:n≠0:=h0;have sg3:=sg;clear sg;obtain⟨K,hK⟩:∃K:Nat,K=if n<0 then AJ m else n.toNat:=⟨_,rfl⟩
   have hK1:1≤K:=by rw [hK];split<;>omega
   have hKb:K≤255:=by rw [hK];split<;>omega
   have hKO:(rO w.den (AJ m) K).nodes≤(BH w.den (AJ m) n).nodes:=by
    unfold BH;by_cases h1:n<0
    ·rw [if_pos h1,if_neg (by omega),hK,if_pos h1];show _≤1+((BA w.den (AJ m) (AJ m)).getD .eps).nodes+_;unfold rO;omega
    ·rw [if_neg h1,if_neg hn0,hK,if_neg h1];exact Aa3 _
   refine VC.fa F7 ?_;refine ld1 (v:=.int .i64 n) ct3 (by rw [(sg3.blk _ (lgR (_::_::rest) _ 0)).cell,Aa2];exact Pd _) trivial ?_;(conv=>whnf);refine Am.cut [8] (fun _:Unit=>[.int .i64 (K:Int)]) (fun _ G=>StB B H0 G (reP bb a c ns Av (rest++[pB 159 x (rnL (B9 (i:Int) m n))]))) ?_ ?_
   ·(conv=>whnf);by_cases h1:n<0
    ·have d1:decide (n<0)=true:=decide_eq_true h1;rw [d1];(conv=>whnf);exact⟨rfl,(),by rw [hK,if_pos h1],sg3⟩
    ·have d1:decide (n<0)=false:=decide_eq_false h1;rw [d1];(conv=>whnf);exact⟨rfl,(),by rw [hK,if_neg h1,AaU (by omega)],sg3⟩
   rintro⟨⟩ G4 junk4 sg4;clear sg3;(conv=>whnf);refine A3.mk [9,10] (fun y:Nat×Int=>match y with | (k,out)=>[.int .i64 out,.int .i64 (k:Int)]) (fun y G=>match y with | (k,out)=>k≤K∧UnI B H0 bb Av (rest++[pB 159 x (rnL (B9 (i:Int) m n))]) ns w.den (AJ m) k out G) (fun y _=>match y with | (k,_)=>K - k) ?_ ?_
   ·(conv=>whnf);exact⟨(0,-1),rfl,AaG _,⟨[],_,_,fun _=>⟨rfl,rfl⟩,fun h=>absurd h (by decide),by simpa using sg4⟩⟩
   ·rintro⟨k,out⟩ G junk5 ⟨hk,⟨ms,a1,c1,hz0,hz1,sg⟩⟩;clear sg4;have hnext:k<K→(rO w.den (AJ m) (k+1)).nodes≤(BH w.den (AJ m) n).nodes:=fun h=>by
     have:=N9 w.den (AJ m) (k:=k+1) (by omega) (K - (k+1));rw [show k+1+(K - (k+1))=K by omega]at this;omega
    have hpart:k<K→(ns++ms).length+(if k<AJ m then w.den else AW w.den).nodes≤4194304:=fun h=>by
     have h1:=hnext h;by_cases hk0:k=0
     ·obtain⟨rfl,-⟩:=hz0 hk0;subst hk0;rw [JK]at h1;simp only [AaF];omega
     ·obtain⟨hm1,-,-,-⟩:=hz1 (by omega);rw [GA _ _ _ (by omega)]at h1;simp only [ReM.nodes]at h1;simp only [Aa0];omega
    refine AB.mk (fun hz=>?_) (fun hz=>?_)<;>simp only [decide_eq_true_eq,decide_eq_false_iff_not]at hz
    ·have hkK:k<K:=by omega
     replace hnext:=hnext hkK;replace hpart:=hpart hkK;(conv=>whnf);try (refine Am.run ?_)
     (conv=>whnf);try (refine Am.run ?_)
     (conv=>whnf);by_cases hkm:k<AJ m
     ·have d1:decide ((k:Int)<((AJ m:Nat):Int))=true:=decide_eq_true (by omega);rw [if_pos hkm]at hpart;rw [d1];refine VC.fa Bh ?_;refine ld1 (v:=.int .i64 (i:Int)) ct3 (by rw [(sg.blk _ (lgR (_::_::rest) _ 0)).cell,Aa2];exact ET _) trivial ?_;refine Ag.mk (IH B H0 _ bb _ _ (ns++ms) Av (rest++[pB 159 x (rnL (B9 (i:Int) m n))]) na nc i ds ws hR hd hB hw (by omega) sg) ?_;rintro _ G1 ⟨ms2,a2,c2,hm2,hs2,rfl,ht2,st2⟩;have p2:=AX (w.den);(conv=>whnf);try (refine Am.run ?_)
      (conv=>whnf);by_cases hk0:k=0
      ·obtain⟨rfl,rfl⟩:=hz0 hk0;subst hk0;(conv=>whnf);rw [w64 (x:=((0:Nat):Int)+1) (by omega) (by omega)];have e1:rO w.den (AJ m) 1=w.den:=by rw [JK];exact if_pos hkm
       refine⟨rfl,(1,_),rfl,⟨by omega,⟨ms2,a2,c2,fun h=>absurd h (by decide),fun _=>?_,by simpa using st2⟩⟩,by show K - 1<K - 0;omega⟩;rw [e1];simp only [AaF]at ht2;exact⟨hm2,hs2,by simp,ht2⟩
      ·obtain⟨hm1,hs1,rfl,ht1⟩:=hz1 (by omega);have hnx:rO w.den (AJ m) (k+1)= .cat (rO w.den (AJ m) k) (w.den):=by rw [GA _ _ _ (by omega)];rw [if_pos hkm]
       have hnn:(rO w.den (AJ m) (k+1)).nodes=1+(rO w.den (AJ m) k).nodes+(w.den).nodes:=by rw [hnx];rfl
       have p1:=AX (rO w.den (AJ m) k);have hout:decide (((ns.length+ms.length - 1:Nat):Int)<0)=false:=decide_eq_false (by omega)
       try rw [hout]
       refine Ag.mk (E4 (op:=2) (x:=((ns.length+ms.length - 1:Nat):Int)) (y:=(((ns++ms).length+ms2.length - 1:Nat):Int)) st2 (by unfold AD;omega) (Bv (by omega)) (Bv (by simp;omega)) (by simp;omega)) ?_;rintro _ G2 ⟨rfl,a3,c3,st3⟩;(conv=>whnf);rw [w64 (x:=(k:Int)+1) (by omega) (by omega)];obtain⟨ms3,a4,c4,g1,gs,g2,g3,g4⟩:=Es (R:=rO w.den (AJ m) (k+1)) hm1 hs1 hm2 hs2 (fun h=>by rw [hnx]at h;simp only [ReM.plain,AaA]at h;exact⟨h.1,h.2,by decide,by decide⟩) hnn (fun ns' d j k' h1 h2 h3 h4=>by rw [hnx];exact⟨d,j,k',h1,by rw [h2];rfl,by rw [h2];rfl,by rw [h2];rfl,h3,h4⟩) ht1 ht2 st3;have g2':((ns++ms++ms2).length:Int)=((ns.length+ms3.length - 1:Nat):Int):=by injection g2
       refine⟨rfl,(k+1,((ns++ms++ms2).length:Int)),rfl,⟨by omega,⟨ms3,a4,c4,fun h=>absurd h (by omega),fun _=>⟨g1,gs,g2',g3⟩,g4⟩⟩,by show K - (k+1)<K - k;omega⟩
     ·have d1:decide ((k:Int)<((AJ m:Nat):Int))=false:=decide_eq_false (by omega);rw [if_neg hkm]at hpart;rw [d1];refine VC.fa Bh ?_;refine ld1 (v:=.int .i64 (i:Int)) ct3 (by rw [(sg.blk _ (lgR (_::_::rest) _ 0)).cell,Aa2];exact ET _) trivial ?_;refine Ag.mk (LA IH hR hd hB hw (by simp only [AW,ReM.nodes]at hpart;omega) sg) ?_;rintro _ G1 ⟨ms2,a2,c2,hm2,hs2,rfl,ht2,st2⟩;have p2:=AX (AW w.den);(conv=>whnf);try (refine Am.run ?_)
      (conv=>whnf);by_cases hk0:k=0
      ·obtain⟨rfl,rfl⟩:=hz0 hk0;subst hk0;(conv=>whnf);rw [w64 (x:=((0:Nat):Int)+1) (by omega) (by omega)];have e1:rO w.den (AJ m) 1=AW w.den:=by rw [JK];exact if_neg hkm
       refine⟨rfl,(1,_),rfl,⟨by omega,⟨ms2,a2,c2,fun h=>absurd h (by decide),fun _=>?_,by simpa using st2⟩⟩,by show K - 1<K - 0;omega⟩;rw [e1];simp only [AaF]at ht2;exact⟨hm2,hs2,by simp,ht2⟩
      ·obtain⟨hm1,hs1,rfl,ht1⟩:=hz1 (by omega);have hnx:rO w.den (AJ m) (k+1)= .cat (rO w.den (AJ m) k) (AW w.den):=by rw [GA _ _ _ (by omega)];rw [if_neg hkm]
       have hnn:(rO w.den (AJ m) (k+1)).nodes=1+(rO w.den (AJ m) k).nodes+(AW w.den).nodes:=by rw [hnx];rfl
       have p1:=AX (rO w.den (AJ m) k);have hout:decide (((ns.length+ms.length - 1:Nat):Int)<0)=false:=decide_eq_false (by omega)
       try rw [hout]
       refine Ag.mk (E4 (op:=2) (x:=((ns.length+ms.length - 1:Nat):Int)) (y:=(((ns++ms).length+ms2.length - 1:Nat):Int)) st2 (by unfold AD;omega) (Bv (by omega)) (Bv (by simp;omega)) (by simp;omega)) ?_;rintro _ G2 ⟨rfl,a3,c3,st3⟩;(conv=>whnf);rw [w64 (x:=(k:Int)+1) (by omega) (by omega)];obtain⟨ms3,a4,c4,g1,gs,g2,g3,g4⟩:=Es (R:=rO w.den (AJ m) (k+1)) hm1 hs1 hm2 hs2 (fun h=>by rw [hnx]at h;simp only [ReM.plain,AaA]at h;exact⟨h.1,h.2,by decide,by decide⟩) hnn (fun ns' d j k' h1 h2 h3 h4=>by rw [hnx];exact⟨d,j,k',h1,by rw [h2];rfl,by rw [h2];rfl,by rw [h2];rfl,h3,h4⟩) ht1 ht2 st3;have g2':((ns++ms++ms2).length:Int)=((ns.length+ms3.length - 1:Nat):Int):=by injection g2
       refine⟨rfl,(k+1,((ns++ms++ms2).length:Int)),rfl,⟨by omega,⟨ms3,a4,c4,fun h=>absurd h (by omega),fun _=>⟨g1,gs,g2',g3⟩,g4⟩⟩,by show K - (k+1)<K - k;omega⟩
    ·obtain rfl:k=K:=by omega
     obtain⟨hm1,hs1,rfl,ht1⟩:=hz1 (by omega);have p1:=AX (rO w.den (AJ m) k);(conv=>whnf);try (refine Am.run ?_)
     refine VC.fa F7 ?_;refine ld1 (v:=.int .i64 n) ct3 (by rw [(sg.blk _ (lgR (_::_::rest) _ 0)).cell,Aa2];exact Pd _) trivial ?_;(conv=>whnf);by_cases h1:n<0
     ·have d1:decide (n<0)=true:=decide_eq_true h1;rw [if_pos h1]at hK;have hrep:BH w.den (AJ m) n= .cat (rO w.den (AJ m) k) (.star w.den):=by unfold BH;rw [if_pos h1,if_neg (by omega),hK];rfl
      rw [hrep]at hl ⊢;simp only [ReM.nodes]at hl;rw [d1];refine VC.fa Bh ?_;refine ld1 (v:=.int .i64 (i:Int)) ct3 (by rw [(sg.blk _ (lgR (_::_::rest) _ 0)).cell,Aa2];exact ET _) trivial ?_;refine Ag.mk (IH B H0 _ bb _ _ (ns++ms) Av (rest++[pB 159 x (rnL (B9 (i:Int) m n))]) na nc i ds ws hR hd hB hw (by simp only [Aa0];omega) sg) ?_;rintro _ G6 ⟨ms1,a6,c6,hm6,hs6,rfl,ht6,sg6⟩;refine Ag.mk (E4 (op:=4) (x:=(((ns++ms).length+ms1.length - 1:Nat):Int)) (y:=0) sg6 (by unfold AD;omega) (Bv (by simp only [Aa0];omega)) (by unfold AD;omega) (by simp only [Aa0];omega)) ?_;rintro _ G7 ⟨rfl,a7,c7,sg7⟩;obtain⟨ms2,a8,c8,g1,gs,g2,g3,g4⟩:=L0 hm6 hs6 ht6 sg7;have g2':((ns++ms++ms1).length:Int)=(((ns++ms).length+ms2.length - 1:Nat):Int):=by injection g2
      rw [g2'];simp only [ReM.nodes]at g1;refine Ag.mk (E4 (op:=2) (x:=((ns.length+ms.length - 1:Nat):Int)) (y:=(((ns++ms).length+ms2.length - 1:Nat):Int)) g4 (by unfold AD;omega) (Bv (by omega)) (Bv (by simp only [Aa0];omega)) (by simp only [Aa0];omega)) ?_;rintro _ G8 ⟨rfl,a9,c9,sg9⟩;(conv=>whnf);exact(Es (R:=.cat (rO w.den (AJ m) k) (.star w.den)) hm1 hs1 (r2:=.star w.den) (by simp only [ReM.nodes];exact g1) gs (fun h=>by simp only [ReM.plain,AaA]at h ⊢;exact⟨h.1,h.2,by decide,by decide⟩) rfl (fun ns' d j k' h1 h2 h3 h4=>⟨d,j,k',h1,by rw [h2];rfl,by rw [h2];rfl,by rw [h2];rfl,h3,h4⟩) ht1 g3 sg9).drop
     ·have d1:decide (n<0)=false:=decide_eq_false h1;rw [if_neg h1]at hK;have hrep:BH w.den (AJ m) n=rO w.den (AJ m) k:=by unfold BH;rw [if_neg h1,if_neg hn0,hK];rfl
      rw [hrep];rw [d1];(conv=>whnf);exact GrP.drop ⟨ms,a1,c1,hm1,hs1,rfl,ht1,sg⟩
end
theorem OC{B:Nat→Prop}{H0 G:Aa}{bb:Nat}{Av:Int}{rest:List Pc}{ns:List RnM}{d:RnM}{r:ReM}{a':Option Addr}{c':Nat}(h1:r.nodes=1)(hop:d.op≠5∧d.op≠6)(hT:∀ns' k,ns'[k]? =some d→Ba ns' r k)(st:StB B H0 G (reP bb a' c' (ns++[d]) Av rest)):
  GrP B H0 bb Av rest ns r (.int .i64 (ns.length:Int)) G:=
 ⟨[d],a',c',h1.symm,fun _ x hx=>by rcases AaE.1 hx with rfl;exact hop,by simp,hT _ _ (by simp),st⟩
theorem XB:∀w:RwM,P6 w:=fun w=>by
 induction w with
 | eps=>
   intro B H0 H bb c a ns Av rest na nc i ds ws hR hd hB hw hl st;obtain⟨d,hdd,hnr⟩:=hR.at2 hw;refine Al.of_vc Tryz.func83 rfl (Tryz.call83 _) ?_;obtain rfl:d=A4 0 0 0:=hnr;refine ixr (i:=i) C6 (hd.frame (st.old.mono fun k hk=>hk)) hdd rfl ?_;rintro b2 o2 c2 hS2 hc2 ⟨rfl,hok⟩;refine ldN (cs:=rnL (A4 0 0 0)) (by rw [Ai];exact Do) hc2 trivial ?_;refine Ak _ rnZ EU rfl ?_;intro x H3 hx hs3 hb3 ha3;have st3:=st.box hx hs3 hb3 ha3;refine AI (cs:=rnL (A4 0 0 0)) st3 _ (by rw [Ai];rfl) (lgR (_::_::rest) _ 0) (by rw [Ai,AK];decide) (Be _) fun H4 st4=>?_;rw [Ax (show(rnL (A4 0 0 0)).length=rnZ.length by rw [Ai,AK])]at st4;replace st4:StB B H0 H4 (reP bb a c ns Av (rest++[pB 159 x (rnL (A4 0 0 0))])):=by
    have e:=lsR (pB tRe bb (reL (.slice a ns.length c) Av)::pS tRn 159 a ns.length c ns::rest) [pB 159 x rnZ] 0 (pB 159 x (rnL (A4 0 0 0)));rw [e]at st4;exact st4
   have hx4:Blk H4 x 159 (rnL (A4 0 0 0)):=st4.blk _ (lgR (_::_::rest) _ 0);refine VC.fa AN ?_;refine ld1 (v:=.int .i64 (A4 0 0 0).op) ct3 (by rw [hx4.cell];exact BB _) trivial ?_;(conv=>whnf);try (refine Am.run ?_)
   (conv=>whnf);try (refine Am.run ?_)
   have bl:=(st4.blk 0 rfl).lt;have f1:bb≠x:=fun e=>st4.apart2 (i:=0) (j:=(pB tRe bb (reL (.slice a ns.length c) Av)::pS tRn 159 a ns.length c ns::rest).length+0) rfl (lgR (_::_::rest) _ 0) (by simp) bb rfl e;refine Ar.heldZ (fun k=>k=bb∨k=x) [14] (sq [0,1,2,3,4,5,6,7,8,9] (.f 10 (.f 11 (sq [12,13] (.f 14 .e))))) rfl (by kernel_rfl) (VC.fa BD ?_);refine ld1 (v:=.slice a ns.length c) Cb (by rw [(st4.blk 0 rfl).cell];rfl) (.inl rfl) ?_;refine VC.fa AN ?_;refine ld1 (v:=.int .i64 (A4 0 0 0).op) ct3 (by rw [hx4.cell];exact BB _) (.inr rfl) ?_;refine VC.fa KA ?_;refine ldN (cs:=Ap (0#256)) (by rw [Aq];exact KW) (hx4.cells (o:=0+1) fun j v hv=>ND (A4 0 0 0) j v hv) (.inr rfl) ?_;refine JN 0 (0#256) (A2 C6 (rnL (A4 0 0 0)) rfl (Ai _) (by decide) (by decide) ?_);intro z H5 hz hs5 hb5 ha5;have st5:=st4.skip hz ha5;have hx5:Blk H5 x 159 (rnL (A4 0 0 0)):=st5.blk _ (lgR (_::_::rest) _ 0);refine⟨fun k hk=>by
    rcases hk with hk | hk
    ·rw [show k=bb from hk];exact(st5.blk 0 rfl).trans (st4.blk 0 rfl).symm
    ·rw [show k=x from hk];exact hx5.trans hx4.symm,?_⟩
   refine KZ (ys:=[A4 0 0 0]) st5 1 C6 rfl (hb5.cells (o:=0) (cs:=rnL (A4 0 0 0)) fun j v hv=>by rw [Aa2];exact hv) (Ty.reps_one ⟨rfl,hok⟩) rfl (fun u hu=>Aa7.1 (Be _) u hu) (by simp [RwM.den,ReM.nodes]at hl ⊢;omega) (by decide) fun a9 c9 H9 st9 ha9=>?_;have el:ns.length+[A4 0 0 0].length=(ns++[A4 0 0 0]).length:=by simp
   rw [el]at st9 ⊢;have hx9:Blk H9 x 159 (rnL (A4 0 0 0)):=st9.blk _ (lgR (_::_::rest) _ 0);refine⟨fun k hk=>by
    rcases hk with hk | hk
    ·rw [show k=bb from hk];exact(st9.blk 0 rfl).trans (st4.blk 0 rfl).symm
    ·rw [show k=x from hk];exact hx9.trans hx4.symm,?_⟩
   refine VC.fa BD (AT st9 0 Cb rfl (show 0<2 by decide) rfl fun H10 st10=>(VC.fa BD ?_));refine ld1 (v:=.slice a9 (ns++[A4 0 0 0]).length c9) Cb (by rw [(st10.blk 0 rfl).cell];rfl) trivial ?_;have w1:IntKind.wrap .i64 (((ns++[A4 0 0 0]).length:Int) - 1)=(ns.length:Int):=by
    simp only [RwM.den,ReM.nodes]at hl;rw [Aa0,Aa1,w64 (by omega) (by omega)];omega
   (conv=>whnf);rw [w1];(conv=>whnf);replace st10:StB B H0 H10 (reP bb a9 c9 (ns++[A4 0 0 0]) Av (rest++[pB 159 x (rnL (A4 0 0 0))])):=st10;exact(OC (r:=.eps) rfl ⟨show(0:Int)≠5 by decide,show(0:Int)≠6 by decide⟩ (fun ns' k h=>⟨_,h,rfl⟩) st10).drop
 | cls s=>
   intro B H0 H bb c a ns Av rest na nc i ds ws hR hd hB hw hl st;obtain⟨d,hdd,hnr⟩:=hR.at2 hw;refine Al.of_vc Tryz.func83 rfl (Tryz.call83 _) ?_;obtain rfl:d=Di s:=hnr;refine ixr (i:=i) C6 (hd.frame (st.old.mono fun k hk=>hk)) hdd rfl ?_;rintro b2 o2 c2 hS2 hc2 ⟨rfl,hok⟩;refine ldN (cs:=rnL (Di s)) (by rw [Ai];exact Do) hc2 trivial ?_;refine Ak _ rnZ EU rfl ?_;intro x H3 hx hs3 hb3 ha3;have st3:=st.box hx hs3 hb3 ha3;refine AI (cs:=rnL (Di s)) st3 _ (by rw [Ai];rfl) (lgR (_::_::rest) _ 0) (by rw [Ai,AK];decide) (Be _) fun H4 st4=>?_;rw [Ax (show(rnL (Di s)).length=rnZ.length by rw [Ai,AK])]at st4;replace st4:StB B H0 H4 (reP bb a c ns Av (rest++[pB 159 x (rnL (Di s))])):=by
    have e:=lsR (pB tRe bb (reL (.slice a ns.length c) Av)::pS tRn 159 a ns.length c ns::rest) [pB 159 x rnZ] 0 (pB 159 x (rnL (Di s)));rw [e]at st4;exact st4
   have hx4:Blk H4 x 159 (rnL (Di s)):=st4.blk _ (lgR (_::_::rest) _ 0);refine VC.fa AN ?_;refine ld1 (v:=.int .i64 (Di s).op) ct3 (by rw [hx4.cell];exact BB _) trivial ?_;(conv=>whnf);try (refine Am.run ?_)
   (conv=>whnf);try (refine Am.run ?_)
   have bl:=(st4.blk 0 rfl).lt;have f1:bb≠x:=fun e=>st4.apart2 (i:=0) (j:=(pB tRe bb (reL (.slice a ns.length c) Av)::pS tRn 159 a ns.length c ns::rest).length+0) rfl (lgR (_::_::rest) _ 0) (by simp) bb rfl e;refine Ar.heldZ (fun k=>k=bb∨k=x) [14] (sq [0,1,2,3,4,5,6,7,8,9] (.f 10 (.f 11 (sq [12,13] (.f 14 .e))))) rfl (by kernel_rfl) (VC.fa BD ?_);refine ld1 (v:=.slice a ns.length c) Cb (by rw [(st4.blk 0 rfl).cell];rfl) (.inl rfl) ?_;refine VC.fa AN ?_;refine ld1 (v:=.int .i64 (Di s).op) ct3 (by rw [hx4.cell];exact BB _) (.inr rfl) ?_;refine VC.fa KA ?_;refine ldN (cs:=Ap (s)) (by rw [Aq];exact KW) (hx4.cells (o:=0+1) fun j v hv=>ND (Di s) j v hv) (.inr rfl) ?_;refine JN 1 (s) (A2 C6 (rnL (Di s)) rfl (Ai _) (by decide) (by decide) ?_);intro z H5 hz hs5 hb5 ha5;have st5:=st4.skip hz ha5;have hx5:Blk H5 x 159 (rnL (Di s)):=st5.blk _ (lgR (_::_::rest) _ 0);refine⟨fun k hk=>by
    rcases hk with hk | hk
    ·rw [show k=bb from hk];exact(st5.blk 0 rfl).trans (st4.blk 0 rfl).symm
    ·rw [show k=x from hk];exact hx5.trans hx4.symm,?_⟩
   refine KZ (ys:=[Di s]) st5 1 C6 rfl (hb5.cells (o:=0) (cs:=rnL (Di s)) fun j v hv=>by rw [Aa2];exact hv) (Ty.reps_one ⟨rfl,hok⟩) rfl (fun u hu=>Aa7.1 (Be _) u hu) (by simp [RwM.den,ReM.nodes]at hl ⊢;omega) (by decide) fun a9 c9 H9 st9 ha9=>?_;have el:ns.length+[Di s].length=(ns++[Di s]).length:=by simp
   rw [el]at st9 ⊢;have hx9:Blk H9 x 159 (rnL (Di s)):=st9.blk _ (lgR (_::_::rest) _ 0);refine⟨fun k hk=>by
    rcases hk with hk | hk
    ·rw [show k=bb from hk];exact(st9.blk 0 rfl).trans (st4.blk 0 rfl).symm
    ·rw [show k=x from hk];exact hx9.trans hx4.symm,?_⟩
   refine VC.fa BD (AT st9 0 Cb rfl (show 0<2 by decide) rfl fun H10 st10=>(VC.fa BD ?_));refine ld1 (v:=.slice a9 (ns++[Di s]).length c9) Cb (by rw [(st10.blk 0 rfl).cell];rfl) trivial ?_;have w1:IntKind.wrap .i64 (((ns++[Di s]).length:Int) - 1)=(ns.length:Int):=by
    simp only [RwM.den,ReM.nodes]at hl;rw [Aa0,Aa1,w64 (by omega) (by omega)];omega
   (conv=>whnf);rw [w1];(conv=>whnf);replace st10:StB B H0 H10 (reP bb a9 c9 (ns++[Di s]) Av (rest++[pB 159 x (rnL (Di s))])):=st10;exact(OC (r:=.cls s) rfl ⟨show(1:Int)≠5 by decide,show(1:Int)≠6 by decide⟩ (fun ns' k h=>⟨_,h,rfl,rfl⟩) st10).drop
 | cat w1 w2 ih1 ih2=>
   intro B H0 H bb c a ns Av rest na nc i ds ws hR hd hB hw hl st;obtain⟨d,hdd,hnr⟩:=hR.at2 hw;refine Al.of_vc Tryz.func83 rfl (Tryz.call83 _) ?_;obtain⟨i1,i2,rfl,hi1,hi2⟩:=hnr;simp only [RwM.den,ReM.nodes]at hl;refine ixr (i:=i) C6 (hd.frame (st.old.mono fun k hk=>hk)) hdd rfl ?_;rintro b2 o2 c2 hS2 hc2 ⟨rfl,hok⟩;refine ldN (cs:=rnL (A4 2 (i1:Int) (i2:Int))) (by rw [Ai];exact Do) hc2 trivial ?_;refine Ak _ rnZ EU rfl ?_;intro x H3 hx hs3 hb3 ha3;have st3:=st.box hx hs3 hb3 ha3;refine AI (cs:=rnL (A4 2 (i1:Int) (i2:Int))) st3 _ (by rw [Ai];rfl) (lgR (_::_::rest) _ 0) (by rw [Ai,AK];decide) (Be _) fun H4 st4=>?_;rw [Ax (show(rnL (A4 2 (i1:Int) (i2:Int))).length=rnZ.length by rw [Ai,AK])]at st4;replace st4:StB B H0 H4 (reP bb a c ns Av (rest++[pB 159 x (rnL (A4 2 (i1:Int) (i2:Int)))])):=by
    have e:=lsR (pB tRe bb (reL (.slice a ns.length c) Av)::pS tRn 159 a ns.length c ns::rest) [pB 159 x rnZ] 0 (pB 159 x (rnL (A4 2 (i1:Int) (i2:Int))));rw [e]at st4;exact st4
   have hx4:Blk H4 x 159 (rnL (A4 2 (i1:Int) (i2:Int))):=st4.blk _ (lgR (_::_::rest) _ 0);refine VC.fa AN ?_;refine ld1 (v:=.int .i64 (A4 2 (i1:Int) (i2:Int)).op) ct3 (by rw [hx4.cell];exact BB _) trivial ?_;(conv=>whnf);try (refine Am.run ?_)
   (conv=>whnf);try (refine Am.run ?_)
   refine VC.fa Bh ?_;refine ld1 (v:=.int .i64 (i1:Int)) ct3 (by rw [(st4.blk _ (lgR (_::_::rest) _ 0)).cell,Aa2];exact ET _) trivial ?_;refine Ag.mk (ih1 B H0 _ bb _ _ ns Av (rest++[pB 159 x (rnL (A4 2 (i1:Int) (i2:Int)))]) na nc i1 ds ws hR hd hB hi1 (by omega) st4) ?_;rintro _ G1 ⟨ms1,a1,c1,hm1,hs1,rfl,ht1,sg1⟩;refine VC.fa CA ?_;refine ld1 (v:=.int .i64 (i2:Int)) ct3 (by rw [(sg1.blk _ (lgR (_::_::rest) _ 0)).cell,Aa2];exact JO _) trivial ?_;refine Ag.mk (ih2 B H0 _ bb _ _ (ns++ms1) Av (rest++[pB 159 x (rnL (A4 2 (i1:Int) (i2:Int)))]) na nc i2 ds ws hR hd hB hi2 (by simp only [Aa0];omega) sg1) ?_;rintro _ G2 ⟨ms2,a2,c2,hm2,hs2,rfl,ht2,sg2⟩;have p1:=AX w1.den;have p2:=AX w2.den;refine VC.fa AN ?_;refine ld1 (v:=.int .i64 (A4 2 (i1:Int) (i2:Int)).op) ct3 (by rw [(sg2.blk _ (lgR (_::_::rest) _ 0)).cell];exact BB _) trivial ?_;refine Ag.mk (E4 (op:=2) (x:=((ns.length+ms1.length - 1:Nat):Int)) (y:=(((ns++ms1).length+ms2.length - 1:Nat):Int)) sg2 (by unfold AD;omega) (Bv (by omega)) (Bv (by simp only [Aa0];omega)) (by simp only [Aa0];omega)) ?_;rintro _ G3 ⟨rfl,a3,c3,sg3⟩;(conv=>whnf);exact(Es (R:=.cat w1.den w2.den) hm1 hs1 hm2 hs2 (fun h=>by simp only [ReM.plain,AaA]at h;exact⟨h.1,h.2,by decide,by decide⟩) rfl (fun ns' d j k' h1 h2 h3 h4=>⟨d,j,k',h1,by rw [h2];rfl,by rw [h2];rfl,by rw [h2];rfl,h3,h4⟩) ht1 ht2 sg3).drop
 | alt w1 w2 ih1 ih2=>
   intro B H0 H bb c a ns Av rest na nc i ds ws hR hd hB hw hl st;obtain⟨d,hdd,hnr⟩:=hR.at2 hw;refine Al.of_vc Tryz.func83 rfl (Tryz.call83 _) ?_;obtain⟨i1,i2,rfl,hi1,hi2⟩:=hnr;simp only [RwM.den,ReM.nodes]at hl;refine ixr (i:=i) C6 (hd.frame (st.old.mono fun k hk=>hk)) hdd rfl ?_;rintro b2 o2 c2 hS2 hc2 ⟨rfl,hok⟩;refine ldN (cs:=rnL (A4 3 (i1:Int) (i2:Int))) (by rw [Ai];exact Do) hc2 trivial ?_;refine Ak _ rnZ EU rfl ?_;intro x H3 hx hs3 hb3 ha3;have st3:=st.box hx hs3 hb3 ha3;refine AI (cs:=rnL (A4 3 (i1:Int) (i2:Int))) st3 _ (by rw [Ai];rfl) (lgR (_::_::rest) _ 0) (by rw [Ai,AK];decide) (Be _) fun H4 st4=>?_;rw [Ax (show(rnL (A4 3 (i1:Int) (i2:Int))).length=rnZ.length by rw [Ai,AK])]at st4;replace st4:StB B H0 H4 (reP bb a c ns Av (rest++[pB 159 x (rnL (A4 3 (i1:Int) (i2:Int)))])):=by
    have e:=lsR (pB tRe bb (reL (.slice a ns.length c) Av)::pS tRn 159 a ns.length c ns::rest) [pB 159 x rnZ] 0 (pB 159 x (rnL (A4 3 (i1:Int) (i2:Int))));rw [e]at st4;exact st4
   have hx4:Blk H4 x 159 (rnL (A4 3 (i1:Int) (i2:Int))):=st4.blk _ (lgR (_::_::rest) _ 0);refine VC.fa AN ?_;refine ld1 (v:=.int .i64 (A4 3 (i1:Int) (i2:Int)).op) ct3 (by rw [hx4.cell];exact BB _) trivial ?_;(conv=>whnf);try (refine Am.run ?_)
   (conv=>whnf);try (refine Am.run ?_)
   refine VC.fa Bh ?_;refine ld1 (v:=.int .i64 (i1:Int)) ct3 (by rw [(st4.blk _ (lgR (_::_::rest) _ 0)).cell,Aa2];exact ET _) trivial ?_;refine Ag.mk (ih1 B H0 _ bb _ _ ns Av (rest++[pB 159 x (rnL (A4 3 (i1:Int) (i2:Int)))]) na nc i1 ds ws hR hd hB hi1 (by omega) st4) ?_;rintro _ G1 ⟨ms1,a1,c1,hm1,hs1,rfl,ht1,sg1⟩;refine VC.fa CA ?_;refine ld1 (v:=.int .i64 (i2:Int)) ct3 (by rw [(sg1.blk _ (lgR (_::_::rest) _ 0)).cell,Aa2];exact JO _) trivial ?_;refine Ag.mk (ih2 B H0 _ bb _ _ (ns++ms1) Av (rest++[pB 159 x (rnL (A4 3 (i1:Int) (i2:Int)))]) na nc i2 ds ws hR hd hB hi2 (by simp only [Aa0];omega) sg1) ?_;rintro _ G2 ⟨ms2,a2,c2,hm2,hs2,rfl,ht2,sg2⟩;have p1:=AX w1.den;have p2:=AX w2.den;refine VC.fa AN ?_;refine ld1 (v:=.int .i64 (A4 3 (i1:Int) (i2:Int)).op) ct3 (by rw [(sg2.blk _ (lgR (_::_::rest) _ 0)).cell];exact BB _) trivial ?_;refine Ag.mk (E4 (op:=3) (x:=((ns.length+ms1.length - 1:Nat):Int)) (y:=(((ns++ms1).length+ms2.length - 1:Nat):Int)) sg2 (by unfold AD;omega) (Bv (by omega)) (Bv (by simp only [Aa0];omega)) (by simp only [Aa0];omega)) ?_;rintro _ G3 ⟨rfl,a3,c3,sg3⟩;(conv=>whnf);exact(Es (R:=.alt w1.den w2.den) hm1 hs1 hm2 hs2 (fun h=>by simp only [ReM.plain,AaA]at h;exact⟨h.1,h.2,by decide,by decide⟩) rfl (fun ns' d j k' h1 h2 h3 h4=>⟨d,j,k',h1,by rw [h2];rfl,by rw [h2];rfl,by rw [h2];rfl,h3,h4⟩) ht1 ht2 sg3).drop
 | and_ w1 w2 ih1 ih2=>
   intro B H0 H bb c a ns Av rest na nc i ds ws hR hd hB hw hl st;obtain⟨d,hdd,hnr⟩:=hR.at2 hw;refine Al.of_vc Tryz.func83 rfl (Tryz.call83 _) ?_;obtain⟨i1,i2,rfl,hi1,hi2⟩:=hnr;simp only [RwM.den,ReM.nodes]at hl;refine ixr (i:=i) C6 (hd.frame (st.old.mono fun k hk=>hk)) hdd rfl ?_;rintro b2 o2 c2 hS2 hc2 ⟨rfl,hok⟩;refine ldN (cs:=rnL (A4 5 (i1:Int) (i2:Int))) (by rw [Ai];exact Do) hc2 trivial ?_;refine Ak _ rnZ EU rfl ?_;intro x H3 hx hs3 hb3 ha3;have st3:=st.box hx hs3 hb3 ha3;refine AI (cs:=rnL (A4 5 (i1:Int) (i2:Int))) st3 _ (by rw [Ai];rfl) (lgR (_::_::rest) _ 0) (by rw [Ai,AK];decide) (Be _) fun H4 st4=>?_;rw [Ax (show(rnL (A4 5 (i1:Int) (i2:Int))).length=rnZ.length by rw [Ai,AK])]at st4;replace st4:StB B H0 H4 (reP bb a c ns Av (rest++[pB 159 x (rnL (A4 5 (i1:Int) (i2:Int)))])):=by
    have e:=lsR (pB tRe bb (reL (.slice a ns.length c) Av)::pS tRn 159 a ns.length c ns::rest) [pB 159 x rnZ] 0 (pB 159 x (rnL (A4 5 (i1:Int) (i2:Int))));rw [e]at st4;exact st4
   have hx4:Blk H4 x 159 (rnL (A4 5 (i1:Int) (i2:Int))):=st4.blk _ (lgR (_::_::rest) _ 0);refine VC.fa AN ?_;refine ld1 (v:=.int .i64 (A4 5 (i1:Int) (i2:Int)).op) ct3 (by rw [hx4.cell];exact BB _) trivial ?_;(conv=>whnf);try (refine Am.run ?_)
   (conv=>whnf);try (refine Am.run ?_)
   refine VC.fa Bh ?_;refine ld1 (v:=.int .i64 (i1:Int)) ct3 (by rw [(st4.blk _ (lgR (_::_::rest) _ 0)).cell,Aa2];exact ET _) trivial ?_;refine Ag.mk (ih1 B H0 _ bb _ _ ns Av (rest++[pB 159 x (rnL (A4 5 (i1:Int) (i2:Int)))]) na nc i1 ds ws hR hd hB hi1 (by omega) st4) ?_;rintro _ G1 ⟨ms1,a1,c1,hm1,hs1,rfl,ht1,sg1⟩;refine VC.fa CA ?_;refine ld1 (v:=.int .i64 (i2:Int)) ct3 (by rw [(sg1.blk _ (lgR (_::_::rest) _ 0)).cell,Aa2];exact JO _) trivial ?_;refine Ag.mk (ih2 B H0 _ bb _ _ (ns++ms1) Av (rest++[pB 159 x (rnL (A4 5 (i1:Int) (i2:Int)))]) na nc i2 ds ws hR hd hB hi2 (by simp only [Aa0];omega) sg1) ?_;rintro _ G2 ⟨ms2,a2,c2,hm2,hs2,rfl,ht2,sg2⟩;have p1:=AX w1.den;have p2:=AX w2.den;refine VC.fa AN ?_;refine ld1 (v:=.int .i64 (A4 5 (i1:Int) (i2:Int)).op) ct3 (by rw [(sg2.blk _ (lgR (_::_::rest) _ 0)).cell];exact BB _) trivial ?_;refine Ag.mk (E4 (op:=5) (x:=((ns.length+ms1.length - 1:Nat):Int)) (y:=(((ns++ms1).length+ms2.length - 1:Nat):Int)) sg2 (by unfold AD;omega) (Bv (by omega)) (Bv (by simp only [Aa0];omega)) (by simp only [Aa0];omega)) ?_;rintro _ G3 ⟨rfl,a3,c3,sg3⟩;(conv=>whnf);exact(Es (R:=.and_ w1.den w2.den) hm1 hs1 hm2 hs2 (fun h=>by cases h) rfl (fun ns' d j k' h1 h2 h3 h4=>⟨d,j,k',h1,by rw [h2];rfl,by rw [h2];rfl,by rw [h2];rfl,h3,h4⟩) ht1 ht2 sg3).drop
 | minus w1 w2 ih1 ih2=>
   intro B H0 H bb c a ns Av rest na nc i ds ws hR hd hB hw hl st;obtain⟨d,hdd,hnr⟩:=hR.at2 hw;refine Al.of_vc Tryz.func83 rfl (Tryz.call83 _) ?_;obtain⟨i1,i2,rfl,hi1,hi2⟩:=hnr;simp only [RwM.den,ReM.nodes]at hl;refine ixr (i:=i) C6 (hd.frame (st.old.mono fun k hk=>hk)) hdd rfl ?_;rintro b2 o2 c2 hS2 hc2 ⟨rfl,hok⟩;refine ldN (cs:=rnL (A4 6 (i1:Int) (i2:Int))) (by rw [Ai];exact Do) hc2 trivial ?_;refine Ak _ rnZ EU rfl ?_;intro x H3 hx hs3 hb3 ha3;have st3:=st.box hx hs3 hb3 ha3;refine AI (cs:=rnL (A4 6 (i1:Int) (i2:Int))) st3 _ (by rw [Ai];rfl) (lgR (_::_::rest) _ 0) (by rw [Ai,AK];decide) (Be _) fun H4 st4=>?_;rw [Ax (show(rnL (A4 6 (i1:Int) (i2:Int))).length=rnZ.length by rw [Ai,AK])]at st4;replace st4:StB B H0 H4 (reP bb a c ns Av (rest++[pB 159 x (rnL (A4 6 (i1:Int) (i2:Int)))])):=by
    have e:=lsR (pB tRe bb (reL (.slice a ns.length c) Av)::pS tRn 159 a ns.length c ns::rest) [pB 159 x rnZ] 0 (pB 159 x (rnL (A4 6 (i1:Int) (i2:Int))));rw [e]at st4;exact st4
   have hx4:Blk H4 x 159 (rnL (A4 6 (i1:Int) (i2:Int))):=st4.blk _ (lgR (_::_::rest) _ 0);refine VC.fa AN ?_;refine ld1 (v:=.int .i64 (A4 6 (i1:Int) (i2:Int)).op) ct3 (by rw [hx4.cell];exact BB _) trivial ?_;(conv=>whnf);try (refine Am.run ?_)
   (conv=>whnf);try (refine Am.run ?_)
   refine VC.fa Bh ?_;refine ld1 (v:=.int .i64 (i1:Int)) ct3 (by rw [(st4.blk _ (lgR (_::_::rest) _ 0)).cell,Aa2];exact ET _) trivial ?_;refine Ag.mk (ih1 B H0 _ bb _ _ ns Av (rest++[pB 159 x (rnL (A4 6 (i1:Int) (i2:Int)))]) na nc i1 ds ws hR hd hB hi1 (by omega) st4) ?_;rintro _ G1 ⟨ms1,a1,c1,hm1,hs1,rfl,ht1,sg1⟩;refine VC.fa CA ?_;refine ld1 (v:=.int .i64 (i2:Int)) ct3 (by rw [(sg1.blk _ (lgR (_::_::rest) _ 0)).cell,Aa2];exact JO _) trivial ?_;refine Ag.mk (ih2 B H0 _ bb _ _ (ns++ms1) Av (rest++[pB 159 x (rnL (A4 6 (i1:Int) (i2:Int)))]) na nc i2 ds ws hR hd hB hi2 (by simp only [Aa0];omega) sg1) ?_;rintro _ G2 ⟨ms2,a2,c2,hm2,hs2,rfl,ht2,sg2⟩;have p1:=AX w1.den;have p2:=AX w2.den;refine VC.fa AN ?_;refine ld1 (v:=.int .i64 (A4 6 (i1:Int) (i2:Int)).op) ct3 (by rw [(sg2.blk _ (lgR (_::_::rest) _ 0)).cell];exact BB _) trivial ?_;refine Ag.mk (E4 (op:=6) (x:=((ns.length+ms1.length - 1:Nat):Int)) (y:=(((ns++ms1).length+ms2.length - 1:Nat):Int)) sg2 (by unfold AD;omega) (Bv (by omega)) (Bv (by simp only [Aa0];omega)) (by simp only [Aa0];omega)) ?_;rintro _ G3 ⟨rfl,a3,c3,sg3⟩;(conv=>whnf);exact(Es (R:=.minus w1.den w2.den) hm1 hs1 hm2 hs2 (fun h=>by cases h) rfl (fun ns' d j k' h1 h2 h3 h4=>⟨d,j,k',h1,by rw [h2];rfl,by rw [h2];rfl,by rw [h2];rfl,h3,h4⟩) ht1 ht2 sg3).drop
 | rep w m n ih=>
   intro B H0 H bb c a ns Av rest na nc i ds ws hR hd hB hw hl st;obtain⟨d,hdd,hnr⟩:=hR.at2 hw;refine Al.of_vc Tryz.func83 rfl (Tryz.call83 _) ?_;obtain⟨i1,rfl,hi1,hrk⟩:=hnr;refine ixr (i:=i) C6 (hd.frame (st.old.mono fun k hk=>hk)) hdd rfl ?_;rintro b2 o2 c2 hS2 hc2 ⟨rfl,hok⟩;refine ldN (cs:=rnL (B9 (i1:Int) m n)) (by rw [Ai];exact Do) hc2 trivial ?_;refine Ak _ rnZ EU rfl ?_;intro x H3 hx hs3 hb3 ha3;have st3:=st.box hx hs3 hb3 ha3;refine AI (cs:=rnL (B9 (i1:Int) m n)) st3 _ (by rw [Ai];rfl) (lgR (_::_::rest) _ 0) (by rw [Ai,AK];decide) (Be _) fun H4 st4=>?_;rw [Ax (show(rnL (B9 (i1:Int) m n)).length=rnZ.length by rw [Ai,AK])]at st4;replace st4:StB B H0 H4 (reP bb a c ns Av (rest++[pB 159 x (rnL (B9 (i1:Int) m n))])):=by
    have e:=lsR (pB tRe bb (reL (.slice a ns.length c) Av)::pS tRn 159 a ns.length c ns::rest) [pB 159 x rnZ] 0 (pB 159 x (rnL (B9 (i1:Int) m n)));rw [e]at st4;exact st4
   have hx4:Blk H4 x 159 (rnL (B9 (i1:Int) m n)):=st4.blk _ (lgR (_::_::rest) _ 0);refine VC.fa AN ?_;refine ld1 (v:=.int .i64 (B9 (i1:Int) m n).op) ct3 (by rw [hx4.cell];exact BB _) trivial ?_;(conv=>whnf);try (refine Am.run ?_)
   (conv=>whnf);try (refine Am.run ?_)
   refine ldN (cs:=rnL (B9 (i1:Int) m n)) (by rw [Ai];exact Do) (hx4.cells (o:=0) fun j v hv=>by rw [Aa2];exact hv) trivial ?_;refine Ag.mk (Vn ih hR hd hB hi1 hrk hl st4) ?_;intro v G1 h;(conv=>whnf);exact GrP.drop h
section
variable{op a b m n m' n':Value}{bits:List Value}
theorem ZV(h:bits.length=256):Ae (AZ op bits a b m n) 259 [m']=AZ op bits a b m' n:=by
 unfold Ae AZ;have e1:([op]++(bits++[a,b,m,n])).take 259=[op]++(bits++[a,b]):=by
  rw [show([op]++(bits++[a,b,m,n])).take (258+1)=op::(bits++[a,b,m,n]).take 258 from rfl,show(258:Nat)=bits.length+2 by omega,AaO];rfl
 have e2:([op]++(bits++[a,b,m,n])).drop (259+1)=[n]:=by
  rw [show([op]++(bits++[a,b,m,n])).drop (259+1)=(bits++[a,b,m,n]).drop 259 from rfl,show(259:Nat)=bits.length+3 by omega,AaP];rfl
 rw [e1,show 259+[m'].length=259+1 from rfl,e2];simp
theorem ZW(h:bits.length=256):Ae (AZ op bits a b m n) 260 [n']=AZ op bits a b m n':=by
 unfold Ae AZ;have e1:([op]++(bits++[a,b,m,n])).take 260=[op]++(bits++[a,b,m]):=by
  rw [show([op]++(bits++[a,b,m,n])).take (259+1)=op::(bits++[a,b,m,n]).take 259 from rfl,show(259:Nat)=bits.length+3 by omega,AaO];rfl
 have e2:([op]++(bits++[a,b,m,n])).drop (260+1)=[]:=by
  rw [show([op]++(bits++[a,b,m,n])).drop (260+1)=(bits++[a,b,m,n]).drop 260 from rfl,show(260:Nat)=bits.length+4 by omega,AaP];rfl
 rw [e1,show 260+[n'].length=260+1 from rfl,e2];simp
end
theorem HL(x y m n:Int){S:Nat→Prop}{H:Aa}{K:Value→Prop}(k:K (.agg (rnL ⟨x,0#256,y,0,m,n⟩).toArray)):
  AH Tryz.prog (Instr.build 159 [(0,.int .i64 x),(2,.int .i64 y),(4,.int .i64 m),(5,.int .i64 n)].toArray) S H K:=by
 refine A6 Tryz.underlying159 rfl (.agg rnZ.toArray) EU (rnL ⟨x,0#256,y,0,m,n⟩) ?_ k;have hr:(AaM 256 (Value.bool false)).length=256:=List.length_replicate;refine(Bq (i:=0) (off:=0) (size:=1) (by kernel_rfl) rfl (by show _≤rnZ.toArray.size;rw [AaJ,AK];decide)).trans ?_;have e0:Ae (Value.agg rnZ.toArray).cells.toList 0 (Value.int .i64 x).cells.toList=AZ (.int .i64 x) (AaM 256 (.bool false)) (.int .i64 0) (.int .i64 0) (.int .i64 0) (.int .i64 0):=UX;rw [e0];refine(Bq (i:=2) (off:=257) (size:=1) (by kernel_rfl) rfl (by rw [AaJ,DC hr];decide)).trans ?_;rw [AaL,show(Value.int IntKind.i64 y).cells.toList=[Value.int .i64 y]from rfl,Zg hr];refine(Bq (i:=4) (off:=259) (size:=1) (by kernel_rfl) rfl (by rw [AaJ,DC hr];decide)).trans ?_;rw [AaL,show(Value.int IntKind.i64 m).cells.toList=[Value.int .i64 m]from rfl,ZV hr];refine(Bq (i:=5) (off:=260) (size:=1) (by kernel_rfl) rfl (by rw [AaJ,DC hr];decide)).trans ?_;rw [AaL,show(Value.int IntKind.i64 n).cells.toList=[Value.int .i64 n]from rfl,ZW hr];unfold rnL;rw [show(RnM.mk x 0#256 y 0 m n).set=0#256 from rfl,Ih];rfl
theorem WE:(Tryz.prog.info? 148).bind (·.zero)=some (.agg #[.slice none 0 0,.slice none 0 0]):=by kernel_rfl
inductive MK(ws:List RwM):List FrD→List AF→Prop
 | nil:MK ws [] []
 | cons {fr:List FrD} {fs:List AF} {g:FrD} {a:AF}:MK ws fr fs→FrR ws g a→MK ws (fr++[g]) (a::fs)
theorem MK.more{ws us:List RwM}{fr:List FrD}{fs:List AF}(h:MK ws fr fs):MK (ws++us) fr fs:=by
 induction h with
 | nil=>exact .nil
 | cons _ g ih=>exact .cons ih g.more
theorem MK.len{ws:List RwM}{fr:List FrD}{fs:List AF}(h:MK ws fr fs):fr.length=fs.length:=by
 induction h with
 | nil=>rfl
 | cons _ g ih=>simp [ih]
theorem IxR.num{ws:List RwM}{x:Int}{o:Option ReM}(h:IxR ws x o)(hl:ws.length≤16777216):AD x:=by
 cases o with
 | none=>rw [show x= -1 from h];exact L7
 | some r=>
   obtain⟨j,w,rfl,h2,-⟩:=h;have:=(AaD.1 h2).1;exact Jh (by omega)
theorem FrR.nums{ws:List RwM}{f:FrD}{a:AF}(h:FrR ws f a)(hl:ws.length≤16777216):FrN f:=⟨h.alt.num hl,h.meet.num hl,h.row.num hl,h.factor.num hl⟩
theorem MU{t:ByteArray}{i c p:Nat}(h:BF t i= .inl (c,p)):c≠0:=by
 unfold BF at h;split at h
 ·split at h
  ·rename_i e hu;cases h;unfold upM at hu;split at hu
   ·split at hu
    ·cases hu
    ·split at hu
     ·cases hu
     ·cases hu;decide
   ·cases hu
  ·unfold E9 at h;split at h
   ·split at h
    ·cases h;decide
    ·cases h
   ·cases h;decide
 ·cases h;decide
def F0(t:ByteArray)(H:Aa)(v:Value)(H':Aa):Prop:=match D8 t with
 | .inl (c,p)=>v= .tuple #[.agg reZ.toArray,.int .i64 (c:Int),.int .i64 p]
 | .inr r=>∃ns na nc Av,v= .tuple #[.agg (reL (.slice na ns.length nc) ((Av:Nat):Int)).toArray,.int .i64 0,.int .i64 0]∧Ba ns r Av∧ns.length=r.nodes∧P8 r ns∧SlO tRn none_ H' H.size 159 (.slice na ns.length nc) ns
structure Z0(H:Aa)(t:ByteArray)(q2 sb i:Nat)(G:Aa):Prop where
 ex:∃(f:AF) (fs:List AF) (ds:List RnM) (ws:List RwM) (fr:List FrD) (fD:FrD) (na:Option Addr) (nc fb fc n:Nat),BE t ⟨0,DR (-1),[]⟩=BE t ⟨i,f,fs⟩∧i≤t.size∧Raw ds ws∧FrR ws fD f∧MK ws fr fs∧ds.length≤4*i∧fs.length≤1000∧
  StB (Old H) H G (stP sb fb na nc fc n ds (fr++[fD]) [pB tRe q2 reZ])
theorem UH(ws:List RwM)(p:Int):FrR ws ⟨p,-1,-1,0,-1,-1⟩ (DR p):=⟨rfl,rfl,rfl,rfl,rfl,rfl⟩
theorem Hg{H:Aa}{b:Nat}(h:Blk H b tRe reZ):Bi H b 0 reZ:=h.cells (fun j v hv=>by rw [Aa2];exact hv)
theorem OX{c:Nat}(h:EF c=true):c=42∨c=43∨c=63∨c=123:=by
 apply Classical.byContradiction;intro hn;rw [Jk (by omega) (by omega) (by omega) (by omega)]at h;cases h
theorem IR(t:ByteArray)(H:Aa):Al Tryz.prog 34 #[.string t] H fun v H'=>Agr (Old H) H H'∧F0 t H v H':=by
 refine Al.of_vcL Tryz.func34 rfl (Tryz.call34 _) (Ak _ reZ Jm rfl ?_);intro q2 H1 hq1 hs1 hb1 ha1;have st1:=(St.nil H).box hq1 hs1 hb1 ha1;by_cases hbig:1048576<t.size
 ·have d1:decide (1048576<(t.size:Int))=true:=decide_eq_true (by omega);have hpM:D8 t= .inl (1,0):=by unfold D8;rw [if_pos hbig]
  (conv=>whnf);rw [d1];refine A6 Tryz.underlying56 rfl _ Jm reZ rfl (AI (cs:=reZ) st1 0 rfl rfl (Aa3 _) rfl fun Gz sz=>?_);have ez:Ae reZ 0 reZ=reZ:=A8 rfl;rw [ez]at sz;refine ldN (cs:=reZ) Dr (Hg (sz.blk 0 rfl)) trivial (⟨sz.old,?_⟩);unfold F0;rw [hpM];rfl
 have d1:decide (1048576<(t.size:Int))=false:=decide_eq_false (by omega);have hpM:D8 t=BE t ⟨0,DR (-1),[]⟩:=by unfold D8;rw [if_neg hbig]
 (conv=>whnf);rw [d1];refine A6 Tryz.underlying148 rfl (.agg #[.slice none 0 0,.slice none 0 0]) WE [.slice none 0 0,.slice none 0 0] rfl (B0 [.slice none 0 0,.slice none 0 0] rfl ?_);intro sb H2 hq2 hs2 hb2 ha2;have st2:StB (Old H) H H2 [pB tSt sb [.slice none 0 0,.slice none 0 0],pS tRn 159 none 0 0 [],pS tFr 150 none 0 0 [],pB tRe q2 reZ]:=(((st1.box hq2 hs2 hb2 ha2).nils tRn 159).nils tFr 150).pick [1,2,3,0] (by decide);refine Ar.heldZ (fun k=>k=sb) [10] (sq [0,1,2,3,4] (.f 5 (.f 6 (.f 7 (sq [8,9] (.f 10 .e)))))) rfl (by kernel_rfl) (VC.fa Bc ?_);refine ld1 (v:=.slice none 0 0) Cj (by rw [(st2.blk 0 rfl).cell];rfl) rfl ?_;refine Ag.mk (UG (-1) H2) ?_;rintro _ H3 ⟨rfl,ha3⟩;have st3:=st2.call ha3;refine⟨fun k hk=>by rw [show k=sb from hk];exact(st3.blk 0 rfl).trans (st2.blk 0 rfl).symm,?_⟩;refine A2 EG (frO (-1)) rfl rfl (by decide) (by decide) ?_;intro z H4 hz hs4 hb4 ha4;have st4:=st3.skip hz ha4;refine⟨fun k hk=>by rw [show k=sb from hk];exact(st4.blk 0 rfl).trans (st2.blk 0 rfl).symm,?_⟩;refine KZ (ys:=[(⟨-1,-1,-1,0,-1,-1⟩:FrD)]) (ds:=frO (-1)) st4 2 EG rfl (hb4.cells (o:=0) (cs:=frO (-1)) fun j v hv=>by rw [Aa2];exact hv) (Ty.reps_one (T:=tFr) rfl) rfl (fun u hu=>Aa7.1 (R4 ⟨-1,-1,-1,0,-1,-1⟩) u hu) (by decide) (by decide) fun a5 fc5 H5 st5 ha5=>?_;refine⟨fun k hk=>by rw [show k=sb from hk];exact(st5.blk 0 rfl).trans (st2.blk 0 rfl).symm,?_⟩;obtain⟨fb5,rfl⟩:=st5.adr 2 rfl (by decide);refine VC.fa Bc ?_;refine AT st5 0 Cj rfl (by show _<(2:Nat);decide) rfl fun H6 st6=>?_;replace st6:StB (Old H) H H6 (stP sb fb5 none 0 fc5 1 [] ([]++[(⟨-1,-1,-1,0,-1,-1⟩:FrD)]) [pB tRe q2 reZ]):=st6;clear st1 st2 st3 st4 st5;(conv=>whnf);refine A3.mk [6] (fun i:Nat=>[.int .i64 (i:Int)]) (fun i G=>Z0 H t q2 sb i G) (fun i _=>t.size - i) ?_ ?_
 ·(conv=>whnf);exact⟨0,rfl,⟨DR (-1),[],[],[],[],_,none,0,fb5,fc5,1,rfl,AaG _,.nil,UH [] (-1),.nil,AaG _,AaG _,st6⟩⟩
 ·rintro i G junk ⟨f,fs,ds,ws,fr,fD,na,nc,fb,fc,n,hpr,hi,hR,hF,hK,hld,hlf,sg⟩;clear st6 d1;have hrun:BE t ⟨0,DR (-1),[]⟩=BE t ⟨i,f,fs⟩:=hpr;have hlen:=R3 sg;have hkl:=hK.len;have hws:=hR.len;have hN:=hF.nums (by omega);refine AB.mk (fun hz=>?_) (fun hz=>?_)<;>simp only [decide_eq_true_eq,decide_eq_false_iff_not]at hz
  ·have hit:i<t.size:=by omega
   (conv=>whnf);try (refine Am.run ?_)
   refine vbt hit (Ar.lex rfl (by kernel_rfl) (VC.fa Bc ?_));refine ld1 (v:=.slice (some ⟨fb,0,none⟩) n fc) Cj (by rw [(sg.blk 0 rfl).cell];rfl) trivial ?_;refine VC.fa Bc ?_;refine ld1 (v:=.slice (some ⟨fb,0,none⟩) n fc) Cj (by rw [(sg.blk 0 rfl).cell];rfl) trivial ?_;(conv=>whnf);rw [w64 (x:=(n:Int) - 1) (by omega) (by omega)];refine ixE (j:=fr.length) EG sg 2 rfl (by simp) (by omega) ?_;have ER:∀{e:Nat×Nat},BO t ⟨i,f,fs⟩= .inl e→BE t ⟨0,DR (-1),[]⟩= .inl (U0 e):=fun h=>hrun.trans (DS hit h);have GO:∀{s:RdS},BO t ⟨i,f,fs⟩= .inr s→BE t ⟨0,DR (-1),[]⟩=BE t s:=fun h=>hrun.trans (DA hit h);refine Ao (SU (bt t i) G) fun G1 hg1=>?_;replace sg:=sg.call hg1;by_cases hpost:EF (bt t i)=true
   ·rw [hpost];refine VC.fa C9 (ld1 (v:=.int .i64 fD.factor) ct3 (AY sg (k:=5) rfl) trivial ?_);cases hfac:f.factor with
    | none=>
      have hx:=hF.factor;rw [hfac]at hx;have d2:decide (fD.factor<0)=true:=decide_eq_true (by rw [show fD.factor= -1 from hx];decide);(conv=>whnf);rw [d2];refine A6 Tryz.underlying56 rfl _ Jm reZ rfl (AI (cs:=reZ) sg 3 rfl rfl (Aa3 _) rfl fun Gz sz=>?_);have ez:Ae reZ 0 reZ=reZ:=A8 rfl;rw [ez]at sz;refine ldN (cs:=reZ) Dr (Hg (sz.blk 3 rfl)) trivial (⟨sz.old,?_⟩);unfold F0;rw [hpM,ER (E3 hpost hfac)];rfl
    | some a=>
      have hx:=hF.factor;rw [hfac]at hx;obtain⟨jx,wx,ex1,ex2,ex3⟩:=hx;have d2:decide (fD.factor<0)=false:=decide_eq_false (by omega);(conv=>whnf);rw [d2];(conv=>whnf);rw [w64 (x:=(i:Int)+1) (by omega) (by omega)];rcases OX hpost with hc | hc | hc | hc
      ·rw [hc];(conv=>whnf);try (refine Am.run ?_)
       (conv=>whnf);try (refine Am.run ?_)
       (conv=>whnf);try (refine Am.run ?_)
       have f1:fb≠sb:=fun e=>sg.apart2 (i:=0) (j:=2) rfl rfl (by decide) sb rfl (.inl ⟨0,n,fc,by rw [e]⟩);have f2:¬slB (.slice na ds.length nc) fb:=fun e=>sg.apart2 (i:=1) (j:=2) rfl rfl (by decide) fb (.inl e) (.inl ⟨0,n,fc,rfl⟩);have f3:=sg.ltE 2 rfl;refine Ar.heldZ (fun k=>k=sb∨k=fb) [16] (sq [0,1,2,3,4,5,6,7,8,9,10,11] (.f 12 (.f 13 (sq [14,15] (.f 16 .e))))) rfl (by kernel_rfl) (VC.fa BQ ?_);refine ld1 (v:=.slice na ds.length nc) Cb (by rw [(sg.blk 0 rfl).cell];rfl) (.inl rfl) ?_;refine VC.fa C9 (ld1 (v:=.int .i64 fD.factor) ct3 (AY sg (k:=5) rfl) (.inr rfl) (HL 7 fD.factor (0) (-1) (A2 C6 (rnL (B9 fD.factor (0) (-1))) rfl (Ai _) (by decide) (by decide) ?_)));intro zz G4 hz hs4 hb4 ha4;have sg4:=sg.skip hz ha4;have az:Agr (fun k=>k=fb) _ G4:=fun k hk=>ha4 k (by have e1:k=fb:=hk;have:zz=_:=hz;omega);refine⟨fun k hk=>by
        rcases hk with hk | hk
        ·rw [show k=sb from hk];exact(sg4.blk 0 rfl).trans (sg.blk 0 rfl).symm
        ·exact az k hk,?_⟩
       refine MO (ys:=[B9 fD.factor (0) (-1)]) sg4 1 C6 rfl (hb4.cells (o:=0) (cs:=rnL (B9 fD.factor (0) (-1))) fun j v hv=>by rw [Aa2];exact hv) (Ty.reps_one ⟨rfl,Bu (x:=7) (by unfold AD;omega),Bu hN.factor,Bu (x:=0) (by unfold AD;omega),Bu (x:=0) (by unfold AD;omega),Bu (x:= -1) (by unfold AD;omega)⟩) rfl (fun u hu=>Aa7.1 (Be _) u hu) (by simp [maxLen];omega) (by simp;omega) fun a5 c5 G5 sg5 ha5=>?_;have el:ds.length+[B9 fD.factor (0) (-1)].length=(ds++[B9 fD.factor (0) (-1)]).length:=by simp
       rw [el]at sg5 ⊢;refine⟨fun k hk=>by
        rcases hk with hk | hk
        ·rw [show k=sb from hk];exact(sg5.blk 0 rfl).trans (sg.blk 0 rfl).symm
        ·exact(ha5 k (by rw [show k=fb from hk];exact⟨sg4.ltE 2 rfl,f2⟩)).trans (az k hk),?_⟩
       refine VC.fa BQ ?_;refine AT sg5 0 Cb rfl (by show _<(2:Nat);decide) rfl fun G6 sg6=>?_;replace sg6:StB (Old H) H G6 (stP sb fb a5 c5 fc n (ds++[B9 fD.factor (0) (-1)]) (fr++[fD]) [pB tRe q2 reZ]):=sg6;refine VC.fa BQ ?_;refine ld1 (v:=.slice a5 (ds++[B9 fD.factor (0) (-1)]).length c5) Cb (by rw [(sg6.blk 0 rfl).cell];rfl) trivial ?_;have w1:IntKind.wrap .i64 (((ds++[B9 fD.factor (0) (-1)]).length:Int) - 1)=(ds.length:Int):=by
        rw [Aa0,Aa1,w64 (by omega) (by omega)];omega
       (conv=>whnf);rw [w1];refine VC.fa C9 (DX (k:=5) (f':={fD with factor:=(ds.length:Int)}) sg6 ct3 (by decide) rfl rfl fun G7 sg7 ja=>?_);(conv=>whnf);refine⟨rfl,i+1,rfl,⟨_,fs,ds++[B9 fD.factor (0) (-1)],ws++[.rep wx (0) (-1)],fr,{fD with factor:=(ds.length:Int)},_,_,_,_,n,GO (Fo hfac hpost (by unfold Ec;rw [if_pos hc])),by omega,hR.add (w:=.rep wx (0) (-1)) ⟨jx,by rw [ex1],ex2,.inr (by omega)⟩,⟨hF.place,hF.alt.more,hF.meet.more,hF.sign,hF.row.more,IxR.new hR (by show BH wx.den (AJ (0)) (-1)=_;rw [ex3,show AJ 0=0 from rfl])⟩,hK.more,by simp only [Aa0,Aa1];omega,hlf,sg7⟩,by omega⟩
      ·rw [hc];(conv=>whnf);try (refine Am.run ?_)
       (conv=>whnf);try (refine Am.run ?_)
       (conv=>whnf);try (refine Am.run ?_)
       have f1:fb≠sb:=fun e=>sg.apart2 (i:=0) (j:=2) rfl rfl (by decide) sb rfl (.inl ⟨0,n,fc,by rw [e]⟩);have f2:¬slB (.slice na ds.length nc) fb:=fun e=>sg.apart2 (i:=1) (j:=2) rfl rfl (by decide) fb (.inl e) (.inl ⟨0,n,fc,rfl⟩);have f3:=sg.ltE 2 rfl;refine Ar.heldZ (fun k=>k=sb∨k=fb) [16] (sq [0,1,2,3,4,5,6,7,8,9,10,11] (.f 12 (.f 13 (sq [14,15] (.f 16 .e))))) rfl (by kernel_rfl) (VC.fa BQ ?_);refine ld1 (v:=.slice na ds.length nc) Cb (by rw [(sg.blk 0 rfl).cell];rfl) (.inl rfl) ?_;refine VC.fa C9 (ld1 (v:=.int .i64 fD.factor) ct3 (AY sg (k:=5) rfl) (.inr rfl) (HL 7 fD.factor (-2) (-1) (A2 C6 (rnL (B9 fD.factor (-2) (-1))) rfl (Ai _) (by decide) (by decide) ?_)));intro zz G4 hz hs4 hb4 ha4;have sg4:=sg.skip hz ha4;have az:Agr (fun k=>k=fb) _ G4:=fun k hk=>ha4 k (by have e1:k=fb:=hk;have:zz=_:=hz;omega);refine⟨fun k hk=>by
        rcases hk with hk | hk
        ·rw [show k=sb from hk];exact(sg4.blk 0 rfl).trans (sg.blk 0 rfl).symm
        ·exact az k hk,?_⟩
       refine MO (ys:=[B9 fD.factor (-2) (-1)]) sg4 1 C6 rfl (hb4.cells (o:=0) (cs:=rnL (B9 fD.factor (-2) (-1))) fun j v hv=>by rw [Aa2];exact hv) (Ty.reps_one ⟨rfl,Bu (x:=7) (by unfold AD;omega),Bu hN.factor,Bu (x:=0) (by unfold AD;omega),Bu (x:= -2) (by unfold AD;omega),Bu (x:= -1) (by unfold AD;omega)⟩) rfl (fun u hu=>Aa7.1 (Be _) u hu) (by simp [maxLen];omega) (by simp;omega) fun a5 c5 G5 sg5 ha5=>?_;have el:ds.length+[B9 fD.factor (-2) (-1)].length=(ds++[B9 fD.factor (-2) (-1)]).length:=by simp
       rw [el]at sg5 ⊢;refine⟨fun k hk=>by
        rcases hk with hk | hk
        ·rw [show k=sb from hk];exact(sg5.blk 0 rfl).trans (sg.blk 0 rfl).symm
        ·exact(ha5 k (by rw [show k=fb from hk];exact⟨sg4.ltE 2 rfl,f2⟩)).trans (az k hk),?_⟩
       refine VC.fa BQ ?_;refine AT sg5 0 Cb rfl (by show _<(2:Nat);decide) rfl fun G6 sg6=>?_;replace sg6:StB (Old H) H G6 (stP sb fb a5 c5 fc n (ds++[B9 fD.factor (-2) (-1)]) (fr++[fD]) [pB tRe q2 reZ]):=sg6;refine VC.fa BQ ?_;refine ld1 (v:=.slice a5 (ds++[B9 fD.factor (-2) (-1)]).length c5) Cb (by rw [(sg6.blk 0 rfl).cell];rfl) trivial ?_;have w1:IntKind.wrap .i64 (((ds++[B9 fD.factor (-2) (-1)]).length:Int) - 1)=(ds.length:Int):=by
        rw [Aa0,Aa1,w64 (by omega) (by omega)];omega
       (conv=>whnf);rw [w1];refine VC.fa C9 (DX (k:=5) (f':={fD with factor:=(ds.length:Int)}) sg6 ct3 (by decide) rfl rfl fun G7 sg7 ja=>?_);(conv=>whnf);refine⟨rfl,i+1,rfl,⟨_,fs,ds++[B9 fD.factor (-2) (-1)],ws++[.rep wx (-2) (-1)],fr,{fD with factor:=(ds.length:Int)},_,_,_,_,n,GO (Fo hfac hpost (by unfold Ec;rw [if_neg (by omega),if_pos hc])),by omega,hR.add (w:=.rep wx (-2) (-1)) ⟨jx,by rw [ex1],ex2,.inl ⟨rfl,rfl⟩⟩,⟨hF.place,hF.alt.more,hF.meet.more,hF.sign,hF.row.more,IxR.new hR (by show BH wx.den (AJ (-2)) (-1)=_;rw [ex3,show AJ (-2)=1 from rfl])⟩,hK.more,by simp only [Aa0,Aa1];omega,hlf,sg7⟩,by omega⟩
      ·rw [hc];(conv=>whnf);try (refine Am.run ?_)
       (conv=>whnf);try (refine Am.run ?_)
       (conv=>whnf);try (refine Am.run ?_)
       have f1:fb≠sb:=fun e=>sg.apart2 (i:=0) (j:=2) rfl rfl (by decide) sb rfl (.inl ⟨0,n,fc,by rw [e]⟩);have f2:¬slB (.slice na ds.length nc) fb:=fun e=>sg.apart2 (i:=1) (j:=2) rfl rfl (by decide) fb (.inl e) (.inl ⟨0,n,fc,rfl⟩);have f3:=sg.ltE 2 rfl;refine Ar.heldZ (fun k=>k=sb∨k=fb) [16] (sq [0,1,2,3,4,5,6,7,8,9,10,11] (.f 12 (.f 13 (sq [14,15] (.f 16 .e))))) rfl (by kernel_rfl) (VC.fa BQ ?_);refine ld1 (v:=.slice na ds.length nc) Cb (by rw [(sg.blk 0 rfl).cell];rfl) (.inl rfl) ?_;refine VC.fa C9 (ld1 (v:=.int .i64 fD.factor) ct3 (AY sg (k:=5) rfl) (.inr rfl) (HL 7 fD.factor (0) (1) (A2 C6 (rnL (B9 fD.factor (0) (1))) rfl (Ai _) (by decide) (by decide) ?_)));intro zz G4 hz hs4 hb4 ha4;have sg4:=sg.skip hz ha4;have az:Agr (fun k=>k=fb) _ G4:=fun k hk=>ha4 k (by have e1:k=fb:=hk;have:zz=_:=hz;omega);refine⟨fun k hk=>by
        rcases hk with hk | hk
        ·rw [show k=sb from hk];exact(sg4.blk 0 rfl).trans (sg.blk 0 rfl).symm
        ·exact az k hk,?_⟩
       refine MO (ys:=[B9 fD.factor (0) (1)]) sg4 1 C6 rfl (hb4.cells (o:=0) (cs:=rnL (B9 fD.factor (0) (1))) fun j v hv=>by rw [Aa2];exact hv) (Ty.reps_one ⟨rfl,Bu (x:=7) (by unfold AD;omega),Bu hN.factor,Bu (x:=0) (by unfold AD;omega),Bu (x:=0) (by unfold AD;omega),Bu (x:=1) (by unfold AD;omega)⟩) rfl (fun u hu=>Aa7.1 (Be _) u hu) (by simp [maxLen];omega) (by simp;omega) fun a5 c5 G5 sg5 ha5=>?_;have el:ds.length+[B9 fD.factor (0) (1)].length=(ds++[B9 fD.factor (0) (1)]).length:=by simp
       rw [el]at sg5 ⊢;refine⟨fun k hk=>by
        rcases hk with hk | hk
        ·rw [show k=sb from hk];exact(sg5.blk 0 rfl).trans (sg.blk 0 rfl).symm
        ·exact(ha5 k (by rw [show k=fb from hk];exact⟨sg4.ltE 2 rfl,f2⟩)).trans (az k hk),?_⟩
       refine VC.fa BQ ?_;refine AT sg5 0 Cb rfl (by show _<(2:Nat);decide) rfl fun G6 sg6=>?_;replace sg6:StB (Old H) H G6 (stP sb fb a5 c5 fc n (ds++[B9 fD.factor (0) (1)]) (fr++[fD]) [pB tRe q2 reZ]):=sg6;refine VC.fa BQ ?_;refine ld1 (v:=.slice a5 (ds++[B9 fD.factor (0) (1)]).length c5) Cb (by rw [(sg6.blk 0 rfl).cell];rfl) trivial ?_;have w1:IntKind.wrap .i64 (((ds++[B9 fD.factor (0) (1)]).length:Int) - 1)=(ds.length:Int):=by
        rw [Aa0,Aa1,w64 (by omega) (by omega)];omega
       (conv=>whnf);rw [w1];refine VC.fa C9 (DX (k:=5) (f':={fD with factor:=(ds.length:Int)}) sg6 ct3 (by decide) rfl rfl fun G7 sg7 ja=>?_);(conv=>whnf);refine⟨rfl,i+1,rfl,⟨_,fs,ds++[B9 fD.factor (0) (1)],ws++[.rep wx (0) (1)],fr,{fD with factor:=(ds.length:Int)},_,_,_,_,n,GO (Fo hfac hpost (by unfold Ec;rw [if_neg (by omega),if_neg (by omega),if_pos hc])),by omega,hR.add (w:=.rep wx (0) (1)) ⟨jx,by rw [ex1],ex2,.inr (by omega)⟩,⟨hF.place,hF.alt.more,hF.meet.more,hF.sign,hF.row.more,IxR.new hR (by show BH wx.den (AJ (0)) (1)=_;rw [ex3,show AJ 0=0 from rfl])⟩,hK.more,by simp only [Aa0,Aa1];omega,hlf,sg7⟩,by omega⟩
      ·rw [hc];(conv=>whnf);try (refine Am.run ?_)
       (conv=>whnf);try (refine Am.run ?_)
       (conv=>whnf);try (refine Am.run ?_)
       refine Ag.mk (S4 (i:=i) (by omega) hit) ?_;rintro v G2 ⟨hag,hBr⟩;replace sg:=sg.call hag;unfold BrD at hBr;cases hbm:BF t i with
       | inl e=>
         obtain⟨c,p⟩:=e;rw [hbm]at hBr;replace hBr:v= .tuple #[.int .i64 0,.int .i64 0,.int .i64 0,.int .i64 (c:Int),.int .i64 (p:Int)]:=hBr;subst hBr;have hcz:=MU hbm;have d3:((c:Int) != 0)=true:=bne_iff_ne.2 (by omega);(conv=>whnf);rw [d3];refine A6 Tryz.underlying56 rfl _ Jm reZ rfl (AI (cs:=reZ) sg 3 rfl rfl (Aa3 _) rfl fun Gz sz=>?_);have ez:Ae reZ 0 reZ=reZ:=A8 rfl;rw [ez]at sz;refine ldN (cs:=reZ) Dr (Hg (sz.blk 3 rfl)) trivial (⟨sz.old,?_⟩);unfold F0;rw [hpM,ER (Kf hfac hpost (by unfold Ec;rw [if_neg (by omega),if_neg (by omega),if_neg (by omega),hbm]))];rfl
       | inr y=>
         obtain⟨m,nn,kk⟩:=y;rw [hbm]at hBr;replace hBr:v= .tuple #[.int .i64 (m:Int),.int .i64 nn,.int .i64 (kk:Int),.int .i64 0,.int .i64 0]:=hBr;subst hBr;have hok:=Il hbm;obtain⟨o1,o2,o3,o4,o5,o6⟩:=hok;have hlow:AJ (m:Int)=m:=by unfold AJ;rw [if_neg (by omega),AaI]
         (conv=>whnf);have f1:fb≠sb:=fun e=>sg.apart2 (i:=0) (j:=2) rfl rfl (by decide) sb rfl (.inl ⟨0,n,fc,by rw [e]⟩);have f2:¬slB (.slice na ds.length nc) fb:=fun e=>sg.apart2 (i:=1) (j:=2) rfl rfl (by decide) fb (.inl e) (.inl ⟨0,n,fc,rfl⟩);have f3:=sg.ltE 2 rfl;refine Ar.heldZ (fun k=>k=sb∨k=fb) [16] (sq [0,1,2,3,4,5,6,7,8,9,10,11] (.f 12 (.f 13 (sq [14,15] (.f 16 .e))))) rfl (by kernel_rfl) (VC.fa BQ ?_);refine ld1 (v:=.slice na ds.length nc) Cb (by rw [(sg.blk 0 rfl).cell];rfl) (.inl rfl) ?_;refine VC.fa C9 (ld1 (v:=.int .i64 fD.factor) ct3 (AY sg (k:=5) rfl) (.inr rfl) (HL 7 fD.factor ((m:Int)) (nn) (A2 C6 (rnL (B9 fD.factor ((m:Int)) (nn))) rfl (Ai _) (by decide) (by decide) ?_)));intro zz G4 hz hs4 hb4 ha4;have sg4:=sg.skip hz ha4;have az:Agr (fun k=>k=fb) _ G4:=fun k hk=>ha4 k (by have e1:k=fb:=hk;have:zz=_:=hz;omega);refine⟨fun k hk=>by
          rcases hk with hk | hk
          ·rw [show k=sb from hk];exact(sg4.blk 0 rfl).trans (sg.blk 0 rfl).symm
          ·exact az k hk,?_⟩
         refine MO (ys:=[B9 fD.factor ((m:Int)) (nn)]) sg4 1 C6 rfl (hb4.cells (o:=0) (cs:=rnL (B9 fD.factor ((m:Int)) (nn))) fun j v hv=>by rw [Aa2];exact hv) (Ty.reps_one ⟨rfl,Bu (x:=7) (by unfold AD;omega),Bu hN.factor,Bu (x:=0) (by unfold AD;omega),Bu (x:=(m:Int)) (by unfold AD;omega),Bu (x:=nn) (by unfold AD;omega)⟩) rfl (fun u hu=>Aa7.1 (Be _) u hu) (by simp [maxLen];omega) (by simp;omega) fun a5 c5 G5 sg5 ha5=>?_;have el:ds.length+[B9 fD.factor ((m:Int)) (nn)].length=(ds++[B9 fD.factor ((m:Int)) (nn)]).length:=by simp
         rw [el]at sg5 ⊢;refine⟨fun k hk=>by
          rcases hk with hk | hk
          ·rw [show k=sb from hk];exact(sg5.blk 0 rfl).trans (sg.blk 0 rfl).symm
          ·exact(ha5 k (by rw [show k=fb from hk];exact⟨sg4.ltE 2 rfl,f2⟩)).trans (az k hk),?_⟩
         refine VC.fa BQ ?_;refine AT sg5 0 Cb rfl (by show _<(2:Nat);decide) rfl fun G6 sg6=>?_;replace sg6:StB (Old H) H G6 (stP sb fb a5 c5 fc n (ds++[B9 fD.factor ((m:Int)) (nn)]) (fr++[fD]) [pB tRe q2 reZ]):=sg6;refine VC.fa BQ ?_;refine ld1 (v:=.slice a5 (ds++[B9 fD.factor ((m:Int)) (nn)]).length c5) Cb (by rw [(sg6.blk 0 rfl).cell];rfl) trivial ?_;have w1:IntKind.wrap .i64 (((ds++[B9 fD.factor ((m:Int)) (nn)]).length:Int) - 1)=(ds.length:Int):=by
          rw [Aa0,Aa1,w64 (by omega) (by omega)];omega
         (conv=>whnf);rw [w1];refine VC.fa C9 (DX (k:=5) (f':={fD with factor:=(ds.length:Int)}) sg6 ct3 (by decide) rfl rfl fun G7 sg7 ja=>?_);(conv=>whnf);refine⟨rfl,kk,rfl,⟨_,fs,ds++[B9 fD.factor ((m:Int)) (nn)],ws++[.rep wx ((m:Int)) (nn)],fr,{fD with factor:=(ds.length:Int)},_,_,_,_,n,GO (Fo hfac hpost (by unfold Ec;rw [if_neg (by omega),if_neg (by omega),if_neg (by omega)];exact hbm)),by omega,hR.add (w:=.rep wx ((m:Int)) (nn)) ⟨jx,by rw [ex1],ex2,.inr ⟨by omega,by omega,by omega,by omega,o5⟩⟩,⟨hF.place,hF.alt.more,hF.meet.more,hF.sign,hF.row.more,IxR.new hR (by show BH wx.den (AJ ((m:Int))) (nn)=_;rw [ex3,hlow])⟩,hK.more,by simp only [Aa0,Aa1];omega,hlf,sg7⟩,by omega⟩
   ·have hpost:EF (bt t i)=false:=by simpa using hpost
    rw [hpost];by_cases h124:bt t i=124
    ·have d:(((bt t i:Nat):Int)==124)=true:=by rw [h124];rfl
     (conv=>whnf);rw [d];clear d;refine Ag.mk (Ll sg hN (by omega)) ?_;rintro v G2 ⟨na2,nc2,sg2⟩;(conv=>whnf);rw [w64 (x:=(i:Int)+1) (by omega) (by omega)];have hcl:=Im ds fD;obtain⟨us,k1,k2⟩:=Io hR hF;exact⟨rfl,i+1,rfl,⟨_,fs,_,_,fr,_,_,_,_,_,n,GO (M7 h124),by omega,k1,k2,hK.more,by omega,hlf,sg2⟩,by omega⟩
    ·have d:(((bt t i:Nat):Int)==124)=false:=El h124;(conv=>whnf);rw [d];clear d;by_cases h38:bt t i=38
     ·have d:(((bt t i:Nat):Int)==38)=true:=by rw [h38];rfl
      (conv=>whnf);rw [d];clear d;refine Ag.mk (Nc sg hN (by omega)) ?_;rintro v G2 ⟨na2,nc2,sg2⟩;have hcl:=HF ds fD;refine Ar.heldZ (fun k=>k=sb) [13] (sq [0,1,2,3,4,5,6,7,8,9,10,11,12] (.f 13 .e)) rfl (by kernel_rfl) (VC.fa Bc ?_);refine ld1 (v:=.slice (some ⟨fb,0,none⟩) n fc) Cj (by rw [(sg2.blk 0 rfl).cell];rfl) rfl ?_;refine VC.fa Bc ?_;refine ld1 (v:=.slice (some ⟨fb,0,none⟩) n fc) Cj (by rw [(sg2.blk 0 rfl).cell];rfl) rfl ?_;(conv=>whnf);rw [w64 (x:=(n:Int) - 1) (by omega) (by omega)];refine ixE (j:=fr.length) EG sg2 2 rfl (by simp) (by omega) (VC.fa K9 (DX (k:=3) (f':={(C2 ds fD).2 with sign:=bt t i}) sg2 ct5 (by decide) rfl rfl fun G3 sg3 ja=>?_));(conv=>whnf);rw [w64 (x:=(i:Int)+1) (by omega) (by omega)];obtain⟨us,k1,k2⟩:=JA hR hF;exact⟨rfl,i+1,rfl,⟨_,fs,_,_,fr,{(C2 ds fD).2 with sign:=bt t i},_,_,_,_,n,GO (Gy (.inl h38)),by omega,k1,⟨k2.place,k2.alt,k2.meet,rfl,k2.row,k2.factor⟩,hK.more,by omega,hlf,sg3⟩,by omega⟩
     ·have d:(((bt t i:Nat):Int)==38)=false:=El h38;(conv=>whnf);rw [d];clear d;by_cases h45:bt t i=45
      ·have d:(((bt t i:Nat):Int)==45)=true:=by rw [h45];rfl
       (conv=>whnf);rw [d];clear d;refine Ag.mk (Nc sg hN (by omega)) ?_;rintro v G2 ⟨na2,nc2,sg2⟩;have hcl:=HF ds fD;refine Ar.heldZ (fun k=>k=sb) [13] (sq [0,1,2,3,4,5,6,7,8,9,10,11,12] (.f 13 .e)) rfl (by kernel_rfl) (VC.fa Bc ?_);refine ld1 (v:=.slice (some ⟨fb,0,none⟩) n fc) Cj (by rw [(sg2.blk 0 rfl).cell];rfl) rfl ?_;refine VC.fa Bc ?_;refine ld1 (v:=.slice (some ⟨fb,0,none⟩) n fc) Cj (by rw [(sg2.blk 0 rfl).cell];rfl) rfl ?_;(conv=>whnf);rw [w64 (x:=(n:Int) - 1) (by omega) (by omega)];refine ixE (j:=fr.length) EG sg2 2 rfl (by simp) (by omega) (VC.fa K9 (DX (k:=3) (f':={(C2 ds fD).2 with sign:=bt t i}) sg2 ct5 (by decide) rfl rfl fun G3 sg3 ja=>?_));(conv=>whnf);rw [w64 (x:=(i:Int)+1) (by omega) (by omega)];obtain⟨us,k1,k2⟩:=JA hR hF;exact⟨rfl,i+1,rfl,⟨_,fs,_,_,fr,{(C2 ds fD).2 with sign:=bt t i},_,_,_,_,n,GO (Gy (.inr h45)),by omega,k1,⟨k2.place,k2.alt,k2.meet,rfl,k2.row,k2.factor⟩,hK.more,by omega,hlf,sg3⟩,by omega⟩
      ·have d:(((bt t i:Nat):Int)==45)=false:=El h45;(conv=>whnf);rw [d];clear d;by_cases h41:bt t i=41
       ·have d:(((bt t i:Nat):Int)==41)=true:=by rw [h41];rfl
        (conv=>whnf);rw [d];clear d;refine VC.fa Bc ?_;refine ld1 (v:=.slice (some ⟨fb,0,none⟩) n fc) Cj (by rw [(sg.blk 0 rfl).cell];rfl) trivial ?_;cases hK with
        | nil=>
          have hn1:n=1:=by rw [hlen];rfl
          have d3:((n:Int)==1)=true:=by rw [hn1];rfl
          (conv=>whnf);rw [d3];refine A6 Tryz.underlying56 rfl _ Jm reZ rfl (AI (cs:=reZ) sg 3 rfl rfl (Aa3 _) rfl fun Gz sz=>?_);have ez:Ae reZ 0 reZ=reZ:=A8 rfl;rw [ez]at sz;refine ldN (cs:=reZ) Dr (Hg (sz.blk 3 rfl)) trivial (⟨sz.old,?_⟩);unfold F0;rw [hpM,ER (Jl h41)];rfl
        | @cons fr1 fs1 g ga hK1 hG=>
          have hn2:n=fr1.length+1+1:=by rw [hlen];simp
          have d3:((n:Int)==1)=false:=beq_eq_false_iff_ne.2 (by omega);(conv=>whnf);rw [d3];refine Ag.mk (Ll sg hN (by omega)) ?_;rintro v G2 ⟨na2,nc2,sg2⟩;have hcl:=Im ds fD;refine Ar.lex rfl (by kernel_rfl) (VC.fa Bc ?_);refine ld1 (v:=.slice (some ⟨fb,0,none⟩) n fc) Cj (by rw [(sg2.blk 0 rfl).cell];rfl) trivial ?_;refine VC.fa Bc ?_;refine ld1 (v:=.slice (some ⟨fb,0,none⟩) n fc) Cj (by rw [(sg2.blk 0 rfl).cell];rfl) trivial ?_;(conv=>whnf);rw [w64 (x:=(n:Int) - 1) (by omega) (by omega)];refine ixE (j:=(fr1++[g]).length) EG sg2 2 rfl (by simp) (by simp;omega) ?_;refine VC.fa HC (ld1 (v:=.int .i64 (D3 ds fD).2.alt) ct3 (AY sg2 (k:=1) rfl) trivial (Ar.heldZ (fun k=>k=sb) [14] (sq [0,1,2,3,4,5,6,7,8,9,10,11,12,13] (.f 14 .e)) rfl (by kernel_rfl) (VC.fa Bc ?_)));refine ld1 (v:=.slice (some ⟨fb,0,none⟩) n fc) Cj (by rw [(sg2.blk 0 rfl).cell];rfl) rfl ?_;refine VC.fa Bc ?_;refine ld1 (v:=.slice (some ⟨fb,0,none⟩) n fc) Cj (by rw [(sg2.blk 0 rfl).cell];rfl) rfl ?_;have hcap:=sg2.capT 2 rfl;simp only [Aa0,Aa1]at hcap;(conv=>whnf);rw [w64 (x:=(n:Int) - 1) (by omega) (by omega)];rw [show(n:Int) - 1=((fr1.length+1:Nat):Int) by omega];refine Si EG (by omega) (by omega) (VC.fa Bc ?_);have sg3:=sg2.popT 2 rfl;refine AT sg3 0 Cj rfl (by show _<(2:Nat);decide) rfl fun G4 sg4=>?_;rw [AaI]at sg4;replace sg4:StB (Old H) H G4 (stP sb fb na2 nc2 fc (fr1.length+1) (D3 ds fD).1 (fr1++[g]) [pB tRe q2 reZ]):=by
           have e:(fr1++[g]).length=fr1.length+1:=by simp
           have:=sg4;simp only [Aa0,Aa1]at this;exact this
          refine Ar.heldZ (fun k=>k=sb) [13] (sq [0,1,2,3,4,5,6,7,8,9,10,11,12] (.f 13 .e)) rfl (by kernel_rfl) (VC.fa Bc ?_);refine ld1 (v:=.slice (some ⟨fb,0,none⟩) (fr1.length+1) fc) Cj (by rw [(sg4.blk 0 rfl).cell];rfl) rfl ?_;refine VC.fa Bc ?_;refine ld1 (v:=.slice (some ⟨fb,0,none⟩) (fr1.length+1) fc) Cj (by rw [(sg4.blk 0 rfl).cell];rfl) rfl ?_;(conv=>whnf);rw [w64 (x:=((fr1.length+1:Nat):Int) - 1) (by omega) (by omega)];refine ixE (j:=(fr1).length) EG sg4 2 rfl (by simp) (by omega) (VC.fa C9 (DX (k:=5) (f':={g with factor:=(D3 ds fD).2.alt}) sg4 ct3 (by decide) rfl rfl fun G5 sg5 ja=>?_));(conv=>whnf);rw [w64 (x:=(i:Int)+1) (by omega) (by omega)];obtain⟨us,k1,k2⟩:=Io hR hF;exact⟨rfl,i+1,rfl,⟨_,fs1,_,_,fr1,{g with factor:=(D3 ds fD).2.alt},_,_,_,_,_,GO (Ke h41),by omega,k1,⟨hG.place,hG.alt.more,hG.meet.more,hG.sign,hG.row.more,k2.alt⟩,hK1.more,by omega,by simp only [AaV]at hlf;omega,sg5⟩,by omega⟩
       ·have d:(((bt t i:Nat):Int)==41)=false:=El h41;(conv=>whnf);rw [d];clear d;refine Ag.mk (Mr sg hN (by omega)) ?_;rintro v G2 ⟨na2,nc2,sg2⟩;have hcl:=FD ds fD;obtain⟨us,k1,k2⟩:=Kj hR hF;have hkm:=hK.more (us:=us);have hN2:=Hu (ds:=ds) hN (by omega);obtain⟨ds2,f2,hq⟩:∃ds2 f2,AV ds fD=(ds2,f2):=⟨_,_,rfl⟩;rw [hq]at sg2 k1 k2 hcl hN2;replace sg2:StB (Old H) H G2 (stP sb fb na2 nc2 fc n ds2 (fr++[f2]) [pB tRe q2 reZ]):=sg2;replace k1:Raw ds2 (ws++us):=k1;replace k2:FrR (ws++us) f2 (A0 f):=k2;replace hcl:ds2.length≤ds.length+1:=hcl;replace hN2:FrN f2:=hN2;by_cases h40:bt t i=40
        ·have d:(((bt t i:Nat):Int)==40)=true:=by rw [h40];rfl
         (conv=>whnf);rw [d];clear d;refine VC.fa Bc ?_;refine ld1 (v:=.slice (some ⟨fb,0,none⟩) n fc) Cj (by rw [(sg2.blk 0 rfl).cell];rfl) trivial ?_;by_cases hdeep:1000≤fs.length
         ·have d3:decide (1000<(n:Int))=true:=decide_eq_true (by omega);(conv=>whnf);rw [d3];refine A6 Tryz.underlying56 rfl _ Jm reZ rfl (AI (cs:=reZ) sg2 3 rfl rfl (Aa3 _) rfl fun Gz sz=>?_);have ez:Ae reZ 0 reZ=reZ:=A8 rfl;rw [ez]at sz;refine ldN (cs:=reZ) Dr (Hg (sz.blk 3 rfl)) trivial (⟨sz.old,?_⟩);unfold F0;rw [hpM,ER (LD h40 hdeep)];rfl
         ·have d3:decide (1000<(n:Int))=false:=decide_eq_false (by omega);(conv=>whnf);rw [d3];refine Ar.heldZ (fun k=>k=sb) [11] (sq [0,1,2,3,4,5] (.f 6 (.f 7 (.f 8 (sq [9,10] (.f 11 .e)))))) rfl (by kernel_rfl) (VC.fa Bc ?_);refine ld1 (v:=.slice (some ⟨fb,0,none⟩) n fc) Cj (by rw [(sg2.blk 0 rfl).cell];rfl) rfl ?_;refine Ag.mk (UG (i:Int) G2) ?_;rintro _ G3 ⟨rfl,ha3⟩;have sg3:=sg2.call ha3;refine⟨fun k hk=>by rw [show k=sb from hk];exact(sg3.blk 0 rfl).trans (sg2.blk 0 rfl).symm,?_⟩;refine A2 EG (frO (i:Int)) rfl rfl (by decide) (by decide) ?_;intro zz G4 hz hs4 hb4 ha4;have sg4:=sg3.skip hz ha4;refine⟨fun k hk=>by rw [show k=sb from hk];exact(sg4.blk 0 rfl).trans (sg2.blk 0 rfl).symm,?_⟩;refine KZ (ys:=[(⟨i,-1,-1,0,-1,-1⟩:FrD)]) (ds:=frO (i:Int)) sg4 2 EG rfl (hb4.cells (o:=0) (cs:=frO (i:Int)) fun j v hv=>by rw [Aa2];exact hv) (Ty.reps_one (T:=tFr) rfl) rfl (fun u hu=>Aa7.1 (R4 ⟨i,-1,-1,0,-1,-1⟩) u hu) (by simp;omega) (by decide) fun a5 c5 G5 sg5 ha5=>?_;refine⟨fun k hk=>by rw [show k=sb from hk];exact(sg5.blk 0 rfl).trans (sg2.blk 0 rfl).symm,?_⟩;obtain⟨fb5,rfl⟩:=sg5.adr 2 rfl (by simp);refine VC.fa Bc ?_;refine AT sg5 0 Cj rfl (by show _<(2:Nat);decide) rfl fun G6 sg6=>?_;replace sg6:StB (Old H) H G6 (stP sb fb5 na2 nc2 c5 ((fr++[f2]).length+1) ds2 ((fr++[f2])++[(⟨i,-1,-1,0,-1,-1⟩:FrD)]) [pB tRe q2 reZ]):=sg6;(conv=>whnf);rw [w64 (x:=(i:Int)+1) (by omega) (by omega)];exact⟨rfl,i+1,rfl,⟨_,A0 f::fs,ds2,ws++us,fr++[f2],_,_,_,_,_,_,GO (LE h40 (by omega)),by omega,k1,UH _ _,hkm.cons k2,by omega,by simp only [AaV];omega,sg6⟩,by omega⟩
        ·have d:(((bt t i:Nat):Int)==40)=false:=El h40;(conv=>whnf);rw [d];clear d;refine Ag.mk (SX (i:=i) (by omega) hit) ?_;rintro v G3 ⟨hag3,hRd⟩;have sg3:=sg2.call hag3;have hfb:Lt (bt t i):=⟨h124,h38,h45,h41,hpost⟩;unfold Dq at hRd;cases hrs:Bo t i with
         | inl e=>
           rw [hrs]at hRd;replace hRd:v= .tuple #[Fw,.int .i64 0,.int .i64 10,.int .i64 (e:Int)]:=hRd;subst hRd;refine Ak Fw (Ap 0#256) D2 rfl ?_;intro q15 G4 hq4 hs4 hb4 ha4;have sg4:=sg3.skip hq4 ha4;have sg4':=sg3.box hq4 hs4 hb4 ha4;refine AI (cs:=Ap 0#256) sg4' 4 (szD 0) rfl (Nat.le_of_eq (Aa2 _)) (onD 0) fun G5 sg5=>?_;replace sg5:StB (Old H) H G5 (stP sb fb na2 nc2 fc n ds2 (fr++[f2]) [pB tRe q2 reZ]):=sg5.subl (List.Sublist.cons_cons _ (List.Sublist.cons_cons _ (List.Sublist.cons_cons _ (List.Sublist.cons_cons _ (AaC _)))));(conv=>whnf);refine A6 Tryz.underlying56 rfl _ Jm reZ rfl (AI (cs:=reZ) sg5 3 rfl rfl (Aa3 _) rfl fun Gz sz=>?_);have ez:Ae reZ 0 reZ=reZ:=A8 rfl;rw [ez]at sz;refine ldN (cs:=reZ) Dr (Hg (sz.blk 3 rfl)) trivial (⟨sz.old,?_⟩);unfold F0;rw [hpM,ER (LC hfb h40 hrs)];rfl
         | inr y=>
           obtain⟨x,kk⟩:=y;rw [hrs]at hRd;replace hRd:v= .tuple #[.agg (Ap x).toArray,.int .i64 (kk:Int),.int .i64 0,.int .i64 0]:=hRd;subst hRd;have hok:=I6 hrs;refine Ak Fw (Ap 0#256) D2 rfl ?_;intro q15 G4 hq4 hs4 hb4 ha4;have sg4:=sg3.box hq4 hs4 hb4 ha4;refine AI (cs:=Ap x) sg4 4 (szD x) rfl (by rw [Aq,Aq];decide) (onD x) fun G5 sg5=>?_;rw [A8 (show(Ap x).length=(Ap 0#256).length by rw [Aq,Aq])]at sg5;replace sg5:StB (Old H) H G5 (stP sb fb na2 nc2 fc n ds2 (fr++[f2]) [pB tRe q2 reZ,pB 157 q15 (Ap x)]):=sg5;have hx5:Blk G5 q15 157 (Ap x):=sg5.blk 4 rfl;refine Ar.heldZ (fun k=>k=sb∨k=q15) [11] (sq [0,1,2,3,4,5,6] (.f 7 (.f 8 (sq [9,10] (.f 11 .e))))) rfl (by kernel_rfl) (VC.fa BQ ?_);refine ld1 (v:=.slice na2 ds2.length nc2) Cb (by rw [(sg5.blk 0 rfl).cell];rfl) (.inl rfl) ?_;refine ldN (cs:=Ap x) (agD x) (BL hx5) (.inr rfl) (JN 1 x (A2 C6 (rnL (Di x)) rfl (Ai _) (by decide) (by decide) ?_));intro zz G6 hz hs6 hb6 ha6;have sg6:=sg5.skip hz ha6;refine⟨fun k hk=>by
            rcases hk with hk | hk
            ·rw [show k=sb from hk];exact(sg6.blk 0 rfl).trans (sg5.blk 0 rfl).symm
            ·rw [show k=q15 from hk];exact(sg6.blk 4 rfl).trans hx5.symm,?_⟩
           refine MO (ys:=[Di x]) sg6 1 C6 rfl (hb6.cells (o:=0) (cs:=rnL (Di x)) fun j v hv=>by rw [Aa2];exact hv) (Ty.reps_one ⟨rfl,Bu (x:=1) (by unfold AD;omega),Bu (x:=0) (by unfold AD;omega),Bu (x:=0) (by unfold AD;omega),Bu (x:=0) (by unfold AD;omega),Bu (x:=0) (by unfold AD;omega)⟩) rfl (fun u hu=>Aa7.1 (Be _) u hu) (by simp [maxLen];omega) (by simp;omega) fun a7 c7 G7 sg7 ha7=>?_;have el:ds2.length+[Di x].length=(ds2++[Di x]).length:=by simp
           rw [el]at sg7 ⊢;refine⟨fun k hk=>by
            rcases hk with hk | hk
            ·rw [show k=sb from hk];exact(sg7.blk 0 rfl).trans (sg5.blk 0 rfl).symm
            ·rw [show k=q15 from hk];exact(sg7.blk 4 rfl).trans hx5.symm,?_⟩
           refine VC.fa BQ ?_;refine AT sg7 0 Cb rfl (by show _<(2:Nat);decide) rfl fun G8 sg8=>?_;replace sg8:StB (Old H) H G8 (stP sb fb a7 c7 fc n (ds2++[Di x]) (fr++[f2]) [pB tRe q2 reZ,pB 157 q15 (Ap x)]):=sg8;have w1:IntKind.wrap .i64 (((ds2++[Di x]).length:Int) - 1)=(ds2.length:Int):=by
            rw [Aa0,Aa1,w64 (by omega) (by omega)];omega
           refine Ar.heldZ (fun k=>k=sb) [18] (sq [0,1,2,3,4,5,6,7,8,9,10,11,12,13,14,15,16,17] (.f 18 .e)) rfl (by kernel_rfl) (VC.fa Bc ?_);refine ld1 (v:=.slice (some ⟨fb,0,none⟩) n fc) Cj (by rw [(sg8.blk 0 rfl).cell];rfl) rfl ?_;refine VC.fa Bc ?_;refine ld1 (v:=.slice (some ⟨fb,0,none⟩) n fc) Cj (by rw [(sg8.blk 0 rfl).cell];rfl) rfl ?_;(conv=>whnf);rw [w64 (x:=(n:Int) - 1) (by omega) (by omega)];refine VC.fa BQ ?_;refine ld1 (v:=.slice a7 (ds2++[Di x]).length c7) Cb (by rw [(sg8.blk 0 rfl).cell];rfl) rfl ?_;(conv=>whnf);rw [w1];refine ixE (j:=fr.length) EG sg8 2 rfl (by simp) (by omega) (VC.fa C9 (DX (k:=5) (f':={f2 with factor:=(ds2.length:Int)}) sg8 ct3 (by decide) rfl rfl fun G9 sg9 ja=>?_));(conv=>whnf);replace sg9:StB (Old H) H G9 (stP sb fb a7 c7 fc n (ds2++[Di x]) (fr++[{f2 with factor:=(ds2.length:Int)}]) [pB tRe q2 reZ]):=sg9.subl (List.Sublist.cons_cons _ (List.Sublist.cons_cons _ (List.Sublist.cons_cons _ (List.Sublist.cons_cons _ (AaC _)))));exact⟨rfl,kk,rfl,⟨_,fs,ds2++[Di x],ws++us++[.cls x],fr,{f2 with factor:=(ds2.length:Int)},_,_,_,_,n,GO (M8 hfb h40 hrs),by omega,k1.add (w:=.cls x) rfl,⟨k2.place,k2.alt.more,k2.meet.more,k2.sign,k2.row.more,IxR.new k1 rfl⟩,hkm.more,by simp only [Aa0,Aa1];omega,hlf,sg9⟩,by omega⟩
  ·skip
   obtain rfl:i=t.size:=by omega
   have hend:BE t ⟨0,DR (-1),[]⟩=SS ⟨t.size,f,fs⟩:=hrun.trans (LB (by show¬t.size<t.size;omega));refine VC.fa Bc ?_;refine ld1 (v:=.slice (some ⟨fb,0,none⟩) n fc) Cj (by rw [(sg.blk 0 rfl).cell];rfl) trivial ?_;cases hK with
   | @cons fr1 fs1 g ga hK1 hG=>
     have hn2:n=fr1.length+1+1:=by rw [hlen];simp
     have d3:decide (1<(n:Int))=true:=decide_eq_true (by omega);have ne1:sb≠q2:=(sg.blk 0 rfl).ne (sg.blk 3 rfl) (by decide);have ne2:fb≠q2:=fun e=>sg.apart2 (i:=2) (j:=3) rfl rfl (by decide) fb (.inl ⟨0,n,fc,rfl⟩) e;(conv=>whnf);rw [d3];refine Ar.held (fun k=>k=sb∨k=fb) 17 (sq [0,1,2,3,4,5,6,7,8,9,10,11,12,13] (.f 14 (sq [15,16] .e))) rfl (by kernel_rfl) (A6 Tryz.underlying56 rfl _ Jm reZ rfl (VC.fa Bc ?_));refine ld1 (v:=.slice (some ⟨fb,0,none⟩) n fc) Cj (by rw [(sg.blk 0 rfl).cell];rfl) (.inl rfl) ?_;refine VC.fa Bc ?_;refine ld1 (v:=.slice (some ⟨fb,0,none⟩) n fc) Cj (by rw [(sg.blk 0 rfl).cell];rfl) (.inl rfl) ?_;(conv=>whnf);rw [w64 (x:=(n:Int) - 1) (by omega) (by omega)];refine ixE (j:=(fr1++[g]).length) EG sg 2 rfl (by simp) (by simp;omega) ?_;refine VC.fa VX (ld1 (v:=.int .i64 fD.place) ct3 (AY sg (k:=0) rfl) (.inr rfl) (Bf (cs:=reZ) sg 3 rfl rfl (Aa3 _) rfl fun Gz sz jz jq=>?_));have ez:Ae reZ 0 reZ=reZ:=A8 rfl;rw [ez]at sz;refine⟨jz.mono fun k hk=>by
      rcases hk with hk | hk
      ·rw [show k=sb from hk];exact ne1
      ·rw [show k=fb from hk];exact ne2,?_⟩
     refine ldN (cs:=reZ) Dr (Hg (sz.blk 3 rfl)) trivial (⟨sz.old,?_⟩);unfold F0;rw [hpM,hend];show _=Value.tuple #[.agg reZ.toArray,.int .i64 21,.int .i64 f.place];rw [←hF.place];rfl
   | nil=>
     have hn1:n=1:=by rw [hlen];rfl
     have d3:decide (1<(n:Int))=false:=decide_eq_false (by omega);(conv=>whnf);rw [d3];refine Ag.mk (Ll sg hN (by omega)) ?_;rintro v G2 ⟨na2,nc2,sg2⟩;have hcl:=Im ds fD;obtain⟨us,k1,k2⟩:=Io hR hF;have kalt:=k2.alt;have hca:(Cr f).alt=some ((Cr f).alt.getD .eps):=rfl;obtain⟨r,hr⟩:∃r,r=(Cr f).alt.getD .eps:=⟨_,rfl⟩;rw [hca,←hr]at kalt;obtain⟨jr,wr,er1,er2,er3⟩:=kalt;have hfin:BE t ⟨0,DR (-1),[]⟩=(if 2000<r.nodes then .inl (24,0)else .inr r):=by
      rw [hend,hr];rfl
     obtain⟨ds2,f2,hq⟩:∃ds2 f2,D3 ds fD=(ds2,f2):=⟨_,_,rfl⟩;rw [hq]at sg2 k1 k2 hcl er1;replace sg2:StB (Old H) H G2 (stP sb fb na2 nc2 fc n ds2 ([]++[f2]) [pB tRe q2 reZ]):=sg2;replace k1:Raw ds2 (ws++us):=k1;replace hcl:ds2.length≤ds.length+4:=hcl;replace er1:f2.alt=(jr:Int):=er1;have hwl:=k1.len;have hjl:=(AaD.1 er2).1;refine VC.fa Bc ?_;refine ld1 (v:=.slice (some ⟨fb,0,none⟩) n fc) Cj (by rw [(sg2.blk 0 rfl).cell];rfl) trivial ?_;refine ixE (j:=([]:List FrD).length) EG sg2 2 rfl (by simp) rfl (VC.fa HC ?_);refine ld1 (v:=.int .i64 (jr:Int)) ct3 (by rw [←er1];exact AY sg2 (k:=1) rfl) trivial ?_;refine VC.fa BQ ?_;refine ld1 (v:=.slice na2 ds2.length nc2) Cb (by rw [(sg2.blk 0 rfl).cell];rfl) trivial ?_;refine Ag.mk (W8 (S:=Old G2) (fun k hk=>hk) k1 (by omega) (sg2.view 1 rfl)) ?_;rintro _ G3 ⟨bz,rfl,stz⟩;have sg3:=sg2.call stz.old;have hszg:=NL (j:=(ws++us).length) er2 hjl;refine ixO (j:=jr) (x:=szI wr) AL stz 0 rfl hszg rfl fun b9 o9 cs9 hO9 hc9 hr9=>?_;obtain⟨rfl,-⟩:=hr9;refine ld1 (v:=.int .i64 (szI wr)) ct3 hc9.one trivial ?_;have hszr:szI wr=((szR r:Nat):Int):=by unfold szI;rw [er3]
     rw [hszr];by_cases hn:2000<r.nodes
     ·have d4:decide (2000<((szR r:Nat):Int))=true:=decide_eq_true (by unfold szR;omega);rw [if_pos hn]at hfin;(conv=>whnf);rw [d4];refine A6 Tryz.underlying56 rfl _ Jm reZ rfl (AI (cs:=reZ) sg3 3 rfl rfl (Aa3 _) rfl fun Gz sz=>?_);have ez:Ae reZ 0 reZ=reZ:=A8 rfl;rw [ez]at sz;refine ldN (cs:=reZ) Dr (Hg (sz.blk 3 rfl)) trivial (⟨sz.old,?_⟩);unfold F0;rw [hpM,hfin];rfl
     ·have d4:decide (2000<((szR r:Nat):Int))=false:=decide_eq_false (by unfold szR;omega);rw [if_neg hn]at hfin;(conv=>whnf);rw [d4];refine Ak _ reZ Jm rfl ?_;intro q20 G4 hq4 hs4 hb4 ha4;have sq4:=((St.nil G3).box hq4 hs4 hb4 ha4).nils tRn 159;replace sq4:StB (Old G3) G3 G4 (reP q20 none 0 [] 0 []):=sq4;have sg4:=sg3.call sq4.old;refine VC.fa BQ ?_;refine ld1 (v:=.slice na2 ds2.length nc2) Cb (by rw [(sg4.blk 0 rfl).cell];rfl) trivial ?_;refine Ag.mk (XB wr (Old G3) G3 G4 q20 0 none [] 0 [] na2 nc2 jr ds2 (ws++us) k1 (sg3.view 1 rfl) (fun k hk=>hk) er2 (by rw [er3];simp;omega) sq4) ?_;rintro _ G5 ⟨ms,a5,c5,hm5,hs5,rfl,ht5,sq5⟩;rw [er3]at hm5 ht5 hs5;rw [List.nil_append]at ht5 sq5;refine VC.fa Lw ?_;refine AT sq5 0 ct3 rfl (by show _<(2:Nat);decide) rfl fun G6 sq6=>?_;rw [show([]:List RnM).length+ms.length - 1=ms.length - 1 by simp]at ht5 sq6;replace sq6:StB (Old G3) G3 G6 (reP q20 a5 c5 ms ((ms.length - 1:Nat):Int) []):=sq6;have sg6:=sg3.call sq6.old;have lds:Bi G6 q20 0 (reL (.slice a5 ms.length c5) ((ms.length - 1:Nat):Int)):=(sq6.blk 0 rfl).cells fun j v hv=>by rw [Aa2];exact hv
      refine ldN (cs:=reL (.slice a5 ms.length c5) ((ms.length - 1:Nat):Int)) Dr lds trivial (Bf (cs:=reL (.slice a5 ms.length c5) ((ms.length - 1:Nat):Int)) sg6 3 rfl rfl (Aa3 _) rfl fun G7 sg7 ja7 js7=>?_);rw [A8 (show(reL (.slice a5 ms.length c5) ((ms.length - 1:Nat):Int)).length=reZ.length from rfl)]at sg7;have ldr:Bi G7 q2 0 (reL (.slice a5 ms.length c5) ((ms.length - 1:Nat):Int)):=(sg7.blk 3 rfl).cells fun j v hv=>by rw [Aa2];exact hv
      refine ldN (cs:=reL (.slice a5 ms.length c5) ((ms.length - 1:Nat):Int)) Dr ldr trivial ?_;have ow:=St.own (H0:=G3) sq6 1 rfl;have q2l:q2<G3.size:=(sg3.blk 3 rfl).lt;refine⟨sg7.old,?_⟩;unfold F0;rw [hpM,hfin];refine⟨ms,a5,c5,ms.length - 1,rfl,ht5,hm5,hs5,?_⟩;refine(ow.agr ja7 (fun b hb=>by have:=(ow.lt hb).1;omega) (fun b hb=>hb.elim)).lower ?_;exact sg3.size
end Go.Proofs.YtfbghcpdinlmcaaGreatDoor
