/- Parts of the proof: PPa8, PBs4, PBg4, PTre, PBd1, PDBl, PThm, PLk2, PBd2, PBd3, PWt1, PWt2, PShw5, PShw6 -/
import Derived.Test.YtlnmhfhdjnenoaaGreatDoorKNv5
import Derived.Test.YtlnmhfhdjnenoaaGreatDoorKNv4
import Derived.Test.YtlnmhfhdjnenoaaGreatDoorKNv3
import Derived.Test.YtlnmhfhdjnenoaaGreatDoorKNv2
set_option maxHeartbeats 64000000
open Int renaming toNat_natCast → Vk
open List renaming length_append → UL, length_singleton → UN, length_nil → UO, length_cons → UQ, replicate → UR, perm_append_singleton → US, append_assoc → UT, getElem?_eq_some_iff → UU, toList_toArray → UV, length_replicate → UW, sublist_cons_self → UX, append_sublist_append_left → UY, append_nil → UZ, getElem?_append_right → Vb, size_toArray → Vc, nil_sublist → Vf, mem_singleton → Vg, mem_append_right → Vh, mem_of_getElem? → Vi, mem_append_left → Vj, drop_eq_nil_of_le → Vl, take_of_length_le → Vm, all_eq_true → Vn, perm_append_comm → Vo, map_append → Vp, drop_length_add_append → Vq, getElem?_map → Vs, getElem?_append_left → Vt, nil_append → Vv, length_map → Vw, append_eq_nil_iff → Vz, getElem?_eq_none → V0, mem_range → V1, all_replicate → V2, take_add_one → V3, length_take → V4, take_length → V5, all_append → V6, mem_append → V7, length_set → V8, take_zero → V9
open Nat renaming zero_add → UM, le_refl → UP, zero_le → Va, mul_add → Ve, lt_or_eq_of_le → Vr, le_trans → Vu, not_lt_zero → Vx
open Option renaming some → Vd, map_eq_some_iff → Vy
set_option linter.unusedVariables false
set_option linter.unusedSimpArgs false
set_option maxRecDepth 100000
namespace Go.VC
theorem StB.capT{α:Type}{T:Ty α}{S:Nat→Prop}{B:Nat→Prop}{H0 H:Aa}{ps:List Pc}{e:TypeId}{a:Option Addr}{n cap:Nat}{xs:List α}(st:StB B H0 H ps)(i:Nat)(hp:ps[i]? =some (pN T S e a n cap xs)):xs.length≤cap:=by
 obtain⟨cs,⟨h0,h1⟩,h2⟩:=(st.at_ i hp).1;rcases h1 with⟨h1,h3⟩ | ⟨b,cap',l,h1,h4,h5,h6,h7,h8,h9⟩
 ·rw [h3];exact Va _
 ·cases h1;omega
theorem StB.popT{α:Type}{T:Ty α}{B:Nat→Prop}{H0 H:Aa}{ps:List Pc}{e:TypeId}{a:Option Addr}{n cap:Nat}{xs:List α}{x:α}(st:StB B H0 H ps)(i:Nat)(hp:ps[i]? =some (pS T e a n cap (xs++[x]))):StB B H0 H (ps.set i (pS T e a xs.length cap xs)):=by
 have hown:=(st.at_ i hp).1;refine st.say i hp _ ⟨hown.pop,fun k hk=>hk.elim⟩ fun k hk=>?_;rcases hk with⟨o,m,c,hk⟩ | hk
 ·injection hk with e1 e2 e3
  subst e1;exact .inl ⟨o,n,cap,rfl⟩
 ·exact hk.elim
theorem Blk.ne{H:Aa}{b b':Nat}{e e':TypeId}{l l':List Value}(h:Blk H b e l)(h':Blk H b' e' l')(he:e≠e'):b≠b':=by
 rintro rfl;have e1:=Vd.inj (h.symm.trans h');injection e1 with _ e2 _
 exact he e2
end Go.VC
namespace Go.Proofs.YtlnmhfhdjnenoaaGreatDoor
open Go.VC Go.Lib
section
variable{t:ByteArray}{i:Nat}{f:AF}{fs:List AF}
theorem JQ(h:bt t i=40)(hl:fs.length<1000):BO t ⟨i,f,fs⟩= .inr ⟨i+1,DJ i,Aw f::fs⟩:=by
 unfold BO;simp only [h];rw [if_neg (by decide),if_neg (by decide),if_neg (by decide),if_neg (by decide),if_pos trivial,if_neg (by omega)]
theorem JP(h:bt t i=40)(hl:1000≤fs.length):BO t ⟨i,f,fs⟩= .inl (23,i):=by
 unfold BO;simp only [h];rw [if_neg (by decide),if_neg (by decide),if_neg (by decide),if_neg (by decide),if_pos trivial,if_pos hl]
theorem IJ{g:AF}(h:bt t i=41):BO t ⟨i,f,g::fs⟩= .inr ⟨i+1,{g with factor:=(Cl f).alt},fs⟩:=by
 unfold BO;simp only [h];rw [if_neg (by decide),if_neg (by decide),if_neg (by decide),if_pos trivial]
theorem Im(h:bt t i=41):BO t ⟨i,f,[]⟩= .inl (20,i):=by
 unfold BO;simp only [h];rw [if_neg (by decide),if_neg (by decide),if_neg (by decide),if_pos trivial]
theorem K8(h:bt t i=124):BO t ⟨i,f,fs⟩= .inr ⟨i+1,Cl f,fs⟩:=by
 unfold BO;simp only [h];rw [if_neg (by decide),if_pos trivial]
theorem FT(h:bt t i=38∨bt t i=45):BO t ⟨i,f,fs⟩= .inr ⟨i+1,{BV f with sign:=bt t i},fs⟩:=by
 unfold BO;rcases h with h | h<;>(simp only [h];rw [if_neg (by decide),if_neg (by decide),if_pos (by decide)])
theorem Eu(h:E6 (bt t i)=true)(hf:f.factor=none):BO t ⟨i,f,fs⟩= .inl (20,i):=by
 unfold BO;simp only [hf];rw [if_pos h]
def JF(c:Nat):Prop:=c≠124∧c≠38∧c≠45∧c≠41∧E6 c=false
theorem K9(h:JF (bt t i))(h40:bt t i≠40){x:BitVec 256}{k:Nat}(hr:Bm t i= .inr (x,k)):BO t ⟨i,f,fs⟩= .inr ⟨k,{Aw f with factor:=some (.cls x)},fs⟩:=by
 unfold BO;simp only [hr];rw [if_neg (by rw [h.2.2.2.2];decide),if_neg h.1,if_neg (by rintro(e | e);exact h.2.1 e;exact h.2.2.1 e),if_neg h.2.2.2.1,if_neg h40]
theorem JO(h:JF (bt t i))(h40:bt t i≠40){e:Nat}(hr:Bm t i= .inl e):BO t ⟨i,f,fs⟩= .inl (10,e):=by
 unfold BO;simp only [hr];rw [if_neg (by rw [h.2.2.2.2];decide),if_neg h.1,if_neg (by rintro(e | e);exact h.2.1 e;exact h.2.2.1 e),if_neg h.2.2.2.1,if_neg h40]
theorem Rq{e:Nat}(h:F1 t i= .inl e):e≤i+2:=by
 unfold F1 at h;split at h
 ·cases h;omega
 ·split at h
  ·cases h
  ·split at h
   ·cases h
   ·split at h
    ·cases h
    ·split at h
     ·split at h
      ·cases h;omega
      ·split at h
       ·cases h;omega
       ·cases h
     ·split at h
      ·cases h;omega
      ·cases h
theorem L4{u:ByteArray}{e:Nat}(h:Bk t u i= .inl e):e≤i+3:=by
 unfold Bk at h;split at h
 ·have:=Rq h;omega
 ·split at h
  ·cases h;omega
  ·cases h
theorem L0:∀{n i e:Nat} {x:BitVec 256},C9 t n i x= .inl e→i≤t.size+2→e≤t.size+6
 | 0,i,e,x,h,hi=>by cases h;omega
 | n+1,i,e,x,h,hi=>by
   unfold C9 at h;split at h
   ·cases h
   ·split at h
    ·rename_i e1 h1;cases h;have:=L4 h1;omega
    ·rename_i lo j h1;have:=CE h1;unfold F0 at h;split at h
     ·split at h
      ·rename_i e2 h2;cases h;have:=L4 h2;omega
      ·rename_i hi2 k2 h2;have:=CE h2;split at h
       ·cases h;omega
       ·exact L0 h (by omega)
     ·exact L0 h (by omega)
theorem JS{e:Nat}(h:Bm t i= .inl e)(hi:i<t.size):e≤t.size+6:=by
 unfold Bm at h;split at h
 ·cases h
 ·split at h
  ·unfold Gp at h;split at h
   ·rename_i e1 h1;cases h;exact L0 h1 (by split<;>omega)
   ·cases h
  ·split at h
   ·rename_i e1 h1;cases h;have:=L4 h1;omega
   ·cases h
end
abbrev tPl:Ty Int:=Kn .i64
abbrev sP(s:Nat)(t:ByteArray)(i:Nat)(a:Option Addr)(n cap:Nat)(os:List Int)(ps:List Pc):List Pc:=pSc s t i (.slice a n cap)::pS tPl 3 a n cap os::ps
structure Sc(B:Nat→Prop)(H:Aa)(s:Nat)(t:ByteArray)(i:Nat)(os:List Int)(ps:List Pc):Prop where
 ex:∃a n cap,StB B H H (sP s t i a n cap os ps)
structure SR(B:Nat→Prop)(H:Aa)(s:Nat)(t:ByteArray)(j:Nat)(os:List Int)(ps:List Pc)(r:ReM)(v:Value)(H':Aa):Prop where
 ex:∃(B':Nat→Prop) (fn:Value),v= .agg (Ab r fn).toArray∧(∀k,B k→B' k)∧Agr B H H'∧Sc B' H' s t j os ps∧Ck B' H' fn r
structure SE(B:Nat→Prop)(H:Aa)(t:ByteArray)(st:RdS)(x:Value)(H':Aa):Prop where
 ex:∃c p:Nat,BC t st= .inl (c,(p:Int))∧x=D3 c p∧Agr B H H'
theorem SE.from{B B':Nat→Prop}{H H1 H':Aa}{t:ByteArray}{st st':RdS}{x:Value}(h:SE B' H1 t st' x H')(hp:BC t st=BC t st')(ha:Agr B H H1)(hs:∀k,B k→B' k):SE B H t st x H':=by
 obtain⟨c,p,h1,h2,h3⟩:=h;exact⟨c,p,hp.trans h1,h2,ha.trans fun k hk=>h3 k (hs k hk)⟩
def HQ(t:ByteArray)(i:Nat):Prop:=∀(B:Nat→Prop) (H:Aa) (s:Nat) (os:List Int) (ps:List Pc) (f:AF) (fs:List AF),DP H→B 0→i≤t.size→os.length=fs.length→fs.length≤1000→
 f.alt=none→f.meet=none→f.row=none→f.factor=none→Sc B H s t i os ps→
 BA Tryz.prog 25 #[.pointer (some ⟨s,0,none⟩)] H
  (fun v H'=>∃j f' r,i≤j∧j≤t.size∧(j=t.size∨bt t j=41)∧BC t ⟨i,f,fs⟩=BC t ⟨j,f',fs⟩∧(Cl f').alt=some r∧f'.place=f.place∧SR B H s t j os ps r v H')
  (fun x H'=>SE B H t ⟨i,f,fs⟩ x H')
theorem Js{x:Int}(h:inK .i64 x):(Lit.int .i64 x).wf=true:=by
 unfold Lit.wf;simp only [Bool.and_eq_true,decide_eq_true_eq];exact h
def HC(c e:Nat):List Lit:=[.int .i64 (c:Int),.int .i64 (e:Int),.string []]
theorem Oi{c e:Nat}(hc:c<9223372036854775808)(he:e<9223372036854775808):Tryz.prog.keyLits 3 27 (An c e)=some (HC c e):=by
 have c0:Tryz.prog.cellsOf 27=3:=by kernel_rfl
 have c1:Tryz.prog.cellsOf 25=1:=by kernel_rfl
 have c2:Tryz.prog.cellsOf 3=1:=by kernel_rfl
 have c3:Tryz.prog.cellsOf 9=1:=by kernel_rfl
 have h0:(0:Nat)≤maxLen:=Va _;have h00:(⟨#[]⟩:ByteArray).size≤maxLen:=Va _;simp [Program.keyLits,Tryz.underlying27,Tryz.underlying25,Tryz.underlying3,Tryz.underlying9,c0,c1,c2,c3,An,HC,h00,Js (BB hc),Js (BB he)]
theorem Nj{c e c' e':Nat}:decide (c=c'∧e=e')=true↔HC c e=HC c' e':=by
 unfold HC;rw [decide_eq_true_eq];constructor
 ·rintro⟨rfl,rfl⟩;rfl
 ·intro h;simp only [List.cons.injEq,Lit.int.injEq,true_and,and_true]at h;exact⟨by omega,by omega⟩
theorem SI{c e c' e':Nat}(hc:c<9223372036854775808)(he:e<9223372036854775808)(hc':c'<9223372036854775808)(he':e'<9223372036854775808){x y:Operand}{S:Nat→Prop}{H:Aa}{K:Value→Prop}(k:K (.bool (!decide (c=c'∧e=e')))):
  AB Tryz.prog (do eqGuard .neq 27 x y (.agg (An c e).toArray) (.agg (An c' e').toArray);binOp .neq 27 (.agg (An c e).toArray) (.agg (An c' e').toArray)) S H K:=
 Us (m:=3) (la:=HC c e) (lb:=HC c' e') (by kernel_rfl) (by decide) (Tryz.eqGuardType27) rfl rfl (Oi hc he) (Oi hc' he') Nj k
theorem S9{B:Nat→Prop}{H:Aa}{s i:Nat}{t:ByteArray}{os:List Int}{ps:List Pc}{f:AF}{fs:List AF}(hE:DP H)(hEB:B 0)(ht:t.size≤1048576)(hi:i<t.size)(hos:os.length=fs.length)(hfs:fs.length≤1000)
  (hfb:JF (bt t i)) (IH:∀i',i<i'→HQ t i') (sc:Sc B H s t i os ps):
  BA Tryz.prog 100 #[.pointer (some ⟨s,0,none⟩)] H
   (fun v H'=>∃j r,i<j∧j≤t.size∧BC t ⟨i,f,fs⟩=BC t ⟨j,{Aw f with factor:=some r},fs⟩∧SR B H s t j os ps r v H')
   (fun x H'=>SE B H t ⟨i,f,fs⟩ x H'):=by
 obtain⟨a,n,cap,st⟩:=sc;refine BA.of_vc Tryz.func100 rfl (Tryz.call100 _) (Ag (.agg Aj.toArray) Aj CG rfl ?_);intro q2 H1 hq1 hs1 hb1 ha1;have st1:=st.box hq1 hs1 hb1 ha1;refine Ah.of (Af (CZ (st1.blk 0 rfl) hi) fun H2 ha2=>?_);have st2:=st1.call ha2;by_cases h40:bt t i=40
 ·have d1:(((bt t i:Nat):Int) != 40)=false:=by rw [h40];rfl
  (conv=>whnf);rw [d1];obtain rfl:n=os.length:=st2.len 1 rfl;replace st2:StB B H H2 (sP s t i a os.length cap os ps++[pB 77 q2 Aj]):=st2;refine AO.run (VC.fa Gu ?_);refine ld1 (v:=.slice a os.length cap) JB (by rw [(st2.blk 0 rfl).cell];rfl) trivial ?_;by_cases hd:1000≤fs.length
  ·have d2:decide (1000≤(os.length:Int))=true:=decide_eq_true (by omega);(conv=>whnf);rw [d2];refine VC.fa AJ ?_;refine ld1 (v:=.int .i64 ((i:Nat):Int)) ct3 (by rw [(st2.blk 0 rfl).cell];rfl) trivial ?_;refine Ah.mk (C2 (c:=23) (e:=i)) (fun _ _ h=>h.elim) ?_;rintro _ _ ⟨rfl,rfl⟩;exact⟨23,i,DL hi (JP h40 hd),rfl,st2.old⟩
  ·have d2:decide (1000≤(os.length:Int))=false:=decide_eq_false (by omega);(conv=>whnf);rw [d2];refine Ca.of (As.heldZ (fun k=>k=s) [13] (sq [0,1,2,3,4,5,6,7,8] (.f 9 (.f 10 (sq [11,12] (.f 13 .e))))) rfl (by kernel_rfl) (VC.fa Gu ?_));refine ld1 (v:=.slice a os.length cap) JB (by rw [(st2.blk 0 rfl).cell];rfl) rfl ?_;refine VC.fa AJ ?_;refine ld1 (v:=.int .i64 (i:Int)) ct3 (by rw [(st2.blk 0 rfl).cell];rfl) rfl ?_;refine AM BU [.int .i64 (i:Int)] rfl rfl (by decide) (by decide) ?_;intro q3 H3 hq3 hs3 hb3 ha3;have st3:=st2.skip hq3 ha3;refine⟨fun k hk=>by rw [show k=s from hk];exact(st3.blk 0 rfl).trans (st2.blk 0 rfl).symm,?_⟩;refine Rf (x:=(i:Int)) st3 1 BU rfl hb3 ⟨rfl,BB (by omega)⟩ rfl (by omega) (by decide) fun a4 cap4 H4 st4 ha4=>?_;refine⟨fun k hk=>by rw [show k=s from hk];exact(st4.blk 0 rfl).trans (st2.blk 0 rfl).symm,?_⟩;refine VC.fa Gu (AG st4 0 JB rfl (by simp) rfl fun H5 st5=>?_);replace st5:StB B H H5 (sP s t i a4 (os.length+1) cap4 (os++[(i:Int)]) ps++[pB 77 q2 Aj]):=st5;refine VC.fa AJ ?_;refine ld1 (v:=.int .i64 ((i:Nat):Int)) ct3 (by rw [(st5.blk 0 rfl).cell];rfl) trivial ?_;(conv=>whnf);rw [w64 (x:=((i:Nat):Int)+1) (by omega) (by omega)];refine VC.fa AJ (AG st5 0 ct3 rfl (by simp) rfl fun H6 st6=>?_);replace st6:StB B H H6 (sP s t (i+1) a4 (os.length+1) cap4 (os++[(i:Int)]) ps++[pB 77 q2 Aj]):=st6;have hpo:BC t ⟨i,f,fs⟩=BC t ⟨i+1,DJ i,Aw f::fs⟩:=D8 hi (JQ h40 (by omega));refine Ah.mk (IH (i+1) (by omega) B H6 s (os++[(i:Int)]) (ps++[pB 77 q2 Aj]) (DJ i) (Aw f::fs) (Hw hE hEB st6) hEB (by omega) (by simp;omega) (by simp;omega) rfl rfl rfl rfl ⟨a4,_,cap4,st6.rebase⟩) ?_ ?_
   rotate_left
   ·intro x H7 h;exact h.from hpo st6.old fun k hk=>hk
   rintro _ H7 ⟨j,f',r,hij,hj,hend,hpr,hcl,hpl,⟨B1,f1,rfl,s1,a7,⟨a2,n2,cap2,st7⟩,gv⟩⟩;obtain⟨g1,c1,rfl⟩:=gv.fn;have hn2:n2=os.length+1:=by have:=st7.len 1 rfl;rw [this];simp
   subst hn2;replace st7:StB B1 H7 H7 (sP s t j a2 (os.length+1) cap2 (os++[(i:Int)]) ps++[pB 77 q2 Aj]):=st7;have a07:Agr B H H7:=st6.old.trans a7;refine Ag (.agg Aj.toArray) Aj CG rfl ?_;intro q6 H8 hq8 hs8 hb8 ha8;have st8:=st7.box hq8 hs8 hb8 ha8;rw [UT]at st8;refine Be (cs:=Ab r (.func (.func g1) #[] c1)) st8 _ rfl (lgR _ _ 1) (by simp [Ab,Aj]) rfl fun H9 st9 ja9 js9=>?_;rw [lsR,BZ rfl]at st9;replace st9:StB B1 H7 H9 (sP s t j a2 (os.length+1) cap2 (os++[(i:Int)]) ps++[pB 77 q2 Aj,pB 77 q6 (Ab r (.func (.func g1) #[] c1))]):=st9;refine AO.run (Ah.of (Af (Ee (st9.blk 0 rfl)) fun H10 ha10=>?_));have st10:=st9.call ha10;have a10:Agr B H H10:=a07.trans fun k hk=>st10.old k (s1 k hk);by_cases hjt:j<t.size
   ·rw [decide_eq_false (show¬t.size≤j by omega)];have h41:bt t j=41:=by rcases hend with h | h;omega;exact h
    (conv=>whnf);refine VC.fa AJ ?_;refine ld1 (v:=.int .i64 ((j:Nat):Int)) ct3 (by rw [(st10.blk 0 rfl).cell];rfl) trivial ?_;(conv=>whnf);rw [w64 (x:=((j:Nat):Int)+1) (by omega) (by omega)];refine VC.fa AJ (AG st10 0 ct3 rfl (by simp) rfl fun H11 st11=>?_);replace st11:StB B1 H7 H11 (sP s t (j+1) a2 (os.length+1) cap2 (os++[(i:Int)]) ps++[pB 77 q2 Aj,pB 77 q6 (Ab r (.func (.func g1) #[] c1))]):=st11;have hcap:=st11.capT 1 rfl;rw [UL,UN]at hcap;refine Ca.of (As.heldZ (fun k=>k=s) [14] (sq [0,1,2,3,4,5,6,7,8,9,10,11,12,13] (.f 14 .e)) rfl (by kernel_rfl) (VC.fa Gu ?_));refine ld1 (v:=.slice a2 (os.length+1) cap2) JB (by rw [(st11.blk 0 rfl).cell];rfl) rfl ?_;refine VC.fa Gu ?_;refine ld1 (v:=.slice a2 (os.length+1) cap2) JB (by rw [(st11.blk 0 rfl).cell];rfl) rfl ?_;(conv=>whnf);rw [w64 (x:=((os.length+1:Nat):Int) - 1) (by omega) (by omega)];rw [show((os.length+1:Nat):Int) - 1=(os.length:Int) by omega];refine S3 BU (by omega) (by omega) (VC.fa Gu ?_);have st12:=st11.popT 1 rfl;refine AG st12 0 JB rfl (by simp) rfl fun H13 st13=>?_;rw [Vk]at st13;replace st13:StB B1 H7 H13 (sP s t (j+1) a2 os.length cap2 os ps++[pB 77 q2 Aj,pB 77 q6 (Ab r (.func (.func g1) #[] c1))]):=st13;refine ldN (cs:=Ab r (.func (.func g1) #[] c1)) Bj (Au (st13.blk _ (lgR _ _ 1))) trivial (Be (cs:=Ab r (.func (.func g1) #[] c1)) st13 _ rfl (lgR _ _ 0) (by simp [Ab,Aj]) rfl fun H14 st14 ja14 js14=>?_);rw [lsR,BZ rfl]at st14;refine ldN (cs:=Ab r (.func (.func g1) #[] c1)) Bj (Au (st14.blk _ (lgR _ _ 0))) trivial (⟨j+1,r,by omega,by omega,?_,B1,_,rfl,s1,a07.trans fun k hk=>st14.old k (s1 k hk),⟨a2,_,cap2,st14.lft.rebase⟩,gv.frame st14.old fun k hk=>hk⟩);rw [hpo,hpr,D8 (s:=⟨j,f',Aw f::fs⟩) hjt (IJ h41),hcl]
   ·rw [decide_eq_true (show t.size≤j by omega)];refine Ca.held (Old H10) [] (sq [0,1,2,3,4,5,6,7,8,9,10,11,12] (.f 13 .e)) (CL _ _) rfl (by kernel_rfl) (VC.fa Gu ?_);refine ld1 (v:=.slice a2 (os.length+1) cap2) JB (by rw [(st10.blk 0 rfl).cell];rfl) (st10.blk 0 rfl).lt ?_;refine VC.fa Gu ?_;refine ld1 (v:=.slice a2 (os.length+1) cap2) JB (by rw [(st10.blk 0 rfl).cell];rfl) (st10.blk 0 rfl).lt ?_;(conv=>whnf);rw [w64 (x:=((os.length+1:Nat):Int) - 1) (by omega) (by omega)];rw [show((os.length+1:Nat):Int) - 1=(os.length:Int) by omega];refine ixO (j:=os.length) (x:=(i:Int)) BU st10 1 rfl (by simp) rfl fun b5 o5 cs5 hO5 hc5 hr5=>?_;obtain⟨rfl,-⟩:=hr5;refine ld1 (v:=.int .i64 (i:Int)) ct3 hc5.one hO5 (Ah.mk (C2 (c:=21) (e:=i)) (fun _ _ h=>h.elim) ?_);rintro _ _ ⟨rfl,rfl⟩;refine⟨21,i,?_,rfl,a10⟩;rw [hpo,hpr,JN (s:=⟨j,f',Aw f::fs⟩) hjt];show Sum.inl (21,f'.place)=_;rw [hpl];rfl
 ·have d1:(((bt t i:Nat):Int) != 40)=true:=bne_iff_ne.2 (by omega);(conv=>whnf);rw [d1];obtain⟨X,j,c0,e0,hX,hc0,he0,hj⟩:∃(X:BitVec 256) (j c0 e0:Nat),(∀v,Jz t i v→v= .tuple #[BT X,.int .i64 (j:Int),DX c0 e0])∧c0≤10∧e0≤t.size+10∧(Bm t i= .inl e0∧c0=10∨Bm t i= .inr (X,j)∧c0=0∧e0=0):=by
   cases hr:Bm t i with
   | inl e=>exact⟨0,0,10,e,fun v hv=>by unfold Jz at hv;rw [hr]at hv;exact hv,by omega,by have:=JS hr hi;omega,.inl ⟨rfl,rfl⟩⟩
   | inr y=>exact⟨y.1,y.2,0,0,fun v hv=>by unfold Jz at hv;rw [hr]at hv;exact hv,by omega,by omega,.inr ⟨rfl,rfl,rfl⟩⟩
  have sx0:StB B H H2 (sP s t i a n cap os ps++[pB 77 q2 Aj]):=st2;refine Ca.of (As.cut [3,4,5] (fun x:Nat×Nat=>match x with | (q3,q5)=>[.pointer (some ⟨q3,0,none⟩),.int .i64 (j:Int),.pointer (some ⟨q5,0,none⟩)]) (fun x G=>match x with | (q3,q5)=>StB B H G (sP s t i a n cap os ps++[pB 77 q2 Aj])∧Blk G q3 102 (Ak X)∧Blk G q5 27 (An c0 e0)) ?_ ?_)
  ·refine As.held3 (fun k=>k=s) (sq3 [0,1,2,3,4,5,6,7] (.t 8 (sq3 [9,10,11,12] (.b 13 (.f 14 (.f 15 (.q 16 (.f 17 .e)))) 14 (.f 13 (.f 15 (.q 16 (.f 17 .e)))))) 13 (.b 8 (sq3 [9,10,11,12] (.f 14 (.f 15 (.q 16 (.f 17 .e))))) 14 (.f 8 (sq3 [9,10,11,12] (.f 15 (.q 16 (.f 17 .e)))))) 14 (.b 8 (sq3 [9,10,11,12] (.f 13 (.f 15 (.q 16 (.f 17 .e))))) 13 (.f 8 (sq3 [9,10,11,12] (.f 15 (.q 16 (.f 17 .e)))))))) rfl (by kernel_rfl) (VC.fa Lo ?_);refine ld1 (v:=.string t) ct9 (by rw [(st2.blk 0 rfl).cell];rfl) rfl ?_;refine VC.fa AJ ?_;refine ld1 (v:=.int .i64 (i:Int)) ct3 (by rw [(st2.blk 0 rfl).cell];rfl) rfl ?_;(conv=>whnf);refine⟨?_,?_,?_⟩
   ·refine Ai.mk (Em (Hw hE hEB sx0) (by omega) hi) ?_;rintro _ J1 ⟨ag0,hR⟩;obtain rfl:=hX _ hR;have sx1:=sx0.call ag0;refine⟨fun k hk=>by rw [show k=s from hk];exact(sx1.blk 0 rfl).trans (st2.blk 0 rfl).symm,?_⟩;(conv=>whnf);refine⟨?_,?_⟩
    ·refine Ag (BT 0) (Ak 0) rfl rfl ?_;intro q3 J2 gq1 gs1 gb1 ga1;have sx2:=sx1.box gq1 gs1 gb1 ga1;rw [UT]at sx2;replace sx2:StB B H J2 (sP s t i a n cap os ps++[pB 77 q2 Aj,pB 102 q3 (Ak 0)]):=sx2;refine⟨fun k hk=>by rw [show k=s from hk];exact(sx2.blk 0 rfl).trans (st2.blk 0 rfl).symm,?_⟩;(conv=>whnf);refine Ag (DX 0 0) (An 0 0) rfl rfl ?_;intro q5 J3 gq2 gs2 gb2 ga2;have sx3:=sx2.box gq2 gs2 gb2 ga2;rw [UT]at sx3;replace sx3:StB B H J3 (sP s t i a n cap os ps++[pB 77 q2 Aj,pB 102 q3 (Ak 0),pB 27 q5 (An 0 0)]):=sx3;refine⟨fun k hk=>by rw [show k=s from hk];exact(sx3.blk 0 rfl).trans (st2.blk 0 rfl).symm,?_⟩;(conv=>whnf);refine Ay (cs:=Ak X) sx3 _ rfl (lgR _ _ 1) (UP _) rfl fun J4 sx4=>?_;rw [lsR]at sx4;have e4:Ac (Ak 0) 0 (Ak X)=Ak X:=A8 rfl;replace sx4:StB B H J4 (sP s t i a n cap os ps++[pB 77 q2 Aj,pB 102 q3 (Ac (Ak 0) 0 (Ak X)),pB 27 q5 (An 0 0)]):=sx4;rw [e4]at sx4;refine⟨fun k hk=>by rw [show k=s from hk];exact(sx4.blk 0 rfl).trans (st2.blk 0 rfl).symm,?_⟩;refine Ay (cs:=An c0 e0) sx4 _ rfl (lgR _ _ 2) (UP _) rfl fun J5 sx5=>?_;rw [lsR]at sx5;have e5:Ac (An 0 0) 0 (An c0 e0)=An c0 e0:=A8 rfl;replace sx5:StB B H J5 (sP s t i a n cap os ps++[pB 77 q2 Aj,pB 102 q3 (Ak X),pB 27 q5 (Ac (An 0 0) 0 (An c0 e0))]):=sx5;rw [e5]at sx5;refine⟨fun k hk=>by rw [show k=s from hk];exact(sx5.blk 0 rfl).trans (st2.blk 0 rfl).symm,?_⟩;(conv=>whnf);exact⟨rfl,(q3,q5),rfl,sx5.subl ((UY _).2 (List.Sublist.cons_cons _ (Vf _))),sx5.blk _ (lgR _ _ 1),sx5.blk _ (lgR _ _ 2)⟩
    ·refine Ag (DX 0 0) (An 0 0) rfl rfl ?_;intro q5 J2 gq1 gs1 gb1 ga1;have sx2:=sx1.box gq1 gs1 gb1 ga1;rw [UT]at sx2;replace sx2:StB B H J2 (sP s t i a n cap os ps++[pB 77 q2 Aj,pB 27 q5 (An 0 0)]):=sx2;refine⟨fun k hk=>by rw [show k=s from hk];exact(sx2.blk 0 rfl).trans (st2.blk 0 rfl).symm,?_⟩;(conv=>whnf);refine Ag (BT 0) (Ak 0) rfl rfl ?_;intro q3 J3 gq2 gs2 gb2 ga2;have sx3:=sx2.box gq2 gs2 gb2 ga2;rw [UT]at sx3;replace sx3:StB B H J3 (sP s t i a n cap os ps++[pB 77 q2 Aj,pB 27 q5 (An 0 0),pB 102 q3 (Ak 0)]):=sx3;refine⟨fun k hk=>by rw [show k=s from hk];exact(sx3.blk 0 rfl).trans (st2.blk 0 rfl).symm,?_⟩;(conv=>whnf);refine Ay (cs:=Ak X) sx3 _ rfl (lgR _ _ 2) (UP _) rfl fun J4 sx4=>?_;rw [lsR]at sx4;have e4:Ac (Ak 0) 0 (Ak X)=Ak X:=A8 rfl;replace sx4:StB B H J4 (sP s t i a n cap os ps++[pB 77 q2 Aj,pB 27 q5 (An 0 0),pB 102 q3 (Ac (Ak 0) 0 (Ak X))]):=sx4;rw [e4]at sx4;refine⟨fun k hk=>by rw [show k=s from hk];exact(sx4.blk 0 rfl).trans (st2.blk 0 rfl).symm,?_⟩;refine Ay (cs:=An c0 e0) sx4 _ rfl (lgR _ _ 1) (UP _) rfl fun J5 sx5=>?_;rw [lsR]at sx5;have e5:Ac (An 0 0) 0 (An c0 e0)=An c0 e0:=A8 rfl;replace sx5:StB B H J5 (sP s t i a n cap os ps++[pB 77 q2 Aj,pB 27 q5 (Ac (An 0 0) 0 (An c0 e0)),pB 102 q3 (Ak X)]):=sx5;rw [e5]at sx5;refine⟨fun k hk=>by rw [show k=s from hk];exact(sx5.blk 0 rfl).trans (st2.blk 0 rfl).symm,?_⟩;(conv=>whnf);exact⟨rfl,(q3,q5),rfl,sx5.subl ((UY _).2 (List.Sublist.cons_cons _ (Vf _))),sx5.blk _ (lgR _ _ 2),sx5.blk _ (lgR _ _ 1)⟩
   ·refine Ag (BT 0) (Ak 0) rfl rfl ?_;intro q3 J1 gq0 gs0 gb0 ga0;have sx1:=sx0.box gq0 gs0 gb0 ga0;rw [UT]at sx1;replace sx1:StB B H J1 (sP s t i a n cap os ps++[pB 77 q2 Aj,pB 102 q3 (Ak 0)]):=sx1;refine⟨fun k hk=>by rw [show k=s from hk];exact(sx1.blk 0 rfl).trans (st2.blk 0 rfl).symm,?_⟩;(conv=>whnf);refine⟨?_,?_⟩
    ·refine Ai.mk (Em (Hw hE hEB sx1) (by omega) hi) ?_;rintro _ J2 ⟨ag1,hR⟩;obtain rfl:=hX _ hR;have sx2:=sx1.call ag1;refine⟨fun k hk=>by rw [show k=s from hk];exact(sx2.blk 0 rfl).trans (st2.blk 0 rfl).symm,?_⟩;(conv=>whnf);refine Ag (DX 0 0) (An 0 0) rfl rfl ?_;intro q5 J3 gq2 gs2 gb2 ga2;have sx3:=sx2.box gq2 gs2 gb2 ga2;rw [UT]at sx3;replace sx3:StB B H J3 (sP s t i a n cap os ps++[pB 77 q2 Aj,pB 102 q3 (Ak 0),pB 27 q5 (An 0 0)]):=sx3;refine⟨fun k hk=>by rw [show k=s from hk];exact(sx3.blk 0 rfl).trans (st2.blk 0 rfl).symm,?_⟩;(conv=>whnf);refine Ay (cs:=Ak X) sx3 _ rfl (lgR _ _ 1) (UP _) rfl fun J4 sx4=>?_;rw [lsR]at sx4;have e4:Ac (Ak 0) 0 (Ak X)=Ak X:=A8 rfl;replace sx4:StB B H J4 (sP s t i a n cap os ps++[pB 77 q2 Aj,pB 102 q3 (Ac (Ak 0) 0 (Ak X)),pB 27 q5 (An 0 0)]):=sx4;rw [e4]at sx4;refine⟨fun k hk=>by rw [show k=s from hk];exact(sx4.blk 0 rfl).trans (st2.blk 0 rfl).symm,?_⟩;refine Ay (cs:=An c0 e0) sx4 _ rfl (lgR _ _ 2) (UP _) rfl fun J5 sx5=>?_;rw [lsR]at sx5;have e5:Ac (An 0 0) 0 (An c0 e0)=An c0 e0:=A8 rfl;replace sx5:StB B H J5 (sP s t i a n cap os ps++[pB 77 q2 Aj,pB 102 q3 (Ak X),pB 27 q5 (Ac (An 0 0) 0 (An c0 e0))]):=sx5;rw [e5]at sx5;refine⟨fun k hk=>by rw [show k=s from hk];exact(sx5.blk 0 rfl).trans (st2.blk 0 rfl).symm,?_⟩;(conv=>whnf);exact⟨rfl,(q3,q5),rfl,sx5.subl ((UY _).2 (List.Sublist.cons_cons _ (Vf _))),sx5.blk _ (lgR _ _ 1),sx5.blk _ (lgR _ _ 2)⟩
    ·refine Ag (DX 0 0) (An 0 0) rfl rfl ?_;intro q5 J2 gq1 gs1 gb1 ga1;have sx2:=sx1.box gq1 gs1 gb1 ga1;rw [UT]at sx2;replace sx2:StB B H J2 (sP s t i a n cap os ps++[pB 77 q2 Aj,pB 102 q3 (Ak 0),pB 27 q5 (An 0 0)]):=sx2;refine⟨fun k hk=>by rw [show k=s from hk];exact(sx2.blk 0 rfl).trans (st2.blk 0 rfl).symm,?_⟩;(conv=>whnf);refine Ai.mk (Em (Hw hE hEB sx2) (by omega) hi) ?_;rintro _ J3 ⟨ag2,hR⟩;obtain rfl:=hX _ hR;have sx3:=sx2.call ag2;refine⟨fun k hk=>by rw [show k=s from hk];exact(sx3.blk 0 rfl).trans (st2.blk 0 rfl).symm,?_⟩;(conv=>whnf);refine Ay (cs:=Ak X) sx3 _ rfl (lgR _ _ 1) (UP _) rfl fun J4 sx4=>?_;rw [lsR]at sx4;have e4:Ac (Ak 0) 0 (Ak X)=Ak X:=A8 rfl;replace sx4:StB B H J4 (sP s t i a n cap os ps++[pB 77 q2 Aj,pB 102 q3 (Ac (Ak 0) 0 (Ak X)),pB 27 q5 (An 0 0)]):=sx4;rw [e4]at sx4;refine⟨fun k hk=>by rw [show k=s from hk];exact(sx4.blk 0 rfl).trans (st2.blk 0 rfl).symm,?_⟩;refine Ay (cs:=An c0 e0) sx4 _ rfl (lgR _ _ 2) (UP _) rfl fun J5 sx5=>?_;rw [lsR]at sx5;have e5:Ac (An 0 0) 0 (An c0 e0)=An c0 e0:=A8 rfl;replace sx5:StB B H J5 (sP s t i a n cap os ps++[pB 77 q2 Aj,pB 102 q3 (Ak X),pB 27 q5 (Ac (An 0 0) 0 (An c0 e0))]):=sx5;rw [e5]at sx5;refine⟨fun k hk=>by rw [show k=s from hk];exact(sx5.blk 0 rfl).trans (st2.blk 0 rfl).symm,?_⟩;(conv=>whnf);exact⟨rfl,(q3,q5),rfl,sx5.subl ((UY _).2 (List.Sublist.cons_cons _ (Vf _))),sx5.blk _ (lgR _ _ 1),sx5.blk _ (lgR _ _ 2)⟩
   ·refine Ag (DX 0 0) (An 0 0) rfl rfl ?_;intro q5 J1 gq0 gs0 gb0 ga0;have sx1:=sx0.box gq0 gs0 gb0 ga0;rw [UT]at sx1;replace sx1:StB B H J1 (sP s t i a n cap os ps++[pB 77 q2 Aj,pB 27 q5 (An 0 0)]):=sx1;refine⟨fun k hk=>by rw [show k=s from hk];exact(sx1.blk 0 rfl).trans (st2.blk 0 rfl).symm,?_⟩;(conv=>whnf);refine⟨?_,?_⟩
    ·refine Ai.mk (Em (Hw hE hEB sx1) (by omega) hi) ?_;rintro _ J2 ⟨ag1,hR⟩;obtain rfl:=hX _ hR;have sx2:=sx1.call ag1;refine⟨fun k hk=>by rw [show k=s from hk];exact(sx2.blk 0 rfl).trans (st2.blk 0 rfl).symm,?_⟩;(conv=>whnf);refine Ag (BT 0) (Ak 0) rfl rfl ?_;intro q3 J3 gq2 gs2 gb2 ga2;have sx3:=sx2.box gq2 gs2 gb2 ga2;rw [UT]at sx3;replace sx3:StB B H J3 (sP s t i a n cap os ps++[pB 77 q2 Aj,pB 27 q5 (An 0 0),pB 102 q3 (Ak 0)]):=sx3;refine⟨fun k hk=>by rw [show k=s from hk];exact(sx3.blk 0 rfl).trans (st2.blk 0 rfl).symm,?_⟩;(conv=>whnf);refine Ay (cs:=Ak X) sx3 _ rfl (lgR _ _ 2) (UP _) rfl fun J4 sx4=>?_;rw [lsR]at sx4;have e4:Ac (Ak 0) 0 (Ak X)=Ak X:=A8 rfl;replace sx4:StB B H J4 (sP s t i a n cap os ps++[pB 77 q2 Aj,pB 27 q5 (An 0 0),pB 102 q3 (Ac (Ak 0) 0 (Ak X))]):=sx4;rw [e4]at sx4;refine⟨fun k hk=>by rw [show k=s from hk];exact(sx4.blk 0 rfl).trans (st2.blk 0 rfl).symm,?_⟩;refine Ay (cs:=An c0 e0) sx4 _ rfl (lgR _ _ 1) (UP _) rfl fun J5 sx5=>?_;rw [lsR]at sx5;have e5:Ac (An 0 0) 0 (An c0 e0)=An c0 e0:=A8 rfl;replace sx5:StB B H J5 (sP s t i a n cap os ps++[pB 77 q2 Aj,pB 27 q5 (Ac (An 0 0) 0 (An c0 e0)),pB 102 q3 (Ak X)]):=sx5;rw [e5]at sx5;refine⟨fun k hk=>by rw [show k=s from hk];exact(sx5.blk 0 rfl).trans (st2.blk 0 rfl).symm,?_⟩;(conv=>whnf);exact⟨rfl,(q3,q5),rfl,sx5.subl ((UY _).2 (List.Sublist.cons_cons _ (Vf _))),sx5.blk _ (lgR _ _ 2),sx5.blk _ (lgR _ _ 1)⟩
    ·refine Ag (BT 0) (Ak 0) rfl rfl ?_;intro q3 J2 gq1 gs1 gb1 ga1;have sx2:=sx1.box gq1 gs1 gb1 ga1;rw [UT]at sx2;replace sx2:StB B H J2 (sP s t i a n cap os ps++[pB 77 q2 Aj,pB 27 q5 (An 0 0),pB 102 q3 (Ak 0)]):=sx2;refine⟨fun k hk=>by rw [show k=s from hk];exact(sx2.blk 0 rfl).trans (st2.blk 0 rfl).symm,?_⟩;(conv=>whnf);refine Ai.mk (Em (Hw hE hEB sx2) (by omega) hi) ?_;rintro _ J3 ⟨ag2,hR⟩;obtain rfl:=hX _ hR;have sx3:=sx2.call ag2;refine⟨fun k hk=>by rw [show k=s from hk];exact(sx3.blk 0 rfl).trans (st2.blk 0 rfl).symm,?_⟩;(conv=>whnf);refine Ay (cs:=Ak X) sx3 _ rfl (lgR _ _ 2) (UP _) rfl fun J4 sx4=>?_;rw [lsR]at sx4;have e4:Ac (Ak 0) 0 (Ak X)=Ak X:=A8 rfl;replace sx4:StB B H J4 (sP s t i a n cap os ps++[pB 77 q2 Aj,pB 27 q5 (An 0 0),pB 102 q3 (Ac (Ak 0) 0 (Ak X))]):=sx4;rw [e4]at sx4;refine⟨fun k hk=>by rw [show k=s from hk];exact(sx4.blk 0 rfl).trans (st2.blk 0 rfl).symm,?_⟩;refine Ay (cs:=An c0 e0) sx4 _ rfl (lgR _ _ 1) (UP _) rfl fun J5 sx5=>?_;rw [lsR]at sx5;have e5:Ac (An 0 0) 0 (An c0 e0)=An c0 e0:=A8 rfl;replace sx5:StB B H J5 (sP s t i a n cap os ps++[pB 77 q2 Aj,pB 27 q5 (Ac (An 0 0) 0 (An c0 e0)),pB 102 q3 (Ak X)]):=sx5;rw [e5]at sx5;refine⟨fun k hk=>by rw [show k=s from hk];exact(sx5.blk 0 rfl).trans (st2.blk 0 rfl).symm,?_⟩;(conv=>whnf);exact⟨rfl,(q3,q5),rfl,sx5.subl ((UY _).2 (List.Sublist.cons_cons _ (Vf _))),sx5.blk _ (lgR _ _ 2),sx5.blk _ (lgR _ _ 1)⟩
  ·rintro⟨q3,q5⟩ G junk ⟨stg,hb3,hb5⟩;refine AO.run ?_;refine ldN (cs:=An c0 e0) J7 (hb5.cells (fun j v hv=>by rw [UM];exact hv)) trivial ?_;refine Av Tryz.underlying27 rfl _ rfl (An 0 0) rfl (SI (by omega) (by omega) (by decide) (by decide) ?_);rcases hj with⟨hr,rfl⟩ | ⟨hr,rfl,rfl⟩
   ·rw [decide_eq_false (by omega)];refine ldN (cs:=An 10 e0) J7 (hb5.cells (fun j v hv=>by rw [UM];exact hv)) trivial ?_;(conv=>whnf);exact⟨10,e0,DL hi (JO hfb h40 hr),rfl,stg.old⟩
   ·have hok:=HK hr;rw [decide_eq_true ⟨rfl,rfl⟩];refine VC.fa AJ (QK stg 0 ct3 rfl (by simp) rfl fun G2 sg2 ja2 js2=>?_);replace sg2:StB B H G2 (sP s t j a n cap os ps++[pB 77 q2 Aj]):=sg2;have hb3':=hb3.agr ja2 (hb3.ne (stg.blk 0 rfl) (by decide));refine ldN (cs:=Ak X) B0 (CD hb3') trivial (Av Tryz.underlying130 rfl _ rfl (Ak X) rfl (Ah.of (Ai.mk (Lx (r:=.cls X) sg2 rfl) ?_)));rintro _ G3 ⟨B1,f1,rfl,s1,a3,sg3,gs⟩;obtain⟨g1,c1,rfl⟩:=gs.fn;refine Be (cs:=Ab (.cls X) (.func (.func g1) #[] c1)) sg3 _ rfl (lgR _ _ 0) (by simp [Ab,Aj]) rfl fun G4 sg4 ja4 js4=>?_;rw [lsR,BZ rfl]at sg4;refine ldN (cs:=Ab (.cls X) (.func (.func g1) #[] c1)) Bj (Au (sg4.blk _ (lgR _ _ 0))) trivial ?_;exact⟨j,.cls X,hok.1,hok.2,D8 hi (K9 hfb h40 hr),B1,_,rfl,s1,(sg2.old.trans (a3.mono fun k hk=>sg2.up hk)).trans fun k hk=>sg4.old k (s1 k hk),⟨a,n,cap,sg4.lft.rebase⟩,gs.frame sg4.old fun k hk=>hk⟩
end Go.Proofs.YtlnmhfhdjnenoaaGreatDoor
namespace Go.Proofs.YtlnmhfhdjnenoaaGreatDoor
open Go.VC
def Kg{σ:Type}(sub:ReM→σ→σ×Except Int NfM)(r:ReM)(s:σ):σ×Except Int NfM:=
 if 2000<r.nodes then(s,.error 24)else Cv (Ba sub r 0 s) fun A s1=>if 65536<A.u then(s1,.error 40)else(s1,.ok ⟨A.u,A.p,A.q,A.es⟩)
section
variable{σ:Type}{B:Nat→Prop}{H0:Aa}{P:σ→List Pc}{sub:ReM→σ→σ×Except Int NfM}{E:Nat}{f:FuncId}{first cap:Array Value}
end
def BwH{σ γ:Type}(B:Nat→Prop)(H0:Aa)(E:Nat)(ps:List Pc)(P:σ→γ→List Pc)(x:σ×Except Int NfM)(v:Value)(H':Aa):Prop:=match x.2 with
 | .ok a=>a.edges.length≤E∧a.Rng∧∃ea ec,v= .tuple #[.agg (nfL a (.slice ea a.edges.length ec)).toArray,.int .i64 0]∧∃g,StB B H0 H' (ps++P x.1 g++[pS tEd 104 ea a.edges.length ec a.edges])
 | .error e=>v= .tuple #[.agg [Value.int .i64 0,.int .i64 0,.int .i64 0,.slice none 0 0].toArray,.int .i64 e]∧∃g,StB B H0 H' (ps++P x.1 g)
section
variable{σ γ:Type}{B:Nat→Prop}{H0:Aa}{P:σ→γ→List Pc}{sub:ReM→σ→σ×Except Int NfM}{E:Nat}{f:FuncId}{first cap:Array Value}
theorem KW{m:σ→Nat}{M:Nat}(hmm:∀r s,m (sub r s).1≤m s+1)(hE:P4 sub E)(hE2:E≤33554432)(r:ReM)(hrn:r.nodes≤1000000000)
  (hsub:∀(r':ReM),Nm r'=true→r'.nodes≤r.nodes→∀(s:σ) (g:γ),m s<M→∀{ps':List Pc} {H':Aa},StB B H0 H' (ps'++P s g)→Ao Tryz.prog f (first.toList++[Ad r']++cap.toList).toArray H' (Rc B H0 E ps' P (sub r' s)))
  {H:Aa} {ps:List Pc} {s:σ} {g:γ} (hms:m s+r.nodes≤M) (st:StB B H0 H (ps++P s g)):
  Ao Tryz.prog 16 #[Ad r,.func (.func f) first cap] H (BwH B H0 ((E+4)*2000) ps P (Kg sub r s)):=by
 have hpart:=fun(bb:Nat) (H:Aa) (ps:List Pc) (n c:Nat) (a:Option Addr) (es:List EdM)=>RA (N:=r.nodes) (m:=m) (M:=M) hmm hE hE2 (f:=f) (first:=first) (cap:=cap) (B:=B) (H0:=H0) (P:=P) (fun r' h1 h2 s g h3 ps' H' st'=>hsub r' h1 h2 s g h3 st') r (UP _) (bb:=bb) (H:=H) (ps:=ps) (n:=n) (c:=c) (a:=a) (es:=es) (s:=s) (g:=g);rw [F3]at hpart ⊢;refine Ao.of_vc Tryz.func16 rfl (Tryz.call16 _) (Ag _ [.int .i64 0,.int .i64 0,.int .i64 0,.slice none 0 0] E5 rfl ?_);intro y H1 hy hs1 hb1 ha1;have st1:StB B H0 H1 (pB 37 y [.int .i64 0,.int .i64 0,.int .i64 0,.slice none 0 0]::(ps++P s g)):=(st.box hy hs1 hb1 ha1).perm (US _ _);refine On Tryz.underlying24 (Hd.mk (FA r) #[DE r] (Fb r) (QD r hrn H1) ?_);rintro _ H2 ⟨rfl,ha2⟩;have st2:=st1.call ha2;by_cases hbig:2000<r.nodes
 ·have d1:decide ((2000:Int)<(r.nodes:Int))=true:=decide_eq_true (by omega);(conv=>whnf);rw [d1];refine Av Tryz.underlying37 rfl _ E5 [.int .i64 0,.int .i64 0,.int .i64 0,.slice none 0 0] rfl (Ay (cs:=[.int .i64 0,.int .i64 0,.int .i64 0,.slice none 0 0]) st2 0 rfl rfl (UP _) rfl fun H3 st3=>?_);refine ldN (cs:=[.int .i64 0,.int .i64 0,.int .i64 0,.slice none 0 0]) Ek ((st3.blk 0 rfl).cells fun j v hv=>by rw [UM];exact hv) trivial ?_;(conv=>whnf);have e1:Kg sub r s=(s,.error 24):=by unfold Kg;rw [if_pos hbig]
  rw [e1];exact⟨rfl,g,st3.sub (UX _ _)⟩
 have d1:decide ((2000:Int)<(r.nodes:Int))=false:=decide_eq_false (by omega);(conv=>whnf);rw [d1];refine Av Tryz.underlying118 rfl _ TH (bdX 0 0 (.slice none 0 0) (.func (.func f) first cap)) (by kernel_rfl) (BM (bdX 0 0 (.slice none 0 0) (.func (.func f) first cap)) rfl ?_);intro bb H3 hbb hs3 hb3 ha3;have st3a:StB B H0 H3 (pB tBd bb (bdX 0 0 (.slice none 0 0) (.func (.func f) first cap))::(pB 37 y [.int .i64 0,.int .i64 0,.int .i64 0,.slice none 0 0]::(ps++P s g))):=(st2.box hbb hs3 hb3 ha3).perm (US _ _);have st3b:=(st3a.nils tEd 104).perm (US _ _);have st3:StB B H0 H3 (bdQ bb 0 0 (.func (.func f) first cap) none 0 [] ((pB 37 y [.int .i64 0,.int .i64 0,.int .i64 0,.slice none 0 0]::ps)++P s g)):=st3b.perm (List.Perm.swap _ _ _);clear st3a st3b;have hp:=hpart _ _ _ 0 _ _ _ st3 hms (by omega) (by simp only [UO,UM];exact Vu (Nat.mul_le_mul (Nat.add_le_add_right hE2 4) (show r.nodes≤2000 by omega)) (by decide));obtain⟨s4,x4,hx4⟩:∃s1 res,Ba sub r 0 s=(s1,res):=⟨_,_,rfl⟩;rw [hx4]at hp;refine Ai.mk hp ?_;rintro v4 H4 hv4;have ebw:Kg sub r s=Cv (s4,x4) fun A s1=>if 65536<A.u then(s1,.error 40)else(s1,.ok ⟨A.u,A.p,A.q,A.es⟩):=by unfold Kg;rw [if_neg hbig,hx4]
 rw [ebw];cases x4 with
 | error e4=>
   obtain⟨he4,p4,q4,n4,a4,c4,es4,rfl,hp4,hq4,hn4,hm4,hl4,g4,st4⟩:=hv4;replace st4:StB B H0 H4 (bdQ bb e4 n4 (.func (.func f) first cap) a4 c4 es4 ((pB 37 y [.int .i64 0,.int .i64 0,.int .i64 0,.slice none 0 0]::ps)++P s4 g4)):=st4;refine fa Bf (fa Gs (AG st4 0 ct3 rfl (show 1<6 by decide) rfl fun H5 st5=>(fa Bf (fa Gt (AG st5 0 ct3 rfl (show 2<6 by decide) rfl fun H6 st6=>(fa BE ?_))))));refine ld1 (v:=.int .i64 e4) FH (by rw [(st6.blk 0 rfl).cell];rfl) trivial ?_;have d2:(e4 != 0)=true:=bne_iff_ne.2 he4;(conv=>whnf);rw [d2];have hne:bb≠y:=(st6.blk 0 rfl).ne (st6.blk 2 rfl) (by decide);refine As.held (fun k=>k=bb) 7 (sq [0,1,2,3,4] (.f 5 (sq [6] .e))) rfl (by kernel_rfl) (Av Tryz.underlying37 rfl _ E5 [.int .i64 0,.int .i64 0,.int .i64 0,.slice none 0 0] rfl (fa BE ?_));refine ld1 (v:=.int .i64 e4) FH (by rw [(st6.blk 0 rfl).cell];rfl) rfl ?_;refine Be (cs:=[.int .i64 0,.int .i64 0,.int .i64 0,.slice none 0 0]) st6 2 rfl rfl (UP _) rfl fun H7 st7 ja js=>?_;refine⟨ja.mono fun k hk=>by rw [show k=bb from hk];exact hne,?_⟩;refine ldN (cs:=[.int .i64 0,.int .i64 0,.int .i64 0,.slice none 0 0]) Ek ((st7.blk 2 rfl).cells fun j v hv=>by rw [UM];exact hv) trivial ?_;(conv=>whnf);rw [CW (x:=(s4,(.error e4:Except Int BR))) rfl];exact⟨rfl,g4,st7.sub (.cons _ (.cons _ (UX _ _)))⟩
 | ok A=>
   obtain⟨a4,c4,rfl,g4,st4⟩:=hv4;have hin:=C7 hE _ _ _ _ _ hx4;replace st4:StB B H0 H4 (bdQ bb 0 A.u (.func (.func f) first cap) a4 c4 A.es ((pB 37 y [.int .i64 0,.int .i64 0,.int .i64 0,.slice none 0 0]::ps)++P s4 g4)):=by
    have h:=st4;rwa [Vv,UM]at h
   refine fa Bf (fa Gs (AG st4 0 ct3 rfl (show 1<6 by decide) rfl fun H5 st5=>(fa Bf (fa Gt (AG st5 0 ct3 rfl (show 2<6 by decide) rfl fun H6 st6=>(fa BE ?_))))));refine ld1 (v:=.int .i64 0) FH (by rw [(st6.blk 0 rfl).cell];rfl) trivial ?_;refine fa Bf (fa CN ?_);refine ld1 (v:=.int .i64 (A.u:Int)) ct3 (by rw [(st6.blk 0 rfl).cell];rfl) trivial ?_;rw [BY (x:=(s4,(.ok A:Except Int BR))) rfl];by_cases hu:65536<A.u
   ·have d2:decide ((65536:Int)<(A.u:Int))=true:=decide_eq_true (by omega);(conv=>whnf);rw [d2];refine Av Tryz.underlying37 rfl _ E5 [.int .i64 0,.int .i64 0,.int .i64 0,.slice none 0 0] rfl (Ay (cs:=[.int .i64 0,.int .i64 0,.int .i64 0,.slice none 0 0]) st6 2 rfl rfl (UP _) rfl fun H7 st7=>?_);refine ldN (cs:=[.int .i64 0,.int .i64 0,.int .i64 0,.slice none 0 0]) Ek ((st7.blk 2 rfl).cells fun j v hv=>by rw [UM];exact hv) trivial ?_;(conv=>whnf);rw [if_pos hu];exact⟨rfl,g4,st7.sub (.cons _ (.cons _ (UX _ _)))⟩
   ·have d2:decide ((65536:Int)<(A.u:Int))=false:=decide_eq_false (by omega);(conv=>whnf);rw [d2];refine fa Bf ?_;have hc6:Bo H6 bb 0 (nfL ⟨A.u,A.p,A.q,A.es⟩ (.slice a4 A.es.length c4)):=(st6.blk 0 rfl).cells fun j v hv=>by
     rw [UM]
     match j,hv with
     | 0,hv=>exact hv
     | 1,hv=>exact hv
     | 2,hv=>exact hv
     | 3,hv=>exact hv
    refine ldN (cs:=nfL ⟨A.u,A.p,A.q,A.es⟩ (.slice a4 A.es.length c4)) Ek hc6 trivial (Ay (cs:=nfL ⟨A.u,A.p,A.q,A.es⟩ (.slice a4 A.es.length c4)) st6 2 rfl rfl (UP _) rfl fun H7 st7=>?_);rw [Ae (show(nfL ⟨A.u,A.p,A.q,A.es⟩ (.slice a4 A.es.length c4)).length=4 from rfl)]at st7;refine ldN (cs:=nfL ⟨A.u,A.p,A.q,A.es⟩ (.slice a4 A.es.length c4)) Ek ((st7.blk 2 rfl).cells fun j v hv=>by rw [UM];exact hv) trivial ?_;(conv=>whnf);rw [if_neg hu];have hel:A.es.length≤(E+4)*2000:=Vu hin.2.2.2.2.2 (Nat.mul_le_mul_left _ (by omega));exact⟨hel,⟨BB (by omega),BB (by omega),BB (by omega)⟩,a4,c4,rfl,g4,((st7.sub (UX _ _)).perm (List.Perm.swap _ _ _) |>.sub (UX _ _)).perm (US _ _).symm⟩
end
structure RnM where
 op:Int
 set:BitVec 256
 l:Int
 r:Int
 m:Int
 n:Int
def AZ(op:Value)(bits:List Value)(a b m n:Value):List Value:=[op]++(bits++[a,b,m,n])
def rnL(d:RnM):List Value:=AZ (.int .i64 d.op) (Ar d.set) (.int .i64 d.l) (.int .i64 d.r) (.int .i64 d.m) (.int .i64 d.n)
theorem Aq(d:RnM):(rnL d).length=261:=by
 unfold rnL AZ;simp [Ap]
theorem Ch(d:RnM):(rnL d)[0]? =some (.int .i64 d.op):=rfl
theorem Ea(d:RnM):(rnL d)[257]? =some (.int .i64 d.l):=by
 unfold rnL AZ;rw [Vb (by simp),Vb (by simp [Ap])];simp [Ap]
theorem Hi(d:RnM):(rnL d)[258]? =some (.int .i64 d.r):=by
 unfold rnL AZ;rw [Vb (by simp),Vb (by simp [Ap])];simp [Ap]
theorem L9(d:RnM):∀(j:Nat) (v:Value),(Ar d.set)[j]? =some v→(rnL d)[1+j]? =some v:=by
 intro j v h;have hj:j<256:=by have:=(UU.1 h).1;rwa [Ap]at this
 unfold rnL AZ;rw [Vb (by simp),Vt (by rw [Ap];simp;omega)];simpa using h
def RnM.Ok(d:RnM):Prop:=inK .i64 d.op∧inK .i64 d.l∧inK .i64 d.r∧inK .i64 d.m∧inK .i64 d.n
def tRn:Ty RnM where
 size:=261
 rep _ _ cs d:=cs=rnL d∧d.Ok
 len h:=by rw [h.1];exact Aq _
 frame h _:=h
 mono h _:=h
theorem Br(d:RnM):(rnL d).all (·.oneCell')=true:=by
 unfold rnL AZ;rw [V6,V6,Ar,GR];rfl
def rnZ:List Value:=AZ (.int .i64 0) (UR 256 (.bool false)) (.int .i64 0) (.int .i64 0) (.int .i64 0) (.int .i64 0)
theorem AP:rnZ.length=261:=by simp [rnZ,AZ]
theorem FY:(Tryz.prog.info? 94).bind (·.zero)=some (.agg rnZ.toArray):=by kernel_rfl
theorem EP:Ar 0#256=UR 256 (.bool false):=by
 apply List.ext_getElem?;intro i;by_cases hi:i<256
 ·rw [Kt _ hi,List.getElem?_replicate,if_pos hi];simp
 ·rw [V0 (by rw [Ap];omega),V0 (by simp;omega)]
section
variable{op op' a a' b b' m n:Value}{bits bits':List Value}
theorem Q9:Ac (AZ op bits a b m n) 0 [op']=AZ op' bits a b m n:=rfl
theorem Tf(h:bits.length=256)(h':bits'.length=256):Ac (AZ op bits a b m n) 1 bits'=AZ op bits' a b m n:=by
 unfold Ac AZ;rw [show([op]++(bits++[a,b,m,n])).take 1=[op]from rfl,h',show 1+256=256+1 by omega,show([op]++(bits++[a,b,m,n])).drop (256+1)=(bits++[a,b,m,n]).drop 256 from rfl,List.drop_left' h,UT]
theorem Ul(h:bits.length=256):Ac (AZ op bits a b m n) 257 [a']=AZ op bits a' b m n:=by
 unfold Ac AZ;have e1:([op]++(bits++[a,b,m,n])).take 257=[op]++bits:=by
  rw [show([op]++(bits++[a,b,m,n])).take (256+1)=op::(bits++[a,b,m,n]).take 256 from rfl,List.take_left' h];rfl
 have e2:([op]++(bits++[a,b,m,n])).drop (257+1)=[b,m,n]:=by
  rw [show([op]++(bits++[a,b,m,n])).drop (257+1)=(bits++[a,b,m,n]).drop 257 from rfl,show(257:Nat)=bits.length+1 by omega,Vq];rfl
 rw [e1,show 257+[a'].length=257+1 from rfl,e2];simp
theorem UH(h:bits.length=256):Ac (AZ op bits a b m n) 258 [b']=AZ op bits a b' m n:=by
 unfold Ac AZ;have e1:([op]++(bits++[a,b,m,n])).take 258=[op]++(bits++[a]):=by
  rw [show([op]++(bits++[a,b,m,n])).take (257+1)=op::(bits++[a,b,m,n]).take 257 from rfl,show(257:Nat)=bits.length+1 by omega,List.take_length_add_append];rfl
 have e2:([op]++(bits++[a,b,m,n])).drop (258+1)=[m,n]:=by
  rw [show([op]++(bits++[a,b,m,n])).drop (258+1)=(bits++[a,b,m,n]).drop 258 from rfl,show(258:Nat)=bits.length+2 by omega,Vq];rfl
 rw [e1,show 258+[b'].length=258+1 from rfl,e2];simp
theorem D9(h:bits.length=256):(AZ op bits a b m n).length=261:=by unfold AZ;simp [h]
end
theorem I9(x:Int)(s:BitVec 256){S:Nat→Prop}{H:Aa}{K:Value→Prop}(k:K (.agg (rnL ⟨x,s,0,0,0,0⟩).toArray)):
  AB Tryz.prog (Instr.build 94 [(0,.int .i64 x),(1,.agg (Ar s).toArray)].toArray) S H K:=by
 refine Av Tryz.underlying94 rfl (.agg rnZ.toArray) FY (rnL ⟨x,s,0,0,0,0⟩) ?_ k;have hr:(UR 256 (Value.bool false)).length=256:=UW;refine(Bb (i:=0) (off:=0) (size:=1) (by kernel_rfl) rfl (by show _≤rnZ.toArray.size;rw [Vc,AP];decide)).trans ?_;have e0:Ac (Value.agg rnZ.toArray).cells.toList 0 (Value.int .i64 x).cells.toList=AZ (.int .i64 x) (UR 256 (.bool false)) (.int .i64 0) (.int .i64 0) (.int .i64 0) (.int .i64 0):=Q9;rw [e0];have ec:(Value.agg (Ar s).toArray).cells=(Ar s).toArray:=rfl;refine(Bb (i:=1) (off:=1) (size:=256) (by kernel_rfl) (by rw [ec,Vc,Ap]) (by rw [Vc,D9 hr];decide)).trans ?_;rw [ec,UV,UV,Tf hr (Ap s)];rfl
theorem KE(x y z:Int){S:Nat→Prop}{H:Aa}{K:Value→Prop}(k:K (.agg (rnL ⟨x,0#256,y,z,0,0⟩).toArray)):
  AB Tryz.prog (Instr.build 94 [(0,.int .i64 x),(2,.int .i64 y),(3,.int .i64 z)].toArray) S H K:=by
 refine Av Tryz.underlying94 rfl (.agg rnZ.toArray) FY (rnL ⟨x,0#256,y,z,0,0⟩) ?_ k;have hr:(UR 256 (Value.bool false)).length=256:=UW;refine(Bb (i:=0) (off:=0) (size:=1) (by kernel_rfl) rfl (by show _≤rnZ.toArray.size;rw [Vc,AP];decide)).trans ?_;have e0:Ac (Value.agg rnZ.toArray).cells.toList 0 (Value.int .i64 x).cells.toList=AZ (.int .i64 x) (UR 256 (.bool false)) (.int .i64 0) (.int .i64 0) (.int .i64 0) (.int .i64 0):=Q9;rw [e0];refine(Bb (i:=2) (off:=257) (size:=1) (by kernel_rfl) rfl (by rw [Vc,D9 hr];decide)).trans ?_;rw [UV,show(Value.int IntKind.i64 y).cells.toList=[Value.int .i64 y]from rfl,Ul hr];refine(Bb (i:=3) (off:=258) (size:=1) (by kernel_rfl) rfl (by rw [Vc,D9 hr];decide)).trans ?_;rw [UV,show(Value.int IntKind.i64 z).cells.toList=[Value.int .i64 z]from rfl,UH hr];unfold rnL;rw [show(RnM.mk x 0#256 y z 0 0).set=0#256 from rfl,EP];rfl
def Bc(ns:List RnM):ReM→Nat→Prop
 | .eps,i=>∃d,ns[i]? =some d∧d.op=0
 | .cls s,i=>∃d,ns[i]? =some d∧d.op=1∧d.set=s
 | .cat a b,i=>∃d j k:_,ns[i]? =some d∧d.op=2∧d.l=((j:Nat):Int)∧d.r=((k:Nat):Int)∧Bc ns a j∧Bc ns b k
 | .alt a b,i=>∃d j k:_,ns[i]? =some d∧d.op=3∧d.l=((j:Nat):Int)∧d.r=((k:Nat):Int)∧Bc ns a j∧Bc ns b k
 | .star a,i=>∃d j:_,ns[i]? =some d∧d.op=4∧d.l=((j:Nat):Int)∧Bc ns a j
 | .and_ a b,i=>∃d j k:_,ns[i]? =some d∧d.op=5∧d.l=((j:Nat):Int)∧d.r=((k:Nat):Int)∧Bc ns a j∧Bc ns b k
 | .minus a b,i=>∃d j k:_,ns[i]? =some d∧d.op=6∧d.l=((j:Nat):Int)∧d.r=((k:Nat):Int)∧Bc ns a j∧Bc ns b k
def Uh:ReM→Int
 | .eps=>0
 | .cls _=>1
 | .cat _ _=>2
 | .alt _ _=>3
 | .star _=>4
 | .and_ _ _=>5
 | .minus _ _=>6
theorem F2{α:Type}{l m:List α}{i:Nat}{x:α}(h:l[i]? =some x):(l++m)[i]? =some x:=by
 rw [Vt (UU.1 h).1];exact h
theorem Bc.more{ns ms:List RnM}:∀{r:ReM} {i:Nat},Bc ns r i→Bc (ns++ms) r i
 | .eps,_,⟨d,h1,h2⟩=>⟨d,F2 h1,h2⟩
 | .cls _,_,⟨d,h1,h2⟩=>⟨d,F2 h1,h2⟩
 | .cat a b,_,⟨d,j,k,h1,h2,h3,h4,h5,h6⟩=>⟨d,j,k,F2 h1,h2,h3,h4,h5.more,h6.more⟩
 | .alt a b,_,⟨d,j,k,h1,h2,h3,h4,h5,h6⟩=>⟨d,j,k,F2 h1,h2,h3,h4,h5.more,h6.more⟩
 | .star a,_,⟨d,j,h1,h2,h3,h5⟩=>⟨d,j,F2 h1,h2,h3,h5.more⟩
 | .and_ a b,_,⟨d,j,k,h1,h2,h3,h4,h5,h6⟩=>⟨d,j,k,F2 h1,h2,h3,h4,h5.more,h6.more⟩
 | .minus a b,_,⟨d,j,k,h1,h2,h3,h4,h5,h6⟩=>⟨d,j,k,F2 h1,h2,h3,h4,h5.more,h6.more⟩
def reL(v:Value)(root:Int):List Value:=[v,.int .i64 root]
def ReV(S:Nat→Prop)(H:Aa)(v:Value)(ns:List RnM)(root:Int):Prop:=ns.length≤4194304∧∃na nc,v= .agg (reL (.slice na ns.length nc) root).toArray∧SlD tRn S H na nc ns
section
variable{S S':Nat→Prop}{H H':Aa}{v:Value}{ns:List RnM}{root:Int}
theorem ReV.frame(h:ReV S H v ns root)(k:Agr S H H'):ReV S H' v ns root:=by
 obtain⟨h1,na,nc,h2,h3⟩:=h;exact⟨h1,na,nc,h2,h3.frame k⟩
theorem Ct{S0:Nat→Prop}{pb:Nat}{na:Option Addr}{nc:Nat}{K:Value→Prop}{t:TypeId}(hl:ns.length≤4194304)(hb:Blk H pb t (reL (.slice na ns.length nc) root))(hag:E9 Tryz.prog t 2)(hS:S0 pb)(h1:SlD tRn S H na nc ns)
  (k:∀v,ReV S H v ns root→K v):AB Tryz.prog (Instr.loadAt t (.pointer (some ⟨pb,0,none⟩))) S0 H K:=
 ldN (cs:=reL (.slice na ns.length nc) root) hag (hb.cells fun j v hv=>by rw [UM];exact hv) hS (k _ ⟨hl,na,nc,rfl,h1⟩)
end
inductive CV(ns:List RnM):ReM→Nat→List (ReM×Nat)→Prop
 | eps {i:Nat}:CV ns .eps i []
 | cls {t:BitVec 256} {i:Nat}:CV ns (.cls t) i []
 | cat {a b:ReM} {i j k:Nat} {d:RnM} {l m:List (ReM×Nat)}:ns[i]? =some d→d.l=(j:Int)→d.r=(k:Int)→CV ns a j l→CV ns b k m→CV ns (.cat a b) i (l++m)
 | alt {a b:ReM} {i j k:Nat} {d:RnM} {l m:List (ReM×Nat)}:ns[i]? =some d→d.l=(j:Int)→d.r=(k:Int)→CV ns a j l→CV ns b k m→CV ns (.alt a b) i (l++m)
 | star {a:ReM} {i j:Nat} {d:RnM} {l:List (ReM×Nat)}:ns[i]? =some d→d.l=(j:Int)→CV ns a j l→CV ns (.star a) i l
 | and_ {a b:ReM} {i:Nat}:Bc ns (.and_ a b) i→CV ns (.and_ a b) i [(.and_ a b,i)]
 | minus {a b:ReM} {i:Nat}:Bc ns (.minus a b) i→CV ns (.minus a b) i [(.minus a b,i)]
def AS(l:List (ReM×Nat)):List Int:=l.map fun x=>(x.2:Int)
theorem Ce(l:List (ReM×Nat)):(AS l).length=l.length:=by unfold AS;rw [Vw]
theorem CV.len{ns:List RnM}{r:ReM}{i:Nat}{l:List (ReM×Nat)}(h:CV ns r i l):l.length≤r.nodes:=by
 induction h with
 | eps=>simp
 | cls=>simp
 | cat _ _ _ _ _ ih1 ih2=>simp only [UL,ReM.nodes];omega
 | alt _ _ _ _ _ ih1 ih2=>simp only [UL,ReM.nodes];omega
 | star _ _ _ ih=>simp only [ReM.nodes];omega
 | and_=>simp only [UN,ReM.nodes];omega
 | minus=>simp only [UN,ReM.nodes];omega
theorem CV.at_{ns:List RnM}{r:ReM}{i:Nat}{l:List (ReM×Nat)}(h:CV ns r i l):∀x∈l,Nm x.1=true∧Bc ns x.1 x.2∧x.2<ns.length:=by
 have lt:∀{r:ReM} {i:Nat},Bc ns r i→i<ns.length:=fun{r i} h=>by
  cases r with
  | eps=>obtain⟨d,h,-⟩:=h;exact(UU.1 h).1
  | cls t=>obtain⟨d,h,-⟩:=h;exact(UU.1 h).1
  | star a=>obtain⟨d,j,h,-⟩:=h;exact(UU.1 h).1
  | _ a b=>obtain⟨d,j,k,h,-⟩:=h;exact(UU.1 h).1
 induction h with
 | eps=>intro x hx;cases hx
 | cls=>intro x hx;cases hx
 | cat _ _ _ _ _ ih1 ih2=>intro x hx;rcases V7.1 hx with hx | hx;exact ih1 x hx;exact ih2 x hx
 | alt _ _ _ _ _ ih1 ih2=>intro x hx;rcases V7.1 hx with hx | hx;exact ih1 x hx;exact ih2 x hx
 | star _ _ _ ih=>exact ih
 | and_ h=>intro x hx;rw [Vg.1 hx];exact⟨rfl,h,lt h⟩
 | minus h=>intro x hx;rw [Vg.1 hx];exact⟨rfl,h,lt h⟩
theorem Bc.head{ns:List RnM}{r:ReM}{i:Nat}(h:Bc ns r i):∃d,ns[i]? =some d∧d.op=Uh r:=by
 cases r with
 | eps=>obtain⟨d,h,h2⟩:=h;exact⟨d,h,h2⟩
 | cls t=>obtain⟨d,h,h2,-⟩:=h;exact⟨d,h,h2⟩
 | star a=>obtain⟨d,j,h,h2,-⟩:=h;exact⟨d,h,h2⟩
 | _ a b=>obtain⟨d,j,k,h,h2,-⟩:=h;exact⟨d,h,h2⟩
theorem Uc:∀(N:Nat) (r:ReM),r.nodes≤N→r.nodes≤1000000→∀{S:Nat→Prop} {H:Aa} {v:Value} {ns:List RnM} {root:Int} {i:Nat},(∀k,S k→k<H.size)→ReV S H v ns root→Bc ns r i→
  Ao Tryz.prog 15 #[v,.int .i64 (i:Int)] H fun u H'=>Agr (Old H) H H'∧∃l a c,CV ns r i l∧u= .slice a l.length c∧SlO tIk none_ H' H.size 3 u (AS l):=by
 intro N
 induction N with
 | zero=>intro r h;cases r<;>simp [ReM.nodes]at h
 | succ N ih=>
 intro r hN hn S H v ns root i hS hv ht;obtain⟨d,hd,hop⟩:=ht.head;obtain⟨hl,na,nc,rfl,h1⟩:=hv;have hil:=(UU.1 hd).1;refine Ao.of_vc Tryz.func15 rfl (Tryz.call15 _) (BM (reL (.slice na ns.length nc) root) rfl ?_);intro p H1 hp hs1 hb1 ha1;have st1:=(St.nil H).box hp hs1 hb1 ha1;refine fa Cm ?_;refine ld1 (v:=.slice na ns.length nc) C0 (by rw [(st1.blk 0 rfl).cell];rfl) trivial ?_;refine ixr (i:=i) CU (h1.frame (st1.old.mono hS)) hd rfl ?_;rintro b2 o2 c2 hS2 hc2 ⟨rfl,hok⟩;refine ldN (cs:=rnL d) (by rw [Aq];exact Gn) hc2 trivial ?_;refine Ag _ rnZ FY rfl ?_;intro x H3 hx hs3 hb3 ha3;have st3:=st1.box hx hs3 hb3 ha3;refine Ay (cs:=rnL d) st3 1 (by rw [Aq];rfl) rfl (by rw [Aq,AP];decide) (Br d) fun H4 st4=>?_;rw [Ae (show(rnL d).length=rnZ.length by rw [Aq,AP])]at st4;have hb4:=st4.blk 1 rfl;have hp4:=st4.blk 0 rfl;refine fa Bt ?_;refine ld1 (v:=.int .i64 d.op) ct3 (by rw [hb4.cell];exact Ch d) trivial ?_;have old4:=st4.old;cases r with
 | eps=>
   rw [show d.op=0 from hop];refine Al.run ?_;(conv=>whnf);exact⟨old4,[],none,0,.eps,rfl,SlO.nil⟩
 | cls t=>
   rw [show d.op=1 from hop];refine Al.run ?_;(conv=>whnf);exact⟨old4,[],none,0,.cls,rfl,SlO.nil⟩
 | and_ a b=>
   rw [show d.op=5 from hop];refine Al.run (Al.run (AM BU [.int .i64 (i:Int)] rfl rfl (by decide) (by decide) ?_));intro q H5 hq hs5 hb5 ha5;(conv=>whnf);have st5:=st4.new (T:=tIk) (n:=1) (xs:=[(i:Int)]) hq hs5 hb5 ha5 (Ty.reps_one ⟨rfl,⟨by show(-9223372036854775808:Int)≤(i:Int);omega,by show(i:Int)≤(9223372036854775807:Int);omega⟩⟩) rfl (by decide);exact⟨st5.old,[(.and_ a b,i)],_,_,.and_ ht,rfl,St.own st5 2 rfl⟩
 | minus a b=>
   rw [show d.op=6 from hop];refine Al.run (Al.run (AM BU [.int .i64 (i:Int)] rfl rfl (by decide) (by decide) ?_));intro q H5 hq hs5 hb5 ha5;(conv=>whnf);have st5:=st4.new (T:=tIk) (n:=1) (xs:=[(i:Int)]) hq hs5 hb5 ha5 (Ty.reps_one ⟨rfl,⟨by show(-9223372036854775808:Int)≤(i:Int);omega,by show(i:Int)≤(9223372036854775807:Int);omega⟩⟩) rfl (by decide);exact⟨st5.old,[(.minus a b,i)],_,_,.minus ht,rfl,St.own st5 2 rfl⟩
 | star a=>
   obtain⟨d',j,hd',hop',hl1,hta⟩:=ht;obtain rfl:d=d':=by rw [hd]at hd';exact Vd.inj hd'
   simp only [ReM.nodes]at hN hn;rw [show d.op=4 from hop];refine Al.run (Al.run (Ct hl hp4 Dd trivial (h1.frame (st4.old.mono hS)) fun v5 hv5=>(fa BJ ?_)));refine ld1 (v:=.int .i64 d.l) ct3 (by rw [hb4.cell,UM];exact Ea d) trivial ?_;rw [hl1];refine Ai.mk (ih a (by omega) (by omega) (fun k hk=>st4.up (hS k hk)) hv5 hta) ?_;rintro _ H6 ⟨ha6,l,la,lc,hm,rfl,hown⟩;(conv=>whnf);exact⟨(st4.call ha6).old,l,la,lc,.star hd hl1 hm,rfl,hown.lower (DI st4.old)⟩
 | cat a b=>
   obtain⟨d',j,k,hd',hop',hl1,hl2,hta,htb⟩:=ht;obtain rfl:d=d':=by rw [hd]at hd';exact Vd.inj hd'
   simp only [ReM.nodes]at hN hn;rw [show d.op=2 from hop];refine Al.run (Al.run (Ct hl hp4 Dd trivial (h1.frame (st4.old.mono hS)) fun v5 hv5=>(fa BJ ?_)));refine ld1 (v:=.int .i64 d.l) ct3 (by rw [hb4.cell,UM];exact Ea d) trivial ?_;rw [hl1];refine Ai.mk (ih a (by omega) (by omega) (fun k hk=>st4.up (hS k hk)) hv5 hta) ?_;rintro _ H6 ⟨ha6,l,la,lc,hm,rfl,hown⟩;have ll:=hm.len;rw [←Ce l]at hown;obtain⟨la',lc',e6,st6⟩:=st4.got ha6 hown;injection e6 with e61 _ e63
   subst e61;subst e63;refine Ct hl (st6.blk 0 rfl) Dd trivial (h1.frame (st6.old.mono hS)) fun v7 hv7=>(fa Dr ?_);refine ld1 (v:=.int .i64 d.r) ct3 (by rw [(st6.blk 1 rfl).cell,UM];exact Hi d) trivial ?_;rw [hl2];refine Ai.mk (ih b (by omega) (by omega) (fun k hk=>st6.up (hS k hk)) hv7 htb) ?_;rintro _ H8 ⟨ha8,m,ma,mc,hm2,rfl,hown2⟩;have ml:=hm2.len;rw [←Ce m]at hown2;obtain⟨ma',mc',e8,st8⟩:=st6.got ha8 hown2;injection e8 with e81 _ e83
   subst e81;subst e83;clear st4 st6;rw [←Ce l,←Ce m];have st9:St H H8 [pS tIk 3 la (AS l++(AS m).take 0).length lc (AS l++(AS m).take 0),pS tIk 3 ma (AS m).length mc (AS m)]:=by
    have e:AS l++(AS m).take 0=AS l:=by simp
    rw [e];exact st8.pick [2,3] (by decide)
   have e0:(AS l).length=(AS l++(AS m).take 0).length:=by simp
   rw [e0];(conv=>whnf);refine AH.mk [6,8] (fun x:Nat×Option Addr×Nat=>match x with | (t,a,c)=>[.slice a (AS l++(AS m).take t).length c,.int .i64 (t:Int)]) (fun x G=>match x with | (t,a,c)=>t≤(AS m).length∧St H G [pS tIk 3 a (AS l++(AS m).take t).length c (AS l++(AS m).take t),pS tIk 3 ma (AS m).length mc (AS m)]) (fun x _=>(AS m).length - x.1) ?_ ?_
   ·(conv=>whnf);exact⟨(0,la,lc),rfl,Va _,st9⟩
   ·clear st8 st9;rintro⟨t,ta,tc⟩ H9 junk9 ⟨ht9,st9⟩;have hml:=Ce m;have hll:=Ce l;refine AQ.mk (fun hz=>?_) (fun hz=>?_)<;>simp only [decide_eq_true_eq,decide_eq_false_iff_not]at hz
    ·obtain⟨x,hx⟩:=Bw (l:=AS m) (k:=t) (by omega);have hxr:0≤x∧x<65536*65536:=by
      unfold AS at hx;rw [Vs]at hx;obtain⟨y,hy,rfl⟩:=Vy.1 hx;have:=(hm2.at_ y (Vi hy)).2.2;omega
     refine ixO (j:=t) BU st9 1 rfl hx rfl ?_;rintro b10 o10 c10 hS10 hc10 ⟨rfl,hxk⟩;refine ld1 ct3 hc10.one trivial (AM BU [.int .i64 x] rfl rfl (by decide) (by decide) ?_);intro q11 H11 hq11 hs11 hb11 ha11;have st11:=st9.skip hq11 ha11;refine Rf (x:=x) st11 0 BU rfl hb11 ⟨rfl,hxk⟩ rfl (by rw [UL,V4];omega) (by decide) fun a12 c12 H12 st12 _=>?_;(conv=>whnf);rw [w64 (x:=(t:Int)+1) (by omega) (by omega)];have hnx:(AS l++(AS m).take t)++[x]=AS l++(AS m).take (t+1):=by rw [Bd hx,UT]
     have el:(AS l++(AS m).take t).length+1=(AS l++(AS m).take (t+1)).length:=by rw [←hnx];simp;omega
     rw [el,hnx]at st12;exact⟨rfl,(t+1,a12,c12),by rw [el];rfl,⟨by omega,st12⟩,by simp only;omega⟩
    ·obtain rfl:t=(AS m).length:=by omega
     rw [V5]at st9 ⊢;have e2:AS l++AS m=AS (l++m):=by unfold AS;rw [Vp]
     rw [e2]at st9 ⊢;(conv=>whnf);refine⟨st9.old,l++m,ta,tc,.cat hd hl1 hl2 hm hm2,by rw [Ce],?_⟩;exact St.own st9 0 rfl
 | alt a b=>
   obtain⟨d',j,k,hd',hop',hl1,hl2,hta,htb⟩:=ht;obtain rfl:d=d':=by rw [hd]at hd';exact Vd.inj hd'
   simp only [ReM.nodes]at hN hn;rw [show d.op=3 from hop];refine Al.run (Al.run (Ct hl hp4 Dd trivial (h1.frame (st4.old.mono hS)) fun v5 hv5=>(fa BJ ?_)));refine ld1 (v:=.int .i64 d.l) ct3 (by rw [hb4.cell,UM];exact Ea d) trivial ?_;rw [hl1];refine Ai.mk (ih a (by omega) (by omega) (fun k hk=>st4.up (hS k hk)) hv5 hta) ?_;rintro _ H6 ⟨ha6,l,la,lc,hm,rfl,hown⟩;have ll:=hm.len;rw [←Ce l]at hown;obtain⟨la',lc',e6,st6⟩:=st4.got ha6 hown;injection e6 with e61 _ e63
   subst e61;subst e63;refine Ct hl (st6.blk 0 rfl) Dd trivial (h1.frame (st6.old.mono hS)) fun v7 hv7=>(fa Dr ?_);refine ld1 (v:=.int .i64 d.r) ct3 (by rw [(st6.blk 1 rfl).cell,UM];exact Hi d) trivial ?_;rw [hl2];refine Ai.mk (ih b (by omega) (by omega) (fun k hk=>st6.up (hS k hk)) hv7 htb) ?_;rintro _ H8 ⟨ha8,m,ma,mc,hm2,rfl,hown2⟩;have ml:=hm2.len;rw [←Ce m]at hown2;obtain⟨ma',mc',e8,st8⟩:=st6.got ha8 hown2;injection e8 with e81 _ e83
   subst e81;subst e83;clear st4 st6;rw [←Ce l,←Ce m];have st9:St H H8 [pS tIk 3 la (AS l++(AS m).take 0).length lc (AS l++(AS m).take 0),pS tIk 3 ma (AS m).length mc (AS m)]:=by
    have e:AS l++(AS m).take 0=AS l:=by simp
    rw [e];exact st8.pick [2,3] (by decide)
   have e0:(AS l).length=(AS l++(AS m).take 0).length:=by simp
   rw [e0];(conv=>whnf);refine AH.mk [6,8] (fun x:Nat×Option Addr×Nat=>match x with | (t,a,c)=>[.slice a (AS l++(AS m).take t).length c,.int .i64 (t:Int)]) (fun x G=>match x with | (t,a,c)=>t≤(AS m).length∧St H G [pS tIk 3 a (AS l++(AS m).take t).length c (AS l++(AS m).take t),pS tIk 3 ma (AS m).length mc (AS m)]) (fun x _=>(AS m).length - x.1) ?_ ?_
   ·(conv=>whnf);exact⟨(0,la,lc),rfl,Va _,st9⟩
   ·clear st8 st9;rintro⟨t,ta,tc⟩ H9 junk9 ⟨ht9,st9⟩;have hml:=Ce m;have hll:=Ce l;refine AQ.mk (fun hz=>?_) (fun hz=>?_)<;>simp only [decide_eq_true_eq,decide_eq_false_iff_not]at hz
    ·obtain⟨x,hx⟩:=Bw (l:=AS m) (k:=t) (by omega);have hxr:0≤x∧x<65536*65536:=by
      unfold AS at hx;rw [Vs]at hx;obtain⟨y,hy,rfl⟩:=Vy.1 hx;have:=(hm2.at_ y (Vi hy)).2.2;omega
     refine ixO (j:=t) BU st9 1 rfl hx rfl ?_;rintro b10 o10 c10 hS10 hc10 ⟨rfl,hxk⟩;refine ld1 ct3 hc10.one trivial (AM BU [.int .i64 x] rfl rfl (by decide) (by decide) ?_);intro q11 H11 hq11 hs11 hb11 ha11;have st11:=st9.skip hq11 ha11;refine Rf (x:=x) st11 0 BU rfl hb11 ⟨rfl,hxk⟩ rfl (by rw [UL,V4];omega) (by decide) fun a12 c12 H12 st12 _=>?_;(conv=>whnf);rw [w64 (x:=(t:Int)+1) (by omega) (by omega)];have hnx:(AS l++(AS m).take t)++[x]=AS l++(AS m).take (t+1):=by rw [Bd hx,UT]
     have el:(AS l++(AS m).take t).length+1=(AS l++(AS m).take (t+1)).length:=by rw [←hnx];simp;omega
     rw [el,hnx]at st12;exact⟨rfl,(t+1,a12,c12),by rw [el];rfl,⟨by omega,st12⟩,by simp only;omega⟩
    ·obtain rfl:t=(AS m).length:=by omega
     rw [V5]at st9 ⊢;have e2:AS l++AS m=AS (l++m):=by unfold AS;rw [Vp]
     rw [e2]at st9 ⊢;(conv=>whnf);refine⟨st9.old,l++m,ta,tc,.alt hd hl1 hl2 hm hm2,by rw [Ce],?_⟩;exact St.own st9 0 rfl
theorem TQ{place:Nat→Option (Nat×Nat)}{c0 c1 c2 v0 v1 v2:Value}{zs:List Value}(p0:place 0=some (0,1))(p1:place 1=some (1,1))(p2:place 2=some (2,1))
  (h0:v0.cells= #[v0]) (h1:v1.cells= #[v1]) (h2:v2.cells= #[v2]):Instr.fill place ([c0,c1,c2]++zs).toArray [(0,v0),(1,v1),(2,v2)]=some ([v0,v1,v2]++zs).toArray:=by
 have e0:Ac ([c0,c1,c2]++zs) 0 [v0]=[v0,c1,c2]++zs:=rfl;have e1:Ac ([v0,c1,c2]++zs) 1 [v1]=[v0,v1,c2]++zs:=rfl;have e2:Ac ([v0,v1,c2]++zs) 2 [v2]=[v0,v1,v2]++zs:=rfl;rw [Bb p0 (by rw [h0];rfl) (by simp),h0,UV,e0,Bb p1 (by rw [h1];rfl) (by simp),h1,UV,e1,Bb p2 (by rw [h2];rfl) (by simp),h2,UV,UV,e2];rfl
theorem SF{place:Nat→Option (Nat×Nat)}{c0 c1 c2 v0 v1:Value}{zs bs:List Value}(hl:bs.length=zs.length)(p0:place 0=some (0,1))(p1:place 1=some (1,1))(p3:place 3=some (3,zs.length))
  (h0:v0.cells= #[v0]) (h1:v1.cells= #[v1]):Instr.fill place ([c0,c1,c2]++zs).toArray [(0,v0),(1,v1),(3,.agg bs.toArray)]=some ([v0,v1,c2]++bs).toArray:=by
 have e0:Ac ([c0,c1,c2]++zs) 0 [v0]=[v0,c1,c2]++zs:=rfl;have e1:Ac ([v0,c1,c2]++zs) 1 [v1]=[v0,v1,c2]++zs:=rfl;have e3:Ac ([v0,v1,c2]++zs) 3 bs=[v0,v1,c2]++bs:=by
  unfold Ac;rw [show([v0,v1,c2]++zs).take 3=[v0,v1,c2]from rfl,Vl (by simp;omega),UZ]
 have ec:(Value.agg bs.toArray).cells=bs.toArray:=rfl;rw [Bb p0 (by rw [h0];rfl) (by simp),h0,UV,e0,Bb p1 (by rw [h1];rfl) (by simp),h1,UV,e1,Bb p3 (by rw [ec];simpa using hl) (by simp;omega),ec,UV,UV,e3];rfl
theorem N8(p q:Nat){S:Nat→Prop}{H:Aa}{K:Value→Prop}(k:K (.agg (C1 (AA p q)).toArray)):
  AB Tryz.prog (Instr.build 106 [(0,.int .i64 (p:Int)),(1,.int .i64 (q:Int)),(2,.bool true)].toArray) S H K:=by
 refine Av Tryz.underlying106 rfl OI FK (C1 (AA p q)) ?_ k;unfold C1;rw [show(AA p q).set=0#256 from rfl,EP];exact TQ (by kernel_rfl) (by kernel_rfl) (by kernel_rfl) rfl rfl rfl
theorem N7(p q:Nat)(s:BitVec 256){S:Nat→Prop}{H:Aa}{K:Value→Prop}(k:K (.agg (C1 (CJ p q s)).toArray)):
  AB Tryz.prog (Instr.build 106 [(0,.int .i64 (p:Int)),(1,.int .i64 (q:Int)),(3,.agg (Ar s).toArray)].toArray) S H K:=
 Av Tryz.underlying106 rfl OI FK (C1 (CJ p q s)) (SF (zs:=UR 256 (Value.bool false)) (by rw [show(Ar s).length=256 from BI _ _,UW]) (by kernel_rfl) (by kernel_rfl) (by rw [UW];kernel_rfl) rfl rfl) k
def dbL(n:Nat)(v:Value):List Value:=[.int .i64 (n:Int),.int .i64 0,.int .i64 0,v]
abbrev tDb:TypeId:=42
section
variable{B:Nat→Prop}{H0 H:Aa}{rest:List Pc}{bb n:Nat}{v:Value}
end
inductive P3(R:Nat→Nat→Prop)(i:Nat):Nat→Prop
 | refl:P3 R i i
 | step {k j:Nat}:P3 R i k→R k j→P3 R i j
inductive Pth(es:List EdM)(l:List Nat)(p:Int)(i:Nat):Int→Nat→Prop
 | refl:Pth es l p i p i
 | sil {q:Int} {j:Nat} {e:EdM}:Pth es l p i q j→e∈es→e.sil=true→e.fr=q→Pth es l p i e.to j
 | eat {q:Int} {j c:Nat} {e:EdM}:Pth es l p i q j→e∈es→e.sil=false→e.fr=q→l[j]? =some c→e.set.getLsbD c=true→Pth es l p i e.to (j+1)
def Mc(A C:BR):BR:=⟨A.p,C.q,A.u+C.u,A.es++C.es++[AA A.q C.p]⟩
def KS(n:Nat)(A C:BR):BR:=⟨n,n+1+A.u+C.u,A.u+C.u+2,A.es++C.es++[AA n A.p,AA n C.p,AA A.q (n+1+A.u+C.u),AA C.q (n+1+A.u+C.u)]⟩
def IQ(n:Nat)(A:BR):BR:=⟨n,n+1+A.u,A.u+2,A.es++[AA n A.p,AA n (n+1+A.u),AA A.q A.p,AA A.q (n+1+A.u)]⟩
def RR:Ty (Nat×NfM) where
 size:=5
 rep S H cs x:=∃ea ec,cs= .int .i64 (x.1:Int)::nfL x.2 (.slice ea x.2.edges.length ec)∧x.2.edges.length≤33554432∧SlD Hk S H ea ec x.2.edges
 len h:=by obtain⟨ea,ec,rfl,-⟩:=h;rfl
 frame k h:=by obtain⟨ea,ec,h1,h2,h3⟩:=k;exact⟨ea,ec,h1,h2,h3.frame h⟩
 mono k h:=by obtain⟨ea,ec,h1,h2,h3⟩:=k;exact⟨ea,ec,h1,h2,h3.mono h⟩
def Sh(xs:List (Nat×NfM))(j:Nat)(a:NfM):Prop:=∃t,xs[t]? =some (j,a)∧∀(t':Nat) (y:Nat×NfM),t'<t→xs[t']? =some y→y.1≠j
def AI(sub:ReM→NfM):ReM→Nat→BR
 | .eps,n=>⟨n,n+1,2,[AA n (n+1)]⟩
 | .cls t,n=>⟨n,n+1,2,[CJ n (n+1) t]⟩
 | .cat a b,n=>Mc (AI sub a n) (AI sub b (n+(AI sub a n).u))
 | .alt a b,n=>KS n (AI sub a (n+1)) (AI sub b (n+1+(AI sub a (n+1)).u))
 | .star a,n=>IQ n (AI sub a (n+1))
 | .and_ a b,n=>⟨n+(sub (.and_ a b)).start.toNat,n+(sub (.and_ a b)).fin.toNat,(sub (.and_ a b)).st.toNat,(sub (.and_ a b)).edges.map (shE n)⟩
 | .minus a b,n=>⟨n+(sub (.minus a b)).start.toNat,n+(sub (.minus a b)).fin.toNat,(sub (.minus a b)).st.toNat,(sub (.minus a b)).edges.map (shE n)⟩
theorem HO{a:NfM}(h:Bh a=true):∃s f u:Nat,a.start=(s:Int)∧a.fin=(f:Int)∧a.st=(u:Int)∧s<u∧f<u∧u≤65536:=by
 obtain⟨k1,k2,-⟩:=Dc.1 h;have k1:=NfM.has_iff.1 k1;have k2:=NfM.has_iff.1 k2;exact⟨a.start.toNat,a.fin.toNat,a.st.toNat,by omega,by omega,by omega,by omega,by omega,by omega⟩
def FF(sub:ReM→NfM)(xs:List (Nat×NfM))(l:List (ReM×Nat)):Prop:=∀x∈l,Sh xs x.2 (sub x.1)∧Bh (sub x.1)=true∧(sub x.1).edges.length≤33554432
theorem EV{ns:List RnM}{sub:ReM→NfM}{xs:List (Nat×NfM)}{r:ReM}{i:Nat}{l:List (ReM×Nat)}(h:CV ns r i l)(hs:FF sub xs l):∀n,n≤(AI sub r n).p∧(AI sub r n).p<n+(AI sub r n).u∧n≤(AI sub r n).q∧(AI sub r n).q<n+(AI sub r n).u∧(AI sub r n).u≤65536*r.nodes∧(AI sub r n).es.length≤33554436*r.nodes:=by
 induction h with
 | eps=>intro n;simp only [AI,ReM.nodes,UN];omega
 | cls=>intro n;simp only [AI,ReM.nodes,UN];omega
 | @cat a b i j k d l m _ _ _ _ _ ih1 ih2=>
   intro n;have i1:=ih1 (fun x hx=>hs x (Vj _ hx)) n;have i2:=ih2 (fun x hx=>hs x (Vh _ hx)) (n+(AI sub a n).u);simp only [AI,Mc,ReM.nodes,UL,UN,Ve];omega
 | @alt a b i j k d l m _ _ _ _ _ ih1 ih2=>
   intro n;have i1:=ih1 (fun x hx=>hs x (Vj _ hx)) (n+1);have i2:=ih2 (fun x hx=>hs x (Vh _ hx)) (n+1+(AI sub a (n+1)).u);simp only [AI,KS,ReM.nodes,UL,UQ,UO,Ve];omega
 | star _ _ _ ih=>
   intro n;have i1:=ih hs (n+1);simp only [AI,IQ,ReM.nodes,UL,UQ,UO,Ve];omega
 | and_ _ | minus _=>
   intro n;obtain⟨-,hw,hl⟩:=hs _ (Vg.2 rfl);obtain⟨s,f,u,e1,e2,e3,h1,h2,h3⟩:=HO hw;simp only [AI,ReM.nodes,Vw,Ve,e1,e2,e3,Vk];dsimp only at hl;omega
theorem Mj{p q:Nat}(hp:p≤4398046511104)(hq:q≤4398046511104)(s:Bool)(t:BitVec 256):(EdM.mk p q s t).Ok:=⟨BB (by omega),BB (by omega)⟩
theorem Ed{B:Nat→Prop}{H0 H:Aa}{rest:List Pc}{bb n:Nat}{K:Value→Aa→Prop}{a:Option Addr}{c p q:Nat}{es:List EdM}(st:StB B H0 H (pB tDb bb (dbL n (.slice a es.length c))::pS Hk 106 a es.length c es::rest))(hp:p≤4398046511104)(hq:q≤4398046511104)(hl:es.length+1≤274877906944)
  (k:∀a' c' H',StB B H0 H' (pB tDb bb (dbL n (.slice a' (es++[AA p q]).length c'))::pS Hk 106 a' (es++[AA p q]).length c' (es++[AA p q])::rest)→K (.tuple #[]) H'):
  Ai Tryz.prog 75 #[.pointer (some ⟨bb,0,none⟩),.int .i64 (p:Int),.int .i64 (q:Int)] H K:=by
 refine Ai.mk (R:=fun r H'=>r= .tuple #[]∧∃a' c',StB B H0 H' (pB tDb bb (dbL n (.slice a' (es++[AA p q]).length c'))::pS Hk 106 a' (es++[AA p q]).length c' (es++[AA p q])::rest)) ?_ fun r H' ⟨h1,a',c',h2⟩=>by rw [h1];exact k a' c' H' h2
 refine Ao.of_vc Tryz.func75 rfl (Tryz.call75 _) (fa CY ?_);refine ld1 (v:=.slice a es.length c) Gr (by rw [(st.blk 0 rfl).cell];rfl) trivial ?_;refine N8 p q (AM IB (C1 (AA p q)) rfl (AU _) (by decide) (by decide) ?_);intro y H1 hy hs1 hb1 ha1;have st1:=st.skip hy ha1;refine Hp (ys:=[AA p q]) st1 1 IB rfl (hb1.cells (o:=0) (cs:=C1 (AA p q)) fun j v hv=>by rw [UM];exact hv) (Ty.reps_one ⟨rfl,Mj hp hq _ _⟩) rfl (fun u hu=>Vn.1 (DC _) u hu) (by unfold maxLen;simp only [UQ,UO];omega) (by simp only [UQ,UO];omega) fun a9 c9 H9 st9 _=>?_;refine fa CY (AG st9 0 Gr rfl (show 3<4 by decide) rfl fun H10 st10=>?_);(conv=>whnf);have el:es.length+[AA p q].length=(es++[AA p q]).length:=by simp
 rw [el]at st10;exact⟨rfl,a9,c9,st10⟩
abbrev dbP(bb n:Nat)(a:Option Addr)(c:Nat)(es:List EdM)(rest:List Pc):List Pc:=pB tDb bb (dbL n (.slice a es.length c))::pS Hk 106 a es.length c es::rest
theorem Qv{B:Nat→Prop}{H0:Aa}{bb:Nat}{ns:List RnM}{root:Int}{v0:Value}{sub:ReM→NfM}{xs:List (Nat×NfM)}{sa:Option Addr}{sc:Nat}(hv0:ReV B H0 v0 ns root)(hxs:SlD RR B H0 sa sc xs)(hxl:xs.length≤4194304):∀(N:Nat) (r:ReM),r.nodes≤N→∀{H:Aa} {rest:List Pc} {n i:Nat} {a:Option Addr} {c:Nat} {es:List EdM} {l:List (ReM×Nat)},Bc ns r i→CV ns r i l→FF sub xs l→
  StB B H0 H (dbP bb n a c es rest)→n+65536*r.nodes≤1099511627776→es.length+33554436*r.nodes≤137438953472→
  Ao Tryz.prog 47 #[.pointer (some ⟨bb,0,none⟩),v0,.int .i64 (i:Int),.slice sa xs.length sc] H fun u H'=>u= .tuple #[.int .i64 ((AI sub r n).p:Nat),.int .i64 ((AI sub r n).q:Nat)]∧∃a' c',StB B H0 H' (dbP bb (n+(AI sub r n).u) a' c' (es++(AI sub r n).es) rest):=by
 intro N
 induction N with
 | zero=>intro r h;cases r<;>simp [ReM.nodes]at h
 | succ N ih=>
 intro r hN H rest n i a c es l ht hm hsub st hn hbd;obtain⟨hl,na,nc,rfl,h1⟩:=hv0;obtain⟨d,hd,hop⟩:=ht.head;have hil:=(UU.1 hd).1;refine Ao.of_vc Tryz.func47 rfl (Tryz.call47 _) (BM (reL (.slice na ns.length nc) root) rfl ?_);intro p H1 hp hs1 hb1 ha1;have st1:=(st.box hp hs1 hb1 ha1).perm (US _ _);refine fa Cm ?_;refine ld1 (v:=.slice na ns.length nc) C0 (by rw [(st1.blk 0 rfl).cell];rfl) trivial ?_;refine ixr (i:=i) CU (h1.frame st1.old) hd rfl ?_;rintro b2 o2 c2 hS2 hc2 ⟨rfl,hok⟩;refine ldN (cs:=rnL d) (by rw [Aq];exact Gn) hc2 trivial ?_;refine Ag _ rnZ FY rfl ?_;intro x H3 hx hs3 hb3 ha3;have st3:=(st1.box hx hs3 hb3 ha3).perm (US _ _);refine Ay (cs:=rnL d) st3 0 (by rw [Aq];rfl) rfl (by rw [Aq,AP];decide) (Br d) fun H4 st4=>?_;rw [Ae (show(rnL d).length=rnZ.length by rw [Aq,AP])]at st4;replace st4:StB B H0 H4 (dbP bb n a c es (pB 94 x (rnL d)::pB 32 p (reL (.slice na ns.length nc) root)::rest)):=st4.pickN 4 [2,3,0,1] (by decide);clear st1 st3 st;refine fa Cc ?_;refine ld1 (v:=.int .i64 (n:Int)) ct3 (by rw [(st4.blk 0 rfl).cell];rfl) trivial ?_;refine fa Bt ?_;refine ld1 (v:=.int .i64 d.op) ct3 (by rw [(st4.blk 2 rfl).cell];exact Ch d) trivial ?_;have hin:=EV hm hsub n;cases hm with
 | eps=>
   rw [show d.op=0 from hop];simp only [ReM.nodes]at hn hbd;refine fa Cc ?_;refine ld1 (v:=.int .i64 ((n:Nat):Int)) ct3 (by rw [(st4.blk 0 rfl).cell];rfl) trivial ?_;(conv=>whnf);rw [w64 (x:=((n:Nat):Int)+2) (by omega) (by omega),show((n:Nat):Int)+2=((n+2:Nat):Int) by omega];refine fa Cc (AG st4 0 ct3 rfl (show 0<4 by decide) rfl fun H5 st5=>?_);(conv=>whnf);rw [w64 (x:=(n:Int)+1) (by omega) (by omega),show(n:Int)+1=((n+1:Nat):Int) by omega];refine Ed st5 (by omega) (by omega) (by first | omega | (simp only [UL,UQ,UO];omega)) fun a6 c6 H6 st6=>?_;(conv=>whnf);rw [w64 (x:=(n:Int)+1) (by omega) (by omega),show(n:Int)+1=((n+1:Nat):Int) by omega];(conv=>whnf);exact⟨rfl,a6,c6,st6.pickN 4 [0,1] (by decide)⟩
 | cls=>
   rename_i t;have hset:d.set=t:=by obtain⟨d',hd',-,h⟩:=ht;rw [hd]at hd';cases hd';exact h
   rw [show d.op=1 from hop];simp only [ReM.nodes]at hn hbd;refine fa Cc ?_;refine ld1 (v:=.int .i64 ((n:Nat):Int)) ct3 (by rw [(st4.blk 0 rfl).cell];rfl) trivial ?_;(conv=>whnf);rw [w64 (x:=((n:Nat):Int)+2) (by omega) (by omega),show((n:Nat):Int)+2=((n+2:Nat):Int) by omega];refine fa Cc (AG st4 0 ct3 rfl (show 0<4 by decide) rfl fun H5 st5=>?_);have hdis:=st5.apart2 (i:=0) (j:=1) rfl rfl (by decide);have hdis2:=st5.apart2 (i:=2) (j:=1) rfl rfl (by decide);have hb5:bb<H5.size∧¬slB (.slice a es.length c) bb:=⟨(st5.in_ 0 rfl rfl).2,fun h=>hdis bb rfl (.inl h)⟩;have hx5:x<H5.size∧¬slB (.slice a es.length c) x:=⟨(st5.in_ 2 rfl rfl).2,fun h=>hdis2 x rfl (.inl h)⟩;refine As.heldZ (fun k=>k<H5.size∧¬slB (.slice a es.length c) k) [15] (sq [0,1,2,3,4,5,6,7,8,9,10] (.f 11 (.f 12 (sq [13,14] (.f 15 .e))))) rfl (by kernel_rfl) (fa CY ?_);refine ld1 (v:=.slice a es.length c) Gr (by rw [(st5.blk 0 rfl).cell];rfl) hb5 ?_;(conv=>whnf);rw [w64 (x:=(n:Int)+1) (by omega) (by omega),show(n:Int)+1=((n+1:Nat):Int) by omega];refine fa Ls ?_;refine ldN (cs:=Ar d.set) (by rw [Ap];exact Kf) ((st5.blk 2 rfl).cells fun j v hv=>L9 d j v hv) hx5 ?_;(conv=>whnf);rw [hset];refine N7 n (n+1) t (AM IB (C1 (CJ n (n+1) t)) rfl (AU _) (by decide) (by decide) ?_);intro y H6 hy hs6 hb6 ha6;have st6:=st5.skip hy ha6;refine⟨ha6.mono fun k hk=>by have:=hk.1;omega,?_⟩;refine Hp (ys:=[CJ n (n+1) t]) st6 1 IB rfl (hb6.cells (o:=0) (cs:=C1 (CJ n (n+1) t)) fun j v hv=>by rw [UM];exact hv) (Ty.reps_one ⟨rfl,Mj (by omega) (by omega) _ _⟩) rfl (fun u hu=>Vn.1 (DC _) u hu) (by unfold maxLen;simp only [UQ,UO];omega) (by simp only [UQ,UO];omega) fun a9 c9 H9 st9 ha9=>?_;refine⟨(ha6.mono fun k hk=>by have:=hk.1;omega).trans (ha9.mono fun k hk=>⟨by have:=hk.1;omega,hk.2⟩),?_⟩;refine fa CY (AG st9 0 Gr rfl (show 3<4 by decide) rfl fun H10 st10=>?_);(conv=>whnf);rw [w64 (x:=(n:Int)+1) (by omega) (by omega),show(n:Int)+1=((n+1:Nat):Int) by omega];(conv=>whnf);have el:es.length+[CJ n (n+1) t].length=(es++[CJ n (n+1) t]).length:=by simp
   rw [el]at st10;exact⟨rfl,a9,c9,st10.pickN 4 [0,1] (by decide)⟩
 | @cat a' b' _ j k d' l1 l2 hd' hl1 hl2 hm1 hm2=>
   obtain rfl:d=d':=by rw [hd]at hd';exact Vd.inj hd'
   have hta:Bc ns a' j:=by
    obtain⟨e1,j2,k2,he,-,g1,g2,h,-⟩:=ht;rw [hd]at he;cases he;rw [hl1]at g1;have e:j=j2:=by omega
    rw [e];exact h
   have htb:Bc ns b' k:=by
    obtain⟨e1,j2,k2,he,-,g1,g2,-,h⟩:=ht;rw [hd]at he;cases he;rw [hl2]at g2;have e:k=k2:=by omega
    rw [e];exact h
   have hs1:FF sub xs l1:=fun x hx=>hsub x (Vj _ hx);have hs2:FF sub xs l2:=fun x hx=>hsub x (Vh _ hx);simp only [ReM.nodes,Ve]at hN hn hbd;rw [show d.op=2 from hop];refine ldN (cs:=reL (.slice na ns.length nc) root) Dd ((st4.blk 3 rfl).cells fun j v hv=>by rw [UM];exact hv) trivial ?_;refine fa BJ ?_;refine ld1 (v:=.int .i64 d.l) ct3 (by rw [(st4.blk 2 rfl).cell,UM];exact Ea d) trivial ?_;(conv=>whnf);rw [hl1];have i5:=EV hm1 hs1 (n);refine Ai.mk (ih a' (by omega) hta hm1 hs1 st4 (by omega) (by first | omega | (simp only [UL];omega))) ?_;rintro _ H5 ⟨rfl,a5,c5,st5⟩;obtain⟨A5,hA5⟩:∃A,A=AI sub a' (n):=⟨_,rfl⟩;rw [←hA5]at i5 st5 ⊢;refine ldN (cs:=reL (.slice na ns.length nc) root) Dd ((st5.blk 3 rfl).cells fun j v hv=>by rw [UM];exact hv) trivial ?_;refine fa Dr ?_;refine ld1 (v:=.int .i64 d.r) ct3 (by rw [(st5.blk 2 rfl).cell,UM];exact Hi d) trivial ?_;(conv=>whnf);rw [hl2];have i6:=EV hm2 hs2 (n+A5.u);refine Ai.mk (ih b' (by omega) htb hm2 hs2 st5 (by omega) (by first | omega | (simp only [UL];omega))) ?_;rintro _ H6 ⟨rfl,a6,c6,st6⟩;obtain⟨A6,hA6⟩:∃A,A=AI sub b' (n+A5.u):=⟨_,rfl⟩;rw [←hA6]at i6 st6 ⊢;refine Ed st6 (by omega) (by omega) (by first | omega | (simp only [UL,UQ,UO];omega)) fun a7 c7 H7 st7=>?_;(conv=>whnf);have e1:AI sub (.cat a' b') n=Mc A5 A6:=by simp only [AI];rw [←hA5,←hA6]
   rw [e1];refine⟨rfl,a7,c7,?_⟩;have e2:es++A5.es++A6.es++[AA A5.q A6.p]=es++(Mc A5 A6).es:=by simp [Mc]
   have e3:n+A5.u+A6.u=n+(Mc A5 A6).u:=by simp [Mc];omega
   rw [e2,e3]at st7;exact st7.pickN 4 [0,1] (by decide)
 | @alt a' b' _ j k d' l1 l2 hd' hl1 hl2 hm1 hm2=>
   obtain rfl:d=d':=by rw [hd]at hd';exact Vd.inj hd'
   have hta:Bc ns a' j:=by
    obtain⟨e1,j2,k2,he,-,g1,g2,h,-⟩:=ht;rw [hd]at he;cases he;rw [hl1]at g1;have e:j=j2:=by omega
    rw [e];exact h
   have htb:Bc ns b' k:=by
    obtain⟨e1,j2,k2,he,-,g1,g2,-,h⟩:=ht;rw [hd]at he;cases he;rw [hl2]at g2;have e:k=k2:=by omega
    rw [e];exact h
   have hs1:FF sub xs l1:=fun x hx=>hsub x (Vj _ hx);have hs2:FF sub xs l2:=fun x hx=>hsub x (Vh _ hx);simp only [ReM.nodes,Ve]at hN hn hbd;rw [show d.op=3 from hop];refine fa Cc ?_;refine ld1 (v:=.int .i64 ((n:Nat):Int)) ct3 (by rw [(st4.blk 0 rfl).cell];rfl) trivial ?_;(conv=>whnf);rw [w64 (x:=((n:Nat):Int)+1) (by omega) (by omega),show((n:Nat):Int)+1=((n+1:Nat):Int) by omega];refine fa Cc (AG st4 0 ct3 rfl (show 0<4 by decide) rfl fun H45 st45=>?_);refine ldN (cs:=reL (.slice na ns.length nc) root) Dd ((st45.blk 3 rfl).cells fun j v hv=>by rw [UM];exact hv) trivial ?_;refine fa BJ ?_;refine ld1 (v:=.int .i64 d.l) ct3 (by rw [(st45.blk 2 rfl).cell,UM];exact Ea d) trivial ?_;(conv=>whnf);rw [hl1];have i5:=EV hm1 hs1 (n+1);refine Ai.mk (ih a' (by omega) hta hm1 hs1 st45 (by omega) (by first | omega | (simp only [UL];omega))) ?_;rintro _ H5 ⟨rfl,a5,c5,st5⟩;obtain⟨A5,hA5⟩:∃A,A=AI sub a' (n+1):=⟨_,rfl⟩;rw [←hA5]at i5 st5 ⊢;refine ldN (cs:=reL (.slice na ns.length nc) root) Dd ((st5.blk 3 rfl).cells fun j v hv=>by rw [UM];exact hv) trivial ?_;refine fa Dr ?_;refine ld1 (v:=.int .i64 d.r) ct3 (by rw [(st5.blk 2 rfl).cell,UM];exact Hi d) trivial ?_;(conv=>whnf);rw [hl2];have i6:=EV hm2 hs2 (n+1+A5.u);refine Ai.mk (ih b' (by omega) htb hm2 hs2 st5 (by omega) (by first | omega | (simp only [UL];omega))) ?_;rintro _ H6 ⟨rfl,a6,c6,st6⟩;obtain⟨A6,hA6⟩:∃A,A=AI sub b' (n+1+A5.u):=⟨_,rfl⟩;rw [←hA6]at i6 st6 ⊢;refine fa Cc ?_;refine ld1 (v:=.int .i64 ((n+1+A5.u+A6.u:Nat):Int)) ct3 (by rw [(st6.blk 0 rfl).cell];rfl) trivial ?_;refine fa Cc ?_;refine ld1 (v:=.int .i64 ((n+1+A5.u+A6.u:Nat):Int)) ct3 (by rw [(st6.blk 0 rfl).cell];rfl) trivial ?_;(conv=>whnf);rw [w64 (x:=((n+1+A5.u+A6.u:Nat):Int)+1) (by omega) (by omega),show((n+1+A5.u+A6.u:Nat):Int)+1=((n+1+A5.u+A6.u+1:Nat):Int) by omega];refine fa Cc (AG st6 0 ct3 rfl (show 0<4 by decide) rfl fun H7 st7=>?_);refine Ed st7 (by omega) (by omega) (by first | omega | (simp only [UL,UQ,UO];omega)) fun a8 c8 H8 st8=>?_;refine Ed st8 (by omega) (by omega) (by first | omega | (simp only [UL,UQ,UO];omega)) fun a9 c9 H9 st9=>?_;refine Ed st9 (by omega) (by omega) (by first | omega | (simp only [UL,UQ,UO];omega)) fun a10 c10 H10 st10=>?_;refine Ed st10 (by omega) (by omega) (by first | omega | (simp only [UL,UQ,UO];omega)) fun a11 c11 H11 st11=>?_;(conv=>whnf);have e1:AI sub (.alt a' b') n=KS n A5 A6:=by simp only [AI];rw [←hA5,←hA6]
   rw [e1];refine⟨rfl,a11,c11,?_⟩;have e2:es++A5.es++A6.es++[AA n A5.p]++[AA n A6.p]++[AA A5.q (n+1+A5.u+A6.u)]++[AA A6.q (n+1+A5.u+A6.u)]=es++(KS n A5 A6).es:=by simp [KS]
   have e3:n+1+A5.u+A6.u+1=n+(KS n A5 A6).u:=by simp [KS];omega
   rw [e2,e3]at st11;exact st11.pickN 4 [0,1] (by decide)
 | @star a' _ j d' _ hd' hl1 hm1=>
   obtain rfl:d=d':=by rw [hd]at hd';exact Vd.inj hd'
   have hta:Bc ns a' j:=by
    obtain⟨e1,j',he,-,g1,h⟩:=ht;rw [hd]at he;cases he;rw [hl1]at g1;have e:j=j':=by omega
    rw [e];exact h
   simp only [ReM.nodes,Ve]at hN hn hbd;rw [show d.op=4 from hop];refine fa Cc ?_;refine ld1 (v:=.int .i64 ((n:Nat):Int)) ct3 (by rw [(st4.blk 0 rfl).cell];rfl) trivial ?_;(conv=>whnf);rw [w64 (x:=((n:Nat):Int)+1) (by omega) (by omega),show((n:Nat):Int)+1=((n+1:Nat):Int) by omega];refine fa Cc (AG st4 0 ct3 rfl (show 0<4 by decide) rfl fun H45 st45=>?_);refine ldN (cs:=reL (.slice na ns.length nc) root) Dd ((st45.blk 3 rfl).cells fun j v hv=>by rw [UM];exact hv) trivial ?_;refine fa BJ ?_;refine ld1 (v:=.int .i64 d.l) ct3 (by rw [(st45.blk 2 rfl).cell,UM];exact Ea d) trivial ?_;(conv=>whnf);rw [hl1];have i5:=EV hm1 hsub (n+1);refine Ai.mk (ih a' (by omega) hta hm1 hsub st45 (by omega) (by first | omega | (simp only [UL];omega))) ?_;rintro _ H5 ⟨rfl,a5,c5,st5⟩;obtain⟨A5,hA5⟩:∃A,A=AI sub a' (n+1):=⟨_,rfl⟩;rw [←hA5]at i5 st5 ⊢;refine fa Cc ?_;refine ld1 (v:=.int .i64 ((n+1+A5.u:Nat):Int)) ct3 (by rw [(st5.blk 0 rfl).cell];rfl) trivial ?_;refine fa Cc ?_;refine ld1 (v:=.int .i64 ((n+1+A5.u:Nat):Int)) ct3 (by rw [(st5.blk 0 rfl).cell];rfl) trivial ?_;(conv=>whnf);rw [w64 (x:=((n+1+A5.u:Nat):Int)+1) (by omega) (by omega),show((n+1+A5.u:Nat):Int)+1=((n+1+A5.u+1:Nat):Int) by omega];refine fa Cc (AG st5 0 ct3 rfl (show 0<4 by decide) rfl fun H7 st7=>?_);refine Ed st7 (by omega) (by omega) (by first | omega | (simp only [UL,UQ,UO];omega)) fun a8 c8 H8 st8=>?_;refine Ed st8 (by omega) (by omega) (by first | omega | (simp only [UL,UQ,UO];omega)) fun a9 c9 H9 st9=>?_;refine Ed st9 (by omega) (by omega) (by first | omega | (simp only [UL,UQ,UO];omega)) fun a10 c10 H10 st10=>?_;refine Ed st10 (by omega) (by omega) (by first | omega | (simp only [UL,UQ,UO];omega)) fun a11 c11 H11 st11=>?_;(conv=>whnf);have e1:AI sub (.star a') n=IQ n A5:=by simp only [AI];rw [←hA5]
   rw [e1];refine⟨rfl,a11,c11,?_⟩;have e2:es++A5.es++[AA n A5.p]++[AA n (n+1+A5.u)]++[AA A5.q A5.p]++[AA A5.q (n+1+A5.u)]=es++(IQ n A5).es:=by simp [IQ]
   have e3:n+1+A5.u+1=n+(IQ n A5).u:=by simp [IQ];omega
   rw [e2,e3]at st11;exact st11.pickN 4 [0,1] (by decide)
 | @and_ a' b' _ _=>
   rw [show d.op=5 from hop];obtain⟨⟨T,hT,hfirst⟩,hw,hel⟩:=hsub _ (Vg.2 rfl);dsimp only at hT hfirst hw hel;obtain⟨hws,hwf,hall⟩:=Dc.1 hw;obtain⟨s0,f0,u,hs0,hf0,hu,k1,k2,k3⟩:=HO hw;have e1:AI sub (.and_ a' b') n=⟨n+s0,n+f0,u,(sub (.and_ a' b')).edges.map (shE n)⟩:=by simp only [AI,hs0,hf0,hu,Vk]
   rw [e1];simp only [ReM.nodes,Ve]at hn hbd;generalize sub (.and_ a' b')=A at hT hfirst hw hel hws hwf hall hs0 hf0 hu ⊢;have hTl:=(UU.1 hT).1;(conv=>whnf);refine AH.mk [24] (fun t:Nat=>[.int .i64 (t:Int)]) (fun t G=>t≤T∧StB B H0 G (dbP bb n a c es (pB 94 x (rnL d)::pB 32 p (reL (.slice na ns.length nc) root)::rest))) (fun t _=>T - t) ?_ ?_
   ·(conv=>whnf);exact⟨0,rfl,Va _,st4⟩
   ·clear st4;rintro t H5 junk5 ⟨htT,st5⟩;have dlt:decide ((t:Int)<(xs.length:Int))=true:=decide_eq_true (by omega);(conv=>whnf);rw [dlt];obtain⟨y,hy⟩:=Bw (l:=xs) (k:=t) (by omega);refine ixr (i:=t) Pr (hxs.frame st5.old) hy rfl ?_;rintro b6 o6 c6 hS6 hc6 ⟨ea,ec,rfl,hyl,hyd⟩;refine fa PV (ld1 (v:=.int .i64 (y.1:Int)) ct3 (hc6 0 _ rfl) trivial ?_);by_cases hTt:t=T
    ·subst hTt;obtain rfl:y=(i,A):=by rw [hT]at hy;exact(Vd.inj hy).symm
     have dq:((i:Int)==(i:Int))=true:=beq_self_eq_true _;(conv=>whnf);rw [dq];refine ixr (i:=t) Pr (hxs.frame st5.old) hT rfl ?_;rintro b7 o7 c7 hS7 hc7 ⟨ea',ec',rfl,-,hyd'⟩;refine fa PW ?_;refine ldN (cs:=nfL A (.slice ea' A.edges.length ec')) LT (fun j v hv=>by have:=hc7 (j+1) v hv;rwa [show o7+(j+1)=o7+1+j by omega]at this) trivial ?_;refine Ag _ [.int .i64 0,.int .i64 0,.int .i64 0,.slice none 0 0] Ih rfl ?_;intro z H8 hz hs8 hb8 ha8;have st8:=(st5.box hz hs8 hb8 ha8).perm (US _ _);refine Ay (cs:=nfL A (.slice ea' A.edges.length ec')) st8 0 rfl rfl (UP _) rfl fun H9 st9=>?_;rw [Ae (show(nfL A (.slice ea' A.edges.length ec')).length=4 from rfl)]at st9;replace st9:StB B H0 H9 (dbP bb n a c es (pB 42 z (nfL A (.slice ea' A.edges.length ec'))::rest)):=st9.pickN 5 [1,2,0] (by decide);have ho5:=st5.old;clear st5 st8;refine As.heldZ (Old H9) [9] (sq [0,1,2,3,4,5,6,7,8] (.f 9 .e)) rfl (by kernel_rfl) (fa Cc ?_);refine ld1 (v:=.int .i64 (n:Int)) ct3 (by rw [(st9.blk 0 rfl).cell];rfl) (st9.in_ 0 rfl rfl).2 ?_;refine fa Cc ?_;refine ld1 (v:=.int .i64 (u:Int)) ct3 (by rw [(st9.blk 2 rfl).cell,←hu];rfl) (st9.in_ 2 rfl rfl).2 ?_;(conv=>whnf);rw [w64 (x:=(n:Int)+(u:Int)) (by omega) (by omega),show(n:Int)+(u:Int)=((n+u:Nat):Int) by omega];refine fa Cc (AG st9 0 ct3 rfl (show 0<4 by decide) rfl fun H10 st10=>?_);replace st10:StB B H0 H10 (dbP bb (n+u) a c (es++(A.edges.take 0).map (shE n)) (pB 42 z (nfL A (.slice ea' A.edges.length ec'))::rest)):=by
      rw [V9,List.map_nil,UZ];exact st10
     clear st9;(conv=>whnf);refine AH.mk [26] (fun k:Nat=>[.int .i64 (k:Int)]) (fun k G=>k≤A.edges.length∧∃a1 c1,StB B H0 G (dbP bb (n+u) a1 c1 (es++(A.edges.take k).map (shE n)) (pB 42 z (nfL A (.slice ea' A.edges.length ec'))::rest))) (fun k _=>A.edges.length - k) ?_ ?_
     ·(conv=>whnf);exact⟨0,rfl,Va _,a,c,st10⟩
     ·clear st10;rintro k G junk ⟨hk,a1,c1,sg⟩;refine fa CY ?_;refine ld1 (v:=.slice ea' A.edges.length ec') Gr (by rw [(sg.blk 2 rfl).cell];rfl) trivial ?_;refine AQ.mk (fun hz=>?_) (fun hz=>?_)<;>simp only [decide_eq_true_eq,decide_eq_false_iff_not]at hz
      ·obtain⟨e,he⟩:=Bw (l:=A.edges) (k:=k) (by omega);have hem:e∈A.edges:=Vi he;have hfr:=NfM.has_iff.1 (hall e hem).1;have hto:=NfM.has_iff.1 (hall e hem).2;have hesl:(es++(A.edges.take k).map (shE n)).length=es.length+k:=by simp;omega
       refine fa CY ?_;refine ld1 (v:=.slice ea' A.edges.length ec') Gr (by rw [(sg.blk 2 rfl).cell];rfl) trivial ?_;refine ixr (i:=k) IB (hyd'.frame (fun k hk=>(sg.old k hk).trans (ho5 k hk).symm)) he rfl ?_;rintro b9 o9 c9 hS9 hc9 ⟨rfl,hok9⟩;refine ldN (cs:=C1 e) (by rw [AU];exact LS) hc9 trivial ?_;refine Ag OI ([.int .i64 0,.int .i64 0,.bool false]++UR 256 (.bool false)) FK rfl ?_;intro y G1 hy1 hs1 hb1 ha1;have sg1:=(sg.box hy1 hs1 hb1 ha1).perm (US _ _);refine Ay (cs:=C1 e) sg1 0 (by rw [AU];rfl) rfl (by rw [AU];simp) (DC e) fun G2 sg2=>?_;rw [Ae (show(C1 e).length=([Value.int .i64 0,.int .i64 0,.bool false]++UR 256 (.bool false):List Value).length by rw [AU];simp)]at sg2;clear sg1;refine fa GS ?_;refine ld1 (v:=.int .i64 e.fr) ct3 (by rw [(sg2.blk 0 rfl).cell];rfl) trivial ?_;(conv=>whnf);rw [w64 (x:=e.fr+(n:Int)) (by omega) (by omega)];refine fa GS ?_;refine AG sg2 0 ct3 rfl (by rw [AU];decide) rfl fun G3 sg3=>?_;refine fa GT ?_;refine ld1 (v:=.int .i64 e.to) ct3 (by rw [(sg3.blk 0 rfl).cell];rfl) trivial ?_;(conv=>whnf);rw [w64 (x:=e.to+(n:Int)) (by omega) (by omega)];refine fa GT ?_;refine AG sg3 0 ct3 rfl (by rw [V8,AU];decide) rfl fun G4 sg4=>?_;replace sg4:StB B H0 G4 (pB 106 y ([.int .i64 (e.fr+n),.int .i64 (e.to+n),.bool e.sil]++Ar e.set)::dbP bb (n+u) a1 c1 (es++(A.edges.take k).map (shE n)) (pB 42 z (nfL A (.slice ea' A.edges.length ec'))::rest)):=sg4;clear sg sg2 sg3;(conv=>whnf);refine Al.cut (α:=Unit) [] (fun _=>[]) (fun _ G=>StB B H0 G (pB 106 y (C1 (shE n e))::dbP bb (n+u) a1 c1 (es++(A.edges.take k).map (shE n)) (pB 42 z (nfL A (.slice ea' A.edges.length ec'))::rest))) ?_ ?_
       ·refine fa Ji ?_;refine ld1 (v:=.bool e.sil) ct4 (by rw [(sg4.blk 0 rfl).cell];rfl) trivial ?_;have hsh:C1 (shE n e)=[.int .i64 (e.fr+n),.int .i64 (e.to+n),.bool e.sil]++Ar (if e.sil then 0#256 else e.set):=rfl;rw [hsh];cases hsil:e.sil with
        | true=>
          refine CR DQ (Tryz.t92.zero.getD undef) rfl (UR 256 (.bool false)) rfl (fa Jj ?_);refine Ay (cs:=UR 256 (.bool false)) sg4 0 (by rw [UW];rfl) rfl (by rw [UL,UW,Ap];exact(by decide:0+3+256≤3+256)) (by rw [V2];rfl) fun G5 sg5=>?_;(conv=>whnf);refine⟨rfl,(),rfl,?_⟩;rw [if_pos rfl,EP];rw [hsil]at sg5;have e3:Ac ([Value.int .i64 (e.fr+n),.int .i64 (e.to+n),.bool true]++Ar e.set) (0+3) (UR 256 (.bool false))=[.int .i64 (e.fr+n),.int .i64 (e.to+n),.bool true]++UR 256 (.bool false):=by
           have:=JY (p:=[Value.int .i64 (e.fr+n),.int .i64 (e.to+n),.bool true]) (r:=Ar e.set) (o:=3) (cs:=UR 256 (.bool false)) rfl;rw [UM,this,UW,Vl (by rw [Ap];exact UP _),UZ]
          rw [e3]at sg5;exact sg5
        | false=>
          (conv=>whnf);refine⟨rfl,(),rfl,?_⟩;rw [hsil]at sg4;exact sg4
       ·rintro⟨⟩ G5 junk5 sg5;clear sg4;have hdis:=sg5.apart2 (i:=1) (j:=2) rfl rfl (by decide);have hdis2:=sg5.apart2 (i:=0) (j:=2) rfl rfl (by decide);have hb5:bb<G5.size∧¬slB (.slice a1 (es++(A.edges.take k).map (shE n)).length c1) bb:=⟨(sg5.in_ 1 rfl rfl).2,fun h=>hdis bb rfl (.inl h)⟩;have hy5:y<G5.size∧¬slB (.slice a1 (es++(A.edges.take k).map (shE n)).length c1) y:=⟨(sg5.in_ 0 rfl rfl).2,fun h=>hdis2 y rfl (.inl h)⟩;refine As.heldZ (fun k2=>k2<G5.size∧¬slB (.slice a1 (es++(A.edges.take k).map (shE n)).length c1) k2) [10] (sq [0,1,2,3,4,5] (.f 6 (.f 7 (sq [8,9] (.f 10 .e))))) rfl (by kernel_rfl) (fa CY ?_);refine ld1 (v:=.slice a1 (es++(A.edges.take k).map (shE n)).length c1) Gr (by rw [(sg5.blk 1 rfl).cell];rfl) hb5 ?_;refine ldN (cs:=C1 (shE n e)) (by rw [AU];exact LS) ((sg5.blk 0 rfl).cells fun j v hv=>by rw [UM];exact hv) hy5 ?_;refine AM IB (C1 (shE n e)) rfl (AU _) (by decide) (by decide) ?_;intro q G6 hq6 hs6 hb6 ha6;have sg6:=sg5.skip hq6 ha6;refine⟨ha6.mono fun k hk=>by have:=hk.1;omega,?_⟩;refine Hp (ys:=[shE n e]) sg6 2 IB rfl (hb6.cells (o:=0) (cs:=C1 (shE n e)) fun j v hv=>by rw [UM];exact hv) (Ty.reps_one ⟨rfl,show(shE n e).Ok from⟨⟨by show(-9223372036854775808:Int)≤e.fr+(n:Int);omega,by show e.fr+(n:Int)≤(9223372036854775807:Int);omega⟩,⟨by show(-9223372036854775808:Int)≤e.to+(n:Int);omega,by show e.to+(n:Int)≤(9223372036854775807:Int);omega⟩⟩⟩) rfl (fun u hu=>Vn.1 (DC _) u hu) (by unfold maxLen;rw [hesl];simp only [UQ,UO];omega) (by rw [hesl];simp only [UQ,UO];omega) fun a9 c9 G9 sg9 ha9=>?_;refine⟨(ha6.mono fun k hk=>by have:=hk.1;omega).trans (ha9.mono fun k hk=>⟨by have:=hk.1;omega,hk.2⟩),?_⟩;refine fa CY (AG sg9 1 Gr rfl (show 3<4 by decide) rfl fun G10 sg10=>?_);have hnx:(es++(A.edges.take k).map (shE n))++[shE n e]=es++(A.edges.take (k+1)).map (shE n):=by rw [V3,he];simp
        have el:(es++(A.edges.take k).map (shE n)).length+[shE n e].length=(es++(A.edges.take (k+1)).map (shE n)).length:=by rw [←hnx];simp;omega
        rw [el,hnx]at sg10;(conv=>whnf);rw [w64 (x:=(k:Int)+1) (by omega) (by omega)];exact⟨rfl,k+1,rfl,⟨by omega,a9,c9,sg10.sub (UX _ _)⟩,by omega⟩
      ·obtain rfl:k=A.edges.length:=by omega
       rw [Vm (UP _)]at sg;refine As.lex rfl (by kernel_rfl) (fa Li ?_);refine ld1 (v:=.int .i64 (s0:Int)) ct3 (by rw [(sg.blk 2 rfl).cell,←hs0];rfl) trivial ?_;(conv=>whnf);rw [w64 (x:=(s0:Int)+(n:Int)) (by omega) (by omega)];refine fa Lj ?_;refine ld1 (v:=.int .i64 (f0:Int)) ct3 (by rw [(sg.blk 2 rfl).cell,←hf0];rfl) trivial ?_;(conv=>whnf);rw [w64 (x:=(f0:Int)+(n:Int)) (by omega) (by omega)];(conv=>whnf);exact⟨by rw [show(s0:Int)+(n:Int)=((n+s0:Nat):Int) by omega,show(f0:Int)+(n:Int)=((n+f0:Nat):Int) by omega],a1,c1,sg.pickN 3 [0,1] (by decide)⟩
    ·have hne:y.1≠i:=hfirst t y (by omega) hy;have dq:((y.1:Int)==(i:Int))=false:=beq_eq_false_iff_ne.2 (by omega);(conv=>whnf);rw [dq];(conv=>whnf);rw [w64 (x:=(t:Int)+1) (by omega) (by omega)];exact⟨rfl,t+1,rfl,⟨by omega,st5⟩,by omega⟩
 | @minus a' b' _ _=>
   rw [show d.op=6 from hop];obtain⟨⟨T,hT,hfirst⟩,hw,hel⟩:=hsub _ (Vg.2 rfl);dsimp only at hT hfirst hw hel;obtain⟨hws,hwf,hall⟩:=Dc.1 hw;obtain⟨s0,f0,u,hs0,hf0,hu,k1,k2,k3⟩:=HO hw;have e1:AI sub (.minus a' b') n=⟨n+s0,n+f0,u,(sub (.minus a' b')).edges.map (shE n)⟩:=by simp only [AI,hs0,hf0,hu,Vk]
   rw [e1];simp only [ReM.nodes,Ve]at hn hbd;generalize sub (.minus a' b')=A at hT hfirst hw hel hws hwf hall hs0 hf0 hu ⊢;have hTl:=(UU.1 hT).1;(conv=>whnf);refine AH.mk [24] (fun t:Nat=>[.int .i64 (t:Int)]) (fun t G=>t≤T∧StB B H0 G (dbP bb n a c es (pB 94 x (rnL d)::pB 32 p (reL (.slice na ns.length nc) root)::rest))) (fun t _=>T - t) ?_ ?_
   ·(conv=>whnf);exact⟨0,rfl,Va _,st4⟩
   ·clear st4;rintro t H5 junk5 ⟨htT,st5⟩;have dlt:decide ((t:Int)<(xs.length:Int))=true:=decide_eq_true (by omega);(conv=>whnf);rw [dlt];obtain⟨y,hy⟩:=Bw (l:=xs) (k:=t) (by omega);refine ixr (i:=t) Pr (hxs.frame st5.old) hy rfl ?_;rintro b6 o6 c6 hS6 hc6 ⟨ea,ec,rfl,hyl,hyd⟩;refine fa PV (ld1 (v:=.int .i64 (y.1:Int)) ct3 (hc6 0 _ rfl) trivial ?_);by_cases hTt:t=T
    ·subst hTt;obtain rfl:y=(i,A):=by rw [hT]at hy;exact(Vd.inj hy).symm
     have dq:((i:Int)==(i:Int))=true:=beq_self_eq_true _;(conv=>whnf);rw [dq];refine ixr (i:=t) Pr (hxs.frame st5.old) hT rfl ?_;rintro b7 o7 c7 hS7 hc7 ⟨ea',ec',rfl,-,hyd'⟩;refine fa PW ?_;refine ldN (cs:=nfL A (.slice ea' A.edges.length ec')) LT (fun j v hv=>by have:=hc7 (j+1) v hv;rwa [show o7+(j+1)=o7+1+j by omega]at this) trivial ?_;refine Ag _ [.int .i64 0,.int .i64 0,.int .i64 0,.slice none 0 0] Ih rfl ?_;intro z H8 hz hs8 hb8 ha8;have st8:=(st5.box hz hs8 hb8 ha8).perm (US _ _);refine Ay (cs:=nfL A (.slice ea' A.edges.length ec')) st8 0 rfl rfl (UP _) rfl fun H9 st9=>?_;rw [Ae (show(nfL A (.slice ea' A.edges.length ec')).length=4 from rfl)]at st9;replace st9:StB B H0 H9 (dbP bb n a c es (pB 42 z (nfL A (.slice ea' A.edges.length ec'))::rest)):=st9.pickN 5 [1,2,0] (by decide);have ho5:=st5.old;clear st5 st8;refine As.heldZ (Old H9) [9] (sq [0,1,2,3,4,5,6,7,8] (.f 9 .e)) rfl (by kernel_rfl) (fa Cc ?_);refine ld1 (v:=.int .i64 (n:Int)) ct3 (by rw [(st9.blk 0 rfl).cell];rfl) (st9.in_ 0 rfl rfl).2 ?_;refine fa Cc ?_;refine ld1 (v:=.int .i64 (u:Int)) ct3 (by rw [(st9.blk 2 rfl).cell,←hu];rfl) (st9.in_ 2 rfl rfl).2 ?_;(conv=>whnf);rw [w64 (x:=(n:Int)+(u:Int)) (by omega) (by omega),show(n:Int)+(u:Int)=((n+u:Nat):Int) by omega];refine fa Cc (AG st9 0 ct3 rfl (show 0<4 by decide) rfl fun H10 st10=>?_);replace st10:StB B H0 H10 (dbP bb (n+u) a c (es++(A.edges.take 0).map (shE n)) (pB 42 z (nfL A (.slice ea' A.edges.length ec'))::rest)):=by
      rw [V9,List.map_nil,UZ];exact st10
     clear st9;(conv=>whnf);refine AH.mk [26] (fun k:Nat=>[.int .i64 (k:Int)]) (fun k G=>k≤A.edges.length∧∃a1 c1,StB B H0 G (dbP bb (n+u) a1 c1 (es++(A.edges.take k).map (shE n)) (pB 42 z (nfL A (.slice ea' A.edges.length ec'))::rest))) (fun k _=>A.edges.length - k) ?_ ?_
     ·(conv=>whnf);exact⟨0,rfl,Va _,a,c,st10⟩
     ·clear st10;rintro k G junk ⟨hk,a1,c1,sg⟩;refine fa CY ?_;refine ld1 (v:=.slice ea' A.edges.length ec') Gr (by rw [(sg.blk 2 rfl).cell];rfl) trivial ?_;refine AQ.mk (fun hz=>?_) (fun hz=>?_)<;>simp only [decide_eq_true_eq,decide_eq_false_iff_not]at hz
      ·obtain⟨e,he⟩:=Bw (l:=A.edges) (k:=k) (by omega);have hem:e∈A.edges:=Vi he;have hfr:=NfM.has_iff.1 (hall e hem).1;have hto:=NfM.has_iff.1 (hall e hem).2;have hesl:(es++(A.edges.take k).map (shE n)).length=es.length+k:=by simp;omega
       refine fa CY ?_;refine ld1 (v:=.slice ea' A.edges.length ec') Gr (by rw [(sg.blk 2 rfl).cell];rfl) trivial ?_;refine ixr (i:=k) IB (hyd'.frame (fun k hk=>(sg.old k hk).trans (ho5 k hk).symm)) he rfl ?_;rintro b9 o9 c9 hS9 hc9 ⟨rfl,hok9⟩;refine ldN (cs:=C1 e) (by rw [AU];exact LS) hc9 trivial ?_;refine Ag OI ([.int .i64 0,.int .i64 0,.bool false]++UR 256 (.bool false)) FK rfl ?_;intro y G1 hy1 hs1 hb1 ha1;have sg1:=(sg.box hy1 hs1 hb1 ha1).perm (US _ _);refine Ay (cs:=C1 e) sg1 0 (by rw [AU];rfl) rfl (by rw [AU];simp) (DC e) fun G2 sg2=>?_;rw [Ae (show(C1 e).length=([Value.int .i64 0,.int .i64 0,.bool false]++UR 256 (.bool false):List Value).length by rw [AU];simp)]at sg2;clear sg1;refine fa GS ?_;refine ld1 (v:=.int .i64 e.fr) ct3 (by rw [(sg2.blk 0 rfl).cell];rfl) trivial ?_;(conv=>whnf);rw [w64 (x:=e.fr+(n:Int)) (by omega) (by omega)];refine fa GS ?_;refine AG sg2 0 ct3 rfl (by rw [AU];decide) rfl fun G3 sg3=>?_;refine fa GT ?_;refine ld1 (v:=.int .i64 e.to) ct3 (by rw [(sg3.blk 0 rfl).cell];rfl) trivial ?_;(conv=>whnf);rw [w64 (x:=e.to+(n:Int)) (by omega) (by omega)];refine fa GT ?_;refine AG sg3 0 ct3 rfl (by rw [V8,AU];decide) rfl fun G4 sg4=>?_;replace sg4:StB B H0 G4 (pB 106 y ([.int .i64 (e.fr+n),.int .i64 (e.to+n),.bool e.sil]++Ar e.set)::dbP bb (n+u) a1 c1 (es++(A.edges.take k).map (shE n)) (pB 42 z (nfL A (.slice ea' A.edges.length ec'))::rest)):=sg4;clear sg sg2 sg3;(conv=>whnf);refine Al.cut (α:=Unit) [] (fun _=>[]) (fun _ G=>StB B H0 G (pB 106 y (C1 (shE n e))::dbP bb (n+u) a1 c1 (es++(A.edges.take k).map (shE n)) (pB 42 z (nfL A (.slice ea' A.edges.length ec'))::rest))) ?_ ?_
       ·refine fa Ji ?_;refine ld1 (v:=.bool e.sil) ct4 (by rw [(sg4.blk 0 rfl).cell];rfl) trivial ?_;have hsh:C1 (shE n e)=[.int .i64 (e.fr+n),.int .i64 (e.to+n),.bool e.sil]++Ar (if e.sil then 0#256 else e.set):=rfl;rw [hsh];cases hsil:e.sil with
        | true=>
          refine CR DQ (Tryz.t92.zero.getD undef) rfl (UR 256 (.bool false)) rfl (fa Jj ?_);refine Ay (cs:=UR 256 (.bool false)) sg4 0 (by rw [UW];rfl) rfl (by rw [UL,UW,Ap];exact(by decide:0+3+256≤3+256)) (by rw [V2];rfl) fun G5 sg5=>?_;(conv=>whnf);refine⟨rfl,(),rfl,?_⟩;rw [if_pos rfl,EP];rw [hsil]at sg5;have e3:Ac ([Value.int .i64 (e.fr+n),.int .i64 (e.to+n),.bool true]++Ar e.set) (0+3) (UR 256 (.bool false))=[.int .i64 (e.fr+n),.int .i64 (e.to+n),.bool true]++UR 256 (.bool false):=by
           have:=JY (p:=[Value.int .i64 (e.fr+n),.int .i64 (e.to+n),.bool true]) (r:=Ar e.set) (o:=3) (cs:=UR 256 (.bool false)) rfl;rw [UM,this,UW,Vl (by rw [Ap];exact UP _),UZ]
          rw [e3]at sg5;exact sg5
        | false=>
          (conv=>whnf);refine⟨rfl,(),rfl,?_⟩;rw [hsil]at sg4;exact sg4
       ·rintro⟨⟩ G5 junk5 sg5;clear sg4;have hdis:=sg5.apart2 (i:=1) (j:=2) rfl rfl (by decide);have hdis2:=sg5.apart2 (i:=0) (j:=2) rfl rfl (by decide);have hb5:bb<G5.size∧¬slB (.slice a1 (es++(A.edges.take k).map (shE n)).length c1) bb:=⟨(sg5.in_ 1 rfl rfl).2,fun h=>hdis bb rfl (.inl h)⟩;have hy5:y<G5.size∧¬slB (.slice a1 (es++(A.edges.take k).map (shE n)).length c1) y:=⟨(sg5.in_ 0 rfl rfl).2,fun h=>hdis2 y rfl (.inl h)⟩;refine As.heldZ (fun k2=>k2<G5.size∧¬slB (.slice a1 (es++(A.edges.take k).map (shE n)).length c1) k2) [10] (sq [0,1,2,3,4,5] (.f 6 (.f 7 (sq [8,9] (.f 10 .e))))) rfl (by kernel_rfl) (fa CY ?_);refine ld1 (v:=.slice a1 (es++(A.edges.take k).map (shE n)).length c1) Gr (by rw [(sg5.blk 1 rfl).cell];rfl) hb5 ?_;refine ldN (cs:=C1 (shE n e)) (by rw [AU];exact LS) ((sg5.blk 0 rfl).cells fun j v hv=>by rw [UM];exact hv) hy5 ?_;refine AM IB (C1 (shE n e)) rfl (AU _) (by decide) (by decide) ?_;intro q G6 hq6 hs6 hb6 ha6;have sg6:=sg5.skip hq6 ha6;refine⟨ha6.mono fun k hk=>by have:=hk.1;omega,?_⟩;refine Hp (ys:=[shE n e]) sg6 2 IB rfl (hb6.cells (o:=0) (cs:=C1 (shE n e)) fun j v hv=>by rw [UM];exact hv) (Ty.reps_one ⟨rfl,show(shE n e).Ok from⟨⟨by show(-9223372036854775808:Int)≤e.fr+(n:Int);omega,by show e.fr+(n:Int)≤(9223372036854775807:Int);omega⟩,⟨by show(-9223372036854775808:Int)≤e.to+(n:Int);omega,by show e.to+(n:Int)≤(9223372036854775807:Int);omega⟩⟩⟩) rfl (fun u hu=>Vn.1 (DC _) u hu) (by unfold maxLen;rw [hesl];simp only [UQ,UO];omega) (by rw [hesl];simp only [UQ,UO];omega) fun a9 c9 G9 sg9 ha9=>?_;refine⟨(ha6.mono fun k hk=>by have:=hk.1;omega).trans (ha9.mono fun k hk=>⟨by have:=hk.1;omega,hk.2⟩),?_⟩;refine fa CY (AG sg9 1 Gr rfl (show 3<4 by decide) rfl fun G10 sg10=>?_);have hnx:(es++(A.edges.take k).map (shE n))++[shE n e]=es++(A.edges.take (k+1)).map (shE n):=by rw [V3,he];simp
        have el:(es++(A.edges.take k).map (shE n)).length+[shE n e].length=(es++(A.edges.take (k+1)).map (shE n)).length:=by rw [←hnx];simp;omega
        rw [el,hnx]at sg10;(conv=>whnf);rw [w64 (x:=(k:Int)+1) (by omega) (by omega)];exact⟨rfl,k+1,rfl,⟨by omega,a9,c9,sg10.sub (UX _ _)⟩,by omega⟩
      ·obtain rfl:k=A.edges.length:=by omega
       rw [Vm (UP _)]at sg;refine As.lex rfl (by kernel_rfl) (fa Li ?_);refine ld1 (v:=.int .i64 (s0:Int)) ct3 (by rw [(sg.blk 2 rfl).cell,←hs0];rfl) trivial ?_;(conv=>whnf);rw [w64 (x:=(s0:Int)+(n:Int)) (by omega) (by omega)];refine fa Lj ?_;refine ld1 (v:=.int .i64 (f0:Int)) ct3 (by rw [(sg.blk 2 rfl).cell,←hf0];rfl) trivial ?_;(conv=>whnf);rw [w64 (x:=(f0:Int)+(n:Int)) (by omega) (by omega)];(conv=>whnf);exact⟨by rw [show(s0:Int)+(n:Int)=((n+s0:Nat):Int) by omega,show(f0:Int)+(n:Int)=((n+f0:Nat):Int) by omega],a1,c1,sg.pickN 3 [0,1] (by decide)⟩
    ·have hne:y.1≠i:=hfirst t y (by omega) hy;have dq:((y.1:Int)==(i:Int))=false:=beq_eq_false_iff_ne.2 (by omega);(conv=>whnf);rw [dq];(conv=>whnf);rw [w64 (x:=(t:Int)+1) (by omega) (by omega)];exact⟨rfl,t+1,rfl,⟨by omega,st5⟩,by omega⟩
def nfU(sub:ReM→NfM)(r:ReM):NfM:=⟨((AI sub r 0).u:Nat),((AI sub r 0).p:Nat),((AI sub r 0).q:Nat),(AI sub r 0).es⟩
def NM(sub:ReM→NfM)(r:ReM)(H H':Aa)(u:Value):Prop:=
 if 65536<(AI sub r 0).u then∃l:List Value,l.length=4∧l.all (·.oneCell')=true∧u= .tuple #[.agg l.toArray,.int .i64 40]
 else∃ea ec,u= .tuple #[.agg (nfL (nfU sub r) (.slice ea (nfU sub r).edges.length ec)).toArray,.int .i64 0]∧SlO Hk none_ H' H.size 106 (.slice ea (nfU sub r).edges.length ec) (nfU sub r).edges
abbrev Kk:List Value:=[.int .i64 0,.int .i64 0,.int .i64 0,.slice none 0 0]
theorem Rn{S:Nat→Prop}{H:Aa}{v:Value}{ns:List RnM}{root:Int}{r:ReM}{i:Nat}{l:List (ReM×Nat)}{sub:ReM→NfM}{xs:List (Nat×NfM)}{sa:Option Addr}{sc:Nat}(hn:r.nodes≤2000)(hS:∀k,S k→k<H.size)(hv:ReV S H v ns root)(hxs:SlD RR S H sa sc xs)(hxl:xs.length≤4194304)(ht:Bc ns r i)(hm:CV ns r i l)(hsub:FF sub xs l):
  Ao Tryz.prog 21 #[v,.int .i64 (i:Int),.slice sa xs.length sc] H fun u H'=>Agr (Old H) H H'∧NM sub r H H' u:=by
 obtain⟨-,-,-,-,hu,hlen⟩:=EV hm hsub 0;have hu2:(AI sub r 0).u≤131072000:=by omega
 obtain⟨hl,na,nc,rfl,h1⟩:=hv;refine Ao.of_vc Tryz.func21 rfl (Tryz.call21 _) (BM (reL (.slice na ns.length nc) root) rfl ?_);intro p H1 hp hs1 hb1 ha1;have st1:=(St.nil H).box hp hs1 hb1 ha1;refine Ag _ Kk Ih rfl ?_;intro y H2 hy hs2 hb2 ha2;have st2:=st1.box hy hs2 hb2 ha2;refine Av Tryz.underlying42 rfl _ Ih (dbL 0 (.slice none 0 0)) rfl (BM (dbL 0 (.slice none 0 0)) rfl ?_);intro bb H3 hbb hs3 hb3 ha3;have st3:St H H3 (dbP bb 0 none 0 [] [pB 32 p (reL (.slice na ns.length nc) root),pB tDb y Kk]):=((st2.box hbb hs3 hb3 ha3).nils Hk 106).pick [2,3,0,1] (by decide);refine ldN (cs:=reL (.slice na ns.length nc) root) Dd ((st3.blk 2 rfl).cells fun j v hv=>by rw [UM];exact hv) trivial ?_;have hv0:ReV (Old H) H (.agg (reL (.slice na ns.length nc) root).toArray) ns root:=⟨hl,na,nc,rfl,h1.mono fun k hk=>hS k hk⟩;refine Ai.mk (Qv (n:=0) (es:=[]) hv0 (hxs.mono fun k hk=>hS k hk) hxl r.nodes r (UP _) ht hm hsub st3 (by omega) (by simp only [UO];omega)) ?_;rintro _ H4 ⟨rfl,a4,c4,st4⟩;rw [Vv,UM]at st4;refine fa Cc ?_;refine ld1 (v:=.int .i64 ((AI sub r 0).u:Int)) ct3 (by rw [(st4.blk 0 rfl).cell];rfl) trivial ?_;by_cases h6:65536<(AI sub r 0).u
 ·have d2:decide ((65536:Int)<((AI sub r 0).u:Int))=true:=decide_eq_true (by omega);(conv=>whnf);rw [d2];refine Av Tryz.underlying42 rfl _ Ih Kk rfl (Ay (cs:=Kk) st4 3 rfl rfl (UP _) rfl fun H7 st7=>?_);rw [Ae (show Kk.length=Kk.length from rfl)]at st7;refine ldN (cs:=Kk) LT ((st7.blk 3 rfl).cells fun j v hv=>by rw [UM];exact hv) trivial ?_;(conv=>whnf);refine⟨st7.old,?_⟩;unfold NM;rw [if_pos h6];exact⟨Kk,rfl,rfl,rfl⟩
 ·have d2:decide ((65536:Int)<((AI sub r 0).u:Int))=false:=decide_eq_false (by omega);(conv=>whnf);rw [d2];refine fa Li (AG st4 0 ct3 rfl (show 1<4 by decide) rfl fun H5 st5=>(fa Lj (AG st5 0 ct3 rfl (show 2<4 by decide) rfl fun H6 st6=>?_)));replace st6:St H H6 [pB tDb bb (nfL (nfU sub r) (.slice a4 (nfU sub r).edges.length c4)),pS Hk 106 a4 (nfU sub r).edges.length c4 (nfU sub r).edges,pB 32 p (reL (.slice na ns.length nc) root),pB tDb y Kk]:=st6;refine ldN (cs:=nfL (nfU sub r) (.slice a4 (nfU sub r).edges.length c4)) LT ((st6.blk 0 rfl).cells fun j v hv=>by rw [UM];exact hv) trivial ?_;refine Ay (cs:=nfL (nfU sub r) (.slice a4 (nfU sub r).edges.length c4)) st6 3 rfl rfl (UP _) rfl fun H7 st7=>?_;rw [Ae (show(nfL (nfU sub r) (.slice a4 (nfU sub r).edges.length c4)).length=Kk.length from rfl)]at st7;refine ldN (cs:=nfL (nfU sub r) (.slice a4 (nfU sub r).edges.length c4)) LT ((st7.blk 3 rfl).cells fun j v hv=>by rw [UM];exact hv) trivial ?_;(conv=>whnf);refine⟨st7.old,?_⟩;unfold NM;rw [if_neg h6];exact⟨a4,c4,rfl,St.own st7 1 rfl⟩
def metR:ReM→List ReM
 | .eps=>[]
 | .cls _=>[]
 | .cat a b=>metR a++metR b
 | .alt a b=>metR a++metR b
 | .star a=>metR a
 | .and_ a b=>[.and_ a b]
 | .minus a b=>[.minus a b]
def EN(N:NfM)(q:Int)(r:ReM)(l:List ReM):List ReM×Except Int NfM:=(l++[r],if((l.length:Int)+1)=q then .error 40 else .ok N)
def Kr{α:Type}(N:NfM)(q:Int)(m l:List ReM)(x:List ReM×Except Int α)(v:α):Prop:=
 ((m=[]∨Bh N=true)→(∀j,j<m.length→((l.length+j:Nat):Int)+1≠q)→x=(l++m,.ok v))∧
 (∀j,j<m.length→((l.length+j:Nat):Int)+1=q→(Bh N=true∨j=0)→x=(l++m.take (j+1),.error 40))∧
 (Bh N=false→m≠[]→(l.length:Int)+1≠q→x=(l++m.take 1,.error 2))
theorem FD{α:Type}{N:NfM}{q:Int}{l:List ReM}{v:α}:Kr N q [] l (l,.ok v) v:=
 ⟨fun _ _=>by rw [UZ],fun j hj=>absurd hj (Vx j),fun _ h=>absurd rfl h⟩
theorem FC{α β:Type}{N:NfM}{q:Int}{m1 m2 l:List ReM}{x:List ReM×Except Int α}{f:α→List ReM→List ReM×Except Int β}{v:α}{w:β}
  (h1:Kr N q m1 l x v) (h2:Kr N q m2 (l++m1) (f v (l++m1)) w):Kr N q (m1++m2) l (Cv x f) w:=by
 obtain⟨a1,b1,c1⟩:=h1;obtain⟨a2,b2,c2⟩:=h2;rw [UL]at a2 b2 c2;refine⟨fun hw hq=>?_,fun j hj hq hw=>?_,fun hw hm hq=>?_⟩
 ·rw [UL]at hq;have e1:=a1 (hw.imp (fun h=>(Vz.1 h).1) id) fun j hj=>hq j (by omega);rw [BY e1,a2 (hw.imp (fun h=>(Vz.1 h).2) id) fun j hj=>by have:=hq (m1.length+j) (by omega);omega,UT]
 ·rw [UL]at hj;by_cases hj1:j<m1.length
  ·rw [CW (b1 j hj1 hq hw),List.take_append_of_le_length (by omega)]
  ·have e1:=a1 (by
    rcases hw with hw | hw
    ·exact .inr hw
    ·exact .inl (List.eq_nil_of_length_eq_zero (by omega))) fun k hk=>by omega
   rw [BY e1,b2 (j - m1.length) (by omega) (by omega) (hw.imp id fun h=>by omega),UT]
   congr 2
   rw [List.take_append,Vm (show m1.length≤j+1 by omega),show j+1 - m1.length=j - m1.length+1 by omega]
 ·cases m1 with
  | nil=>
    have e1:=a1 (.inl rfl) fun k hk=>absurd hk (Vx k);rw [BY e1];rw [UZ]at c2 ⊢;exact c2 hw hm (by simpa using hq)
  | cons y ys=>
    rw [CW (c1 hw (by simp) hq)];rfl
theorem KI{N:NfM}{q:Int}{r:ReM}{n:Nat}{l:List ReM}:Kr N q [r] l (E8 (EN N q r l) n) ⟨n+N.start.toNat,n+N.fin.toNat,N.st.toNat,N.edges.map (shE n)⟩:=by
 refine⟨fun hw hq=>?_,fun j hj hq hw=>?_,fun hw hm hq=>?_⟩
 ·have h0:=hq 0 (by simp);rw [Nat.add_zero]at h0;have hw:Bh N=true:=hw.elim (fun h=>by cases h) id;unfold E8 EN Cv;rw [if_neg h0];simp only [hw,if_true]
 ·obtain rfl:j=0:=by simp only [UN]at hj;omega
  rw [Nat.add_zero]at hq;unfold E8 EN Cv;rw [if_pos hq];rfl
 ·unfold E8 EN Cv;rw [if_neg hq];simp [hw]
theorem EI(N:NfM)(q:Int):∀(r:ReM) (n:Nat) (l:List ReM),Kr N q (metR r) l (Ba (EN N q) r n l) (AI (fun _=>N) r n)
 | .eps,n,l=>FD
 | .cls _,n,l=>FD
 | .cat a b,n,l=>by
   have h:=FC (EI N q a n l) (m2:=metR b) (f:=fun A s1=>Cv (Ba (EN N q) b (n+A.u) s1) fun C s2=>(s2,.ok ⟨A.p,C.q,A.u+C.u,A.es++C.es++[AA A.q C.p]⟩)) (w:=AI (fun _=>N) (.cat a b) n) (by
    have h2:=FC (EI N q b (n+(AI (fun _=>N) a n).u) (l++metR a)) (m2:=[]) (f:=fun C s2=>(s2,(.ok (Mc (AI (fun _=>N) a n) C):Except Int BR))) (w:=AI (fun _=>N) (.cat a b) n) FD;rwa [UZ]at h2)
   exact h
 | .alt a b,n,l=>by
   have h:=FC (EI N q a (n+1) l) (m2:=metR b) (f:=fun A s1=>Cv (Ba (EN N q) b (n+1+A.u) s1) fun C s2=>(s2,.ok (KS n A C))) (w:=AI (fun _=>N) (.alt a b) n) (by
    have h2:=FC (EI N q b (n+1+(AI (fun _=>N) a (n+1)).u) (l++metR a)) (m2:=[]) (f:=fun C s2=>(s2,(.ok (KS n (AI (fun _=>N) a (n+1)) C):Except Int BR))) (w:=AI (fun _=>N) (.alt a b) n) FD;rwa [UZ]at h2)
   exact h
 | .star a,n,l=>by
   have h:=FC (EI N q a (n+1) l) (m2:=[]) (f:=fun A s1=>(s1,(.ok (IQ n A):Except Int BR))) (w:=AI (fun _=>N) (.star a) n) FD;rw [UZ]at h;exact h
 | .and_ a b,n,l=>KI
 | .minus a b,n,l=>KI
theorem CV.metR{ns:List RnM}{r:ReM}{i:Nat}{l:List (ReM×Nat)}(h:CV ns r i l):l.map (·.1)=metR r:=by
 induction h with
 | eps=>rfl
 | cls=>rfl
 | cat _ _ _ _ _ ih1 ih2=>rw [Vp,ih1,ih2];rfl
 | alt _ _ _ _ _ ih1 ih2=>rw [Vp,ih1,ih2];rfl
 | star _ _ _ ih=>rw [ih];rfl
 | and_ _=>rfl
 | minus _=>rfl
def CB(N:NfM)(q:Int)(k:Nat):Int×Nat:=
 if 0<q∧q≤((if 0<k∧Bh N=false then 1 else k:Nat):Int)then(40,q.toNat)else if 0<k∧Bh N=false then(2,1)else(0,k)
theorem PB(N:NfM)(q:Int)(r:ReM)(hn:r.nodes≤2000):
  ((CB N q (metR r).length).1=0∧(CB N q (metR r).length).2=(metR r).length∧(metR r=[]∨Bh N=true)∧Kg (EN N q) r []=(metR r,if 65536<(AI (fun _=>N) r 0).u then .error 40 else .ok (nfU (fun _=>N) r)))∨
  ((CB N q (metR r).length).1≠0∧(CB N q (metR r).length).2≤(metR r).length∧Kg (EN N q) r []=((metR r).take (CB N q (metR r).length).2,.error (CB N q (metR r).length).1)):=by
 obtain⟨sa,sb,sc⟩:=EI N q r 0 [];have hbw:∀x,Ba (EN N q) r 0 []=x→Kg (EN N q) r []=Cv x fun A s1=>if 65536<A.u then(s1,.error 40)else(s1,.ok ⟨A.u,A.p,A.q,A.es⟩):=fun x hx=>by
  unfold Kg;rw [if_neg (by omega),hx]
 simp only [UO,UM,Vv]at sa sb sc;generalize hm:metR r=m at*;have hz:∀{α:Type} {l:List α},l≠[]↔0<l.length:=fun{α l}=>by rw [List.length_pos_iff]
 by_cases hw:Bh N=true
 ·have e0:(if 0<m.length∧Bh N=false then 1 else m.length:Nat)=m.length:=if_neg fun h=>by rw [hw]at h;cases h.2
  have e1:¬(0<m.length∧Bh N=false):=fun h=>by rw [hw]at h;cases h.2
  unfold CB;rw [e0];by_cases hq:0<q∧q≤(m.length:Int)
  ·right;rw [if_pos hq];refine⟨(fun h=>by cases h),by show q.toNat≤_;omega,?_⟩;have h:=sb (q.toNat - 1) (by omega) (by omega) (.inl hw);rw [hbw _ h,show q.toNat - 1+1=q.toNat by omega];rfl
  ·left;rw [if_neg hq,if_neg e1];refine⟨rfl,rfl,.inr hw,?_⟩;have h:=sa (.inr hw) fun j hj=>by omega
   rw [hbw _ h];rw [BY rfl];split<;>rfl
 ·have hw:Bh N=false:=by cases h:Bh N<;>simp_all
  by_cases hm0:m=[]
  ·subst hm0;left;have hq:¬(0<q∧q≤((if 0<([]:List ReM).length∧Bh N=false then 1 else([]:List ReM).length:Nat):Int)):=fun h=>by have h2:=h.2;simp at h2;omega
   unfold CB;rw [if_neg hq,if_neg (by simp)];refine⟨rfl,rfl,.inl rfl,?_⟩;have h:=sa (.inl rfl) fun j hj=>absurd hj (Vx j);rw [hbw _ h];rw [BY rfl];split<;>rfl
  ·have hl:0<m.length:=hz.1 hm0;right;unfold CB;have e1:0<m.length∧Bh N=false:=⟨hl,hw⟩;rw [if_pos e1];by_cases hq:0<q∧q≤((1:Nat):Int)
   ·obtain rfl:q=1:=by omega
    rw [if_pos hq];have h:=sb 0 hl (by decide) (.inr rfl);refine⟨(fun h=>by cases h),by show(1:Int).toNat≤_;exact hl,?_⟩;rw [hbw _ h];rfl
   ·rw [if_neg hq,if_pos e1];have h:=sc hw hm0 (by omega);refine⟨(fun h=>by cases h),hl,?_⟩;rw [hbw _ h];rfl
end Go.Proofs.YtlnmhfhdjnenoaaGreatDoor
namespace Go.Proofs.YtlnmhfhdjnenoaaGreatDoor
open Go.VC Go.Lib
def LX(ab:Nat)(l:List ReM)(g:Option Addr×Nat):List Pc:=[pB 60 ab [.slice g.1 l.length g.2],pS Ko 9 g.1 l.length g.2 (l.map fun r=>bA (Am r))]
abbrev GB:List Value:=[.int .i64 0,.int .i64 0,.int .i64 0,.slice none 0 0]
theorem Rh(N:NfM)(hN:N.edges.length≤33554432)(q:Int):P4 (EN N q) 33554432 where
 len r s s' a h:=by
  unfold EN at h;injection h with h1 h2
  split at h2
  ·cases h2
  ·cases h2;exact hN
 err r s s' e h:=by
  unfold EN at h;injection h with h1 h2
  split at h2
  ·cases h2;decide
  ·cases h2
theorem S8(N:NfM)(q:Int):∀r s,((EN N q r s).1).length≤s.length+1:=fun r s=>by unfold EN;simp
theorem TG{H0:Aa}{N:NfM}{q:Int}{ab rb nb:Nat}{na:Option Addr}{nc:Nat}(hrb:Blk H0 rb 3 [.int .i64 q])(hnb:Blk H0 nb 53 (nfL N (.slice na N.edges.length nc)))(hNr:N.Rng)(hNl:N.edges.length≤33554432)(hNs:SlD tEd (Old H0) H0 na nc N.edges)(hE:DP H0)
  {r:ReM} (hr:r.nodes≤2000) {l:List ReM} {g:Option Addr×Nat} (hl:l.length<2000) {ps:List Pc} {H:Aa} (st:StB (Old H0) H0 H (ps++LX ab l g)):
  Ao Tryz.prog 17 #[Ad r,.pointer (some ⟨ab,0,none⟩),.pointer (some ⟨rb,0,none⟩),.pointer (some ⟨nb,0,none⟩)] H (Rc (Old H0) H0 33554432 ps (LX ab) (EN N q r l)):=by
 have st0:StB (Old H0) H0 H (pB 60 ab [.slice g.1 l.length g.2]::pS Ko 9 g.1 l.length g.2 (l.map fun r=>bA (Am r))::ps):=st.perm Vo;clear st;refine Ao.of_vc Tryz.func17 rfl (Tryz.call17 _) (Ag _ GB E5 rfl ?_);intro y H1 hy hs1 hb1 ha1;have st1:=(st0.box hy hs1 hb1 ha1).perm (US _ _);have hd:=st1.apart2 (i:=1) (j:=2) rfl rfl (by decide);have hab1:ab<H1.size:=(st1.in_ 1 rfl rfl).2;refine As.heldZ (fun k=>k=ab) [5] (sq [0,1] (.f 2 (.f 3 (.f 4 (.f 5 .e))))) rfl (by kernel_rfl) ?_;refine ld1 (v:=.slice g.1 l.length g.2) Lb (by rw [(st1.blk 1 rfl).cell];rfl) rfl ?_;refine Af (RD (hE.agr st1.old) (by omega)) fun H2 ha2=>?_;have st2:=st1.call ha2;have g2:Agr (fun k=>k=ab) H1 H2:=ha2.mono fun k hk=>by rw [show k=ab from hk];exact hab1
 refine⟨g2,?_⟩;refine AM QE [.string (bA (Am r))] rfl rfl (by decide) (by decide) ?_;intro z H3 hz hs3 hb3 ha3;have st3:=st2.skip hz ha3;have g3:Agr (fun k=>k=ab) H1 H3:=g2.trans (ha3.mono fun k hk=>by rw [show k=ab from hk];have:=(st2.in_ 1 rfl rfl).2;omega);refine⟨g3,?_⟩;have htl:(bA (Am r)).size≤maxLen:=by
  have:=Bi r;rw [bsz];unfold maxLen;omega
 have hxl:(l.map fun r=>bA (Am r)).length=l.length:=Vw _;refine Hp (ys:=[bA (Am r)]) st3 2 QE rfl (hb3.cells (o:=0) (cs:=[.string (bA (Am r))]) fun j v hv=>by rw [UM];exact hv) (Ty.reps_one (show Ko.rep none_ H3 _ (bA (Am r))from⟨rfl,htl⟩)) rfl (by simp [Value.oneCell']) (by rw [hxl];unfold maxLen;simp;omega) (by rw [hxl];simp;omega) fun a9 c9 H9 st9 ha9=>?_;have g9:Agr (fun k=>k=ab) H1 H9:=g3.trans (ha9.mono fun k hk=>by
  rw [show k=ab from hk];exact⟨(st3.in_ 1 rfl rfl).2,fun h=>hd ab rfl (.inl h)⟩)
 refine⟨g9,?_⟩;refine AG st9 1 Lb rfl (show 0<1 by decide) rfl fun H10 st10=>?_;have el:(l.map fun r=>bA (Am r)).length+[bA (Am r)].length=(l++[r]).length:=by simp
 have em:(l.map fun r=>bA (Am r))++[bA (Am r)]=(l++[r]).map fun r=>bA (Am r):=by simp
 rw [el,em]at st10;replace st10:StB (Old H0) H0 H10 (pB 37 y GB::pB 60 ab [.slice a9 (l++[r]).length c9]::pS Ko 9 a9 (l++[r]).length c9 ((l++[r]).map fun r=>bA (Am r))::ps):=st10;refine ld1 (v:=.slice a9 (l++[r]).length c9) Lb (by rw [(st10.blk 1 rfl).cell];rfl) trivial ?_;refine ld1 (v:=.int .i64 q) ct3 (by rw [(hrb.agr st10.old hrb.lt).cell];rfl) trivial ?_;by_cases hq:(l.length:Int)+1=q
 ·have d1:(((l++[r]).length:Int)==q)=true:=beq_iff_eq.2 (by rw [UL,UN];omega);(conv=>whnf);rw [d1];refine Av Tryz.underlying37 rfl _ E5 GB rfl (Ay (cs:=GB) st10 0 rfl rfl (UP _) rfl fun H11 st11=>?_);refine ldN (cs:=GB) Ek ((st11.blk 0 rfl).cells fun j v hv=>by rw [UM];exact hv) trivial ?_;(conv=>whnf);have e1:EN N q r l=(l++[r],.error 40):=by unfold EN;rw [if_pos hq]
  rw [e1];have st12:=st11.sub (UX _ _);exact⟨GB,rfl,rfl,rfl,(a9,c9),st12.perm (Vo (l₁:=LX ab (l++[r]) (a9,c9)) (l₂:=ps))⟩
 ·have d1:(((l++[r]).length:Int)==q)=false:=beq_eq_false_iff_ne.2 (by rw [UL,UN];omega);(conv=>whnf);rw [d1];refine Dh hNr hNl (hnb.agr st10.old hnb.lt) TD trivial (hNs.frame st10.old) fun v4 hv4=>(Ai.mk (Mw (fun k hk=>A0 st10.old hk) hv4) ?_);rintro _ H11 ⟨ha11,a3,c3,rfl,hw3⟩;obtain⟨a3',c3',e3,st11⟩:=st10.got ha11 hw3;injection e3 with e31 e32 e33
  subst e31;subst e33;refine Ay (cs:=nfL N (.slice a3 N.edges.length c3)) st11 0 rfl rfl (UP _) rfl fun H12 st12=>?_;rw [Ae (show(nfL N (.slice a3 N.edges.length c3)).length=4 from rfl)]at st12;refine ldN (cs:=nfL N (.slice a3 N.edges.length c3)) Ek ((st12.blk 0 rfl).cells fun j v hv=>by rw [UM];exact hv) trivial ?_;(conv=>whnf);have e1:EN N q r l=(l++[r],.ok N):=by unfold EN;rw [if_neg hq]
  rw [e1];refine⟨hNl,hNr,a3,c3,rfl,(a9,c9),?_⟩;have st13:=st12.sub (UX _ _);exact st13.perm ((List.Perm.append_right _ (Vo (l₁:=LX ab (l++[r]) (a9,c9)) (l₂:=ps))))
theorem GV{f:Nat→Bool}{i:Nat}(hi:i<256):(BW f)[i]? =some (.bool (f i)):=by
 unfold BW;rw [Vs,List.getElem?_range hi];rfl
def KZ(f:Nat→Bool)(n:Nat):Nat:=((List.range n).filter f).length
theorem PM(f:Nat→Bool)(n:Nat):KZ f (n+1)=KZ f n+(if f n then 1 else 0):=by
 unfold KZ;rw [List.range_succ,List.filter_append,UL];cases h:f n<;>simp [h]
theorem SB(f:Nat→Bool)(n:Nat):KZ f n≤n:=Vu (List.length_filter_le _ _) (by simp)
theorem Rk{f:Nat→Bool}{x:BitVec 256}(hx:∀i,i<256→x.getLsbD i=f i):KZ f 256=Bp x:=by
 unfold KZ Bp
 congr 1
 refine List.filter_congr fun i hi=>?_;rw [V1]at hi;exact(hx i hi).symm
theorem N2{H:Aa}{f:Nat→Bool}:Bv Tryz.prog 95 #[.agg (BW f).toArray] H (.int .i64 (KZ f 256:Int)):=by
 refine Ao.of_vc Tryz.func95 rfl (Tryz.call95 _) (BM (BW f) rfl ?_);intro p H1 hp hs1 hb1 ha1;have st1:=(St.nil H).box hp hs1 hb1 ha1;(conv=>whnf);refine AH.mk [3,4] (fun i:Nat=>[.int .i64 (KZ f i:Int),.int .i64 (i:Int)]) (fun i H2=>i≤256∧St H H2 [pB 92 p (BW f)]) (fun i _=>256 - i) ?_ ?_
 ·(conv=>whnf);exact⟨0,rfl,Va _,st1⟩
 ·rintro i H2 junk2 ⟨hi,st2⟩;refine AQ.mk (fun hz=>?_) (fun hz=>?_)<;>simp only [decide_eq_true_eq,decide_eq_false_iff_not]at hz
  ·have hle:=SB f i;have hs:=PM f i;refine Al.run (ixa DQ (by omega) (by omega) ?_);rw [show 0+(i:Int).toNat*1=i by omega];refine ld1 (v:=.bool (f i)) ct4 (by rw [(st2.blk 0 rfl).cell];exact GV (by omega)) trivial ?_;cases hf:f i with
   | true=>
     rw [hf]at hs;(conv=>whnf);rw [w64 (x:=(KZ f i:Int)+1) (by omega) (by omega)];(conv=>whnf);rw [w64 (x:=(i:Int)+1) (by omega) (by omega)];exact⟨rfl,i+1,by rw [hs];simp,⟨by omega,st2⟩,by omega⟩
   | false=>
     rw [hf]at hs;(conv=>whnf);rw [w64 (x:=(i:Int)+1) (by omega) (by omega)];exact⟨rfl,i+1,by rw [hs];simp,⟨by omega,st2⟩,by omega⟩
  ·obtain rfl:i=256:=by omega
   (conv=>whnf);exact⟨rfl,st2.old⟩
theorem Na(x:BitVec 256)(h:∀b,b<256→x.getLsbD b=false):x=0:=by
 apply BitVec.eq_of_getLsbD_eq;intro i hi;rw [h i hi];simp
theorem OO{x:BitVec 256}(h:x≠0):x.getLsbD (Et x 0).1=true∧∀b,b<(Et x 0).1→x.getLsbD b=false:=by
 unfold Et;cases hf:(List.range 256).find? fun b=>decide (0≤b)&&x.getLsbD b with
 | none=>
   exfalso;apply h;apply Na;intro b hb;have:=List.find?_eq_none.1 hf b (V1.2 hb);simpa using this
 | some c=>
   have h1:=List.find?_some hf;simp only [Va,decide_true,Bool.true_and]at h1;refine⟨h1,fun b hb=>?_⟩;have hc:c<256:=by simpa using List.mem_of_find?_eq_some hf
   obtain⟨_,i,hi,hge,hbef⟩:=List.find?_eq_some_iff_getElem.1 hf;simp only [List.getElem_range]at hge;subst hge;have:=hbef b hb;simpa using this
theorem U9{P:Program}{t:TypeId}{x y:Operand}{S:Nat→Prop}{H:Aa}{K:Value→Prop}{a b z:Bool}(h:P.underlying t=some .bool)(hz:(a != b)=z)(k:K (.bool z)):AB P (do eqGuard .neq t x y (.bool a) (.bool b);binOp .neq t (.bool a) (.bool b)) S H K:=by
 subst hz;exact J9 h k
theorem eqZ{P:Program}{t:TypeId}{x y:Operand}{S:Nat→Prop}{H:Aa}{K:Value→Prop}{a b z:Bool}(h:P.underlying t=some .bool)(hz:(a==b)=z)(k:K (.bool z)):AB P (do eqGuard .eql t x y (.bool a) (.bool b);binOp .eql t (.bool a) (.bool b)) S H K:=by
 subst hz;exact TI h k
theorem Jc{t:Nat→Bool}{i j:Nat}(hi:t i=true)(hp:i=0∨t (i - 1)=false)(h1:i≤j)(h2:j≤255)(h:∀k,i<k→k≤j→t k=true)(he:j=255∨t (j+1)=false):EA t (i+1)=EA t i++EY i j:=by
 rw [Fy]
 congr 1
 unfold L7;have e:(decide (0<i)&&t (i - 1))=false:=by
  rcases hp with rfl | hp
  ·rfl
  ·rw [hp];simp
 rw [hi,e,Sv h1 h2 h he];rfl
theorem PR{x:BitVec 256}{i:Nat}(hi:x.getLsbD i=true)(hno:∀j,j<i→x.getLsbD j=false):(Et x 0).1=i:=by
 have hx:x≠0:=fun e=>by rw [e]at hi;simp at hi
 obtain⟨h1,h2⟩:=OO hx;rcases Nat.lt_trichotomy (Et x 0).1 i with h | h | h
 ·rw [hno _ h]at h1;cases h1
 ·exact h
 ·rw [h2 _ h]at hi;cases hi
theorem Pk{H:Aa}{f:Nat→Bool}{x:BitVec 256}(hx:∀i,i<256→x.getLsbD i=f i):Bv Tryz.prog 76 #[.agg (BW f).toArray] H (.string (bA (Ge x))):=by
 refine Ao.of_vc Tryz.func76 rfl (Tryz.call76 _) ?_;have hld:∀{G:Aa} {p:Nat},Blk G p 92 (BW f)→Bo G p 0 (BW f):=fun h=>h.cells fun j v hv=>by rw [UM];exact hv
 refine BM (BW f) rfl ?_;intro p H1 hp hs1 hb1 ha1;have st1:=(St.nil H).box hp hs1 hb1 ha1;refine ldN (cs:=BW f) Kf (hld (st1.blk 0 rfl)) trivial (Af (N2 (f:=f)) fun H2 ha2=>?_);have st2:=st1.call ha2;rw [Rk hx];by_cases h1:Bp x=1
 ·have d1:((Bp x:Int)==1)=true:=by rw [h1];rfl
  have hsh:Ge x=Cy (Et x 0).1 (spB Da (Et x 0).1):=if_pos h1;refine Al.run ?_;(conv=>whnf);rw [d1];(conv=>whnf);refine AH.mk [4] (fun i:Nat=>[.int .i64 (i:Int)]) (fun i H3=>i≤256∧(∀j,j<i→x.getLsbD j=false)∧St H H3 [pB 92 p (BW f)]) (fun i _=>256 - i) ?_ ?_
  ·(conv=>whnf);exact⟨0,rfl,Va _,fun j hj=>by omega,st2⟩
  ·rintro i H3 junk3 ⟨hi,hno,st3⟩;refine AQ.mk (fun hz=>?_) (fun hz=>?_)<;>simp only [decide_eq_true_eq,decide_eq_false_iff_not]at hz
   ·have hi8:i<256:=by omega
    refine ixa DQ (by omega) (by omega) ?_;rw [show 0+(i:Int).toNat*1=i by omega];refine ld1 (v:=.bool (f i)) ct4 (by rw [(st3.blk 0 rfl).cell];exact GV hi8) trivial ?_;cases hf:f i with
    | true=>
      have hn:=PR ((hx i hi8).trans hf) hno;(conv=>whnf);rw [w8 (x:=(i:Int)) (by omega) (by omega)];refine Af (KJ hi8) fun H4 ha4=>?_;have st4:=st3.call ha4;refine Af (F5 hi8) fun H5 ha5=>?_;(conv=>whnf);rw [hsh,hn];exact⟨rfl,(st4.call ha5).old⟩
    | false=>
      (conv=>whnf);rw [w64 (x:=(i:Int)+1) (by omega) (by omega)];refine⟨rfl,i+1,by simp,⟨by omega,fun j hj=>?_,st3⟩,by omega⟩;rcases Vr (Nat.le_of_lt_succ hj)with hj | rfl
      ·exact hno j hj
      ·exact(hx _ hi8).trans hf
   ·exfalso;have:Bp x=0:=by
     unfold Bp;rw [List.length_eq_zero_iff,List.filter_eq_nil_iff];intro b hb;rw [V1]at hb;rw [hno b (by omega)];decide
    omega
 ·have d1:((Bp x:Int)==1)=false:=beq_eq_false_iff_ne.2 (by omega);refine Al.run ?_;(conv=>whnf);rw [d1];obtain⟨u,hu⟩:∃u,u=(if 128<Bp x then ~~~x else x):=⟨_,rfl⟩;obtain⟨opn,ho⟩:∃l:List Nat,l=(if 128<Bp x then [91,94]else [91]):=⟨_,rfl⟩;obtain⟨w,hw⟩:∃w,w= !decide (128<Bp x):=⟨_,rfl⟩;have hsh:Ge x=opn++EA (fun k=>u.getLsbD k) 256++[93]:=by rw [hu,ho];exact if_neg h1
  have hol:opn.length≤2:=by rw [ho];split<;>decide
  have hfw:∀k,k<256→(f k==w)=u.getLsbD k:=fun k hk=>by
   rw [hu,hw,←hx k hk];by_cases h:128<Bp x
   ·rw [if_pos h,decide_eq_true h,BitVec.getLsbD_not,decide_eq_true hk];cases x.getLsbD k<;>rfl
   ·rw [if_neg h,decide_eq_false h];cases x.getLsbD k<;>rfl
  (conv=>whnf);refine Al.cut [5,6] (fun _:Unit=>[.string (bA opn),.bool w]) (fun _ H3=>St H H3 [pB 92 p (BW f)]) ?_ ?_
  ·by_cases h128:128<Bp x
   ·have d2:decide ((Bp x:Int)>128)=true:=decide_eq_true (by omega);(conv=>whnf);rw [d2];(conv=>whnf);exact⟨rfl,(),by rw [ho,if_pos h128,hw,decide_eq_true h128];rfl,st2⟩
   ·have d2:decide ((Bp x:Int)>128)=false:=decide_eq_false (by omega);(conv=>whnf);rw [d2];(conv=>whnf);exact⟨rfl,(),by rw [ho,if_neg h128,hw,decide_eq_false h128];rfl,st2⟩
  ·rintro⟨⟩ H3 junk3 st3;rw [hsh];clear hsh ho hu st1 st2;obtain⟨t,ht⟩:∃t:Nat→Bool,t=fun k=>u.getLsbD k:=⟨_,rfl⟩;have htk:∀k,k<256→(f k==w)=t k:=fun k hk=>by rw [ht];exact hfw k hk
   have htn:∀k,k<256→(f k != w)= !(t k):=fun k hk=>by rw [←htk k hk];rfl
   rw [←ht];have hbl:∀n,n≤256→opn.length+(EA t n).length≤2306:=fun n hn=>by
    have:=Jb t n;omega
   (conv=>whnf);refine AH.mk [5,7] (fun i:Nat=>[.string (bA (opn++EA t i)),.int .i64 (i:Int)]) (fun i H4=>i≤256∧St H H4 [pB 92 p (BW f)]) (fun i _=>256 - i) ?_ ?_
   ·(conv=>whnf);exact⟨0,by rw [show EA t 0=[]from rfl,UZ];rfl,Va _,st3⟩
   ·clear st3;rintro i H4 junk4 ⟨hi,st4⟩;refine AQ.mk (fun hz=>?_) (fun hz=>?_)<;>simp only [decide_eq_true_eq,decide_eq_false_iff_not]at hz
    ·have hi8:i<256:=by omega
     have hbi:=hbl i (by omega);refine Al.run (ixa DQ (by omega) (by omega) ?_);rw [show 0+(i:Int).toNat*1=i by omega];refine ld1 (v:=.bool (f i)) ct4 (by rw [(st4.blk 0 rfl).cell];exact GV hi8) trivial ?_;refine U9 (by kernel_rfl) (htn i hi8) ?_;cases hti:t i with
     | false=>
       (conv=>whnf);rw [w64 (x:=(i:Int)+1) (by omega) (by omega)];exact⟨rfl,i+1,by rw [NQ hti];simp,⟨by omega,st4⟩,by omega⟩
     | true=>
       by_cases hi0:0<i
       ·have d3:decide ((i:Int)>0)=true:=decide_eq_true (by omega);(conv=>whnf);rw [d3];(conv=>whnf);rw [w64 (x:=(i:Int) - 1) (by omega) (by omega)];refine ixa DQ (by omega) (by omega) ?_;rw [show 0+((i:Int) - 1).toNat*1=i - 1 by omega];refine ld1 (v:=.bool (f (i - 1))) ct4 (by rw [(st4.blk 0 rfl).cell];exact GV (by omega)) trivial ?_;refine eqZ (by kernel_rfl) (htk (i - 1) (by omega)) ?_;cases htp:t (i - 1)with
        | true=>
          (conv=>whnf);rw [w64 (x:=(i:Int)+1) (by omega) (by omega)];exact⟨rfl,i+1,by rw [Fy,Qw hi0 htp,UZ];simp,⟨by omega,st4⟩,by omega⟩
        | false=>
          have hpr:i=0∨t (i - 1)=false:=.inr htp;(conv=>whnf);refine AH.mk [8] (fun n:Nat=>[.int .i64 (n:Int)]) (fun n H6=>1≤n∧i+n≤256∧(∀k,i<k→k<i+n→t k=true)∧St H H6 [pB 92 p (BW f)]) (fun n _=>256 - n) ?_ ?_
          ·(conv=>whnf);exact⟨1,rfl,UP _,by omega,fun k h1 h2=>by omega,st4⟩
          ·clear st4;rintro n H6 junk6 ⟨hn1,hn2,hrun,st6⟩;by_cases hj2:i+n<256
           ·have d4:decide ((i:Int)+(n:Int)<256)=true:=decide_eq_true (by omega);(conv=>whnf);rw [w64 (x:=(i:Int)+(n:Int)) (by omega) (by omega)];(conv=>whnf);rw [d4];(conv=>whnf);rw [w64 (x:=(i:Int)+(n:Int)) (by omega) (by omega)];refine ixa DQ (by omega) (by omega) ?_;rw [show 0+((i:Int)+(n:Int)).toNat*1=i+n by omega];refine ld1 (v:=.bool (f (i+n))) ct4 (by rw [(st6.blk 0 rfl).cell];exact GV hj2) trivial ?_;refine eqZ (by kernel_rfl) (htk (i+n) hj2) ?_;cases htj:t (i+n)with
            | true=>
              (conv=>whnf);rw [w64 (x:=(n:Int)+1) (by omega) (by omega)];refine⟨rfl,n+1,by simp,⟨by omega,by omega,fun k h1 h2=>?_,st6⟩,by omega⟩;rcases Vr (show k≤i+n by omega)with h2 | rfl
              ·exact hrun k h1 h2
              ·exact htj
            | false=>
              have he:i+n - 1=255∨t (i+n - 1+1)=false:=.inr (by rw [show i+n - 1+1=i+n by omega];exact htj);have hbr:=Jc hti hpr (j:=i+n - 1) (by omega) (by omega) (fun k h1 h2=>hrun k h1 (by omega)) he;have hil:(Cy i (spB Bg i)).length≤4:=CH _ _;have hjl:(Cy (i+n - 1) (spB Bg (i+n - 1))).length≤4:=CH _ _;(conv=>whnf);rw [w8 (x:=(i:Int)) (by omega) (by omega)];refine Af (Dg hi8) fun H8 ha8=>?_;have st8:=st6.call ha8;refine Af (F5 hi8) fun H9 ha9=>?_;have st9:=st8.call ha9;refine Bl (BN (by rw [UL];omega) (show(Cy i (spB Bg i)).length≤4096 by omega)) ?_;rw [A7];(conv=>whnf);rw [w64 (x:=(i:Int)+(n:Int)) (by omega) (by omega)];(conv=>whnf);rw [w64 (x:=(i:Int)+(n:Int) - 1) (by omega) (by omega)];(conv=>whnf);rw [w8 (x:=(i:Int)+(n:Int) - 1) (by omega) (by omega)];rw [show(i:Int)+(n:Int) - 1=((i+n - 1:Nat):Int) by omega];refine Al.run ?_;rcases(show n=1∨n=2∨2<n by omega)with hc3 | hc3 | hc3
              ·have e1:decide ((n:Int)>2)=false:=decide_eq_false (by omega);have e2:decide ((n:Int)>1)=false:=decide_eq_false (by omega);(conv=>whnf);rw [e1];(conv=>whnf);rw [e2];(conv=>whnf);rw [w64 (x:=(i:Int)+1) (by omega) (by omega)];refine⟨rfl,i+1,?_,⟨by omega,st9⟩,by omega⟩;rw [hbr];unfold EY;rw [if_neg (by omega),if_neg (by omega)];simp
              ·have e1:decide ((n:Int)>2)=false:=decide_eq_false (by omega);have e2:decide ((n:Int)>1)=true:=decide_eq_true (by omega);(conv=>whnf);rw [e1];(conv=>whnf);rw [e2];refine Af (Dg (show i+n - 1<256 by omega)) fun H10 ha10=>?_;have st10:=st9.call ha10;refine Af (F5 (show i+n - 1<256 by omega)) fun H11 ha11=>?_;have st11:=st10.call ha11;refine Bl (BN (by simp only [UL,UN];omega) (show(Cy (i+n - 1) (spB Bg (i+n - 1))).length≤4096 by omega)) ?_;rw [A7];(conv=>whnf);rw [w64 (x:=(i:Int)+1) (by omega) (by omega)];refine⟨rfl,i+1,?_,⟨by omega,st11⟩,by omega⟩;rw [hbr];unfold EY;rw [if_neg (by omega),if_pos (by omega)];simp
              ·have e1:decide ((n:Int)>2)=true:=decide_eq_true (by omega);have e2:decide ((n:Int)>1)=true:=decide_eq_true (by omega);(conv=>whnf);rw [e1];refine Bl (BN (v:=[45]) (by simp only [UL];omega) (by decide)) ?_;rw [show(⟨#[45]⟩:ByteArray)=bA [45]from rfl,A7];(conv=>whnf);rw [e2];refine Af (Dg (show i+n - 1<256 by omega)) fun H10 ha10=>?_;have st10:=st9.call ha10;refine Af (F5 (show i+n - 1<256 by omega)) fun H11 ha11=>?_;have st11:=st10.call ha11;refine Bl (BN (by simp only [UL,UN];omega) (show(Cy (i+n - 1) (spB Bg (i+n - 1))).length≤4096 by omega)) ?_;rw [A7];(conv=>whnf);rw [w64 (x:=(i:Int)+1) (by omega) (by omega)];refine⟨rfl,i+1,?_,⟨by omega,st11⟩,by omega⟩;rw [hbr];unfold EY;rw [if_pos (by omega),if_pos (by omega)];simp
           ·have d4:decide ((i:Int)+(n:Int)<256)=false:=decide_eq_false (by omega);have he:i+n - 1=255∨t (i+n - 1+1)=false:=.inl (by omega);(conv=>whnf);rw [w64 (x:=(i:Int)+(n:Int)) (by omega) (by omega)];(conv=>whnf);rw [d4];have hbr:=Jc hti hpr (j:=i+n - 1) (by omega) (by omega) (fun k h1 h2=>hrun k h1 (by omega)) he;have hil:(Cy i (spB Bg i)).length≤4:=CH _ _;have hjl:(Cy (i+n - 1) (spB Bg (i+n - 1))).length≤4:=CH _ _;(conv=>whnf);rw [w8 (x:=(i:Int)) (by omega) (by omega)];refine Af (Dg hi8) fun H8 ha8=>?_;have st8:=st6.call ha8;refine Af (F5 hi8) fun H9 ha9=>?_;have st9:=st8.call ha9;refine Bl (BN (by rw [UL];omega) (show(Cy i (spB Bg i)).length≤4096 by omega)) ?_;rw [A7];(conv=>whnf);rw [w64 (x:=(i:Int)+(n:Int)) (by omega) (by omega)];(conv=>whnf);rw [w64 (x:=(i:Int)+(n:Int) - 1) (by omega) (by omega)];(conv=>whnf);rw [w8 (x:=(i:Int)+(n:Int) - 1) (by omega) (by omega)];rw [show(i:Int)+(n:Int) - 1=((i+n - 1:Nat):Int) by omega];refine Al.run ?_;rcases(show n=1∨n=2∨2<n by omega)with hc3 | hc3 | hc3
            ·have e1:decide ((n:Int)>2)=false:=decide_eq_false (by omega);have e2:decide ((n:Int)>1)=false:=decide_eq_false (by omega);(conv=>whnf);rw [e1];(conv=>whnf);rw [e2];(conv=>whnf);rw [w64 (x:=(i:Int)+1) (by omega) (by omega)];refine⟨rfl,i+1,?_,⟨by omega,st9⟩,by omega⟩;rw [hbr];unfold EY;rw [if_neg (by omega),if_neg (by omega)];simp
            ·have e1:decide ((n:Int)>2)=false:=decide_eq_false (by omega);have e2:decide ((n:Int)>1)=true:=decide_eq_true (by omega);(conv=>whnf);rw [e1];(conv=>whnf);rw [e2];refine Af (Dg (show i+n - 1<256 by omega)) fun H10 ha10=>?_;have st10:=st9.call ha10;refine Af (F5 (show i+n - 1<256 by omega)) fun H11 ha11=>?_;have st11:=st10.call ha11;refine Bl (BN (by simp only [UL,UN];omega) (show(Cy (i+n - 1) (spB Bg (i+n - 1))).length≤4096 by omega)) ?_;rw [A7];(conv=>whnf);rw [w64 (x:=(i:Int)+1) (by omega) (by omega)];refine⟨rfl,i+1,?_,⟨by omega,st11⟩,by omega⟩;rw [hbr];unfold EY;rw [if_neg (by omega),if_pos (by omega)];simp
            ·have e1:decide ((n:Int)>2)=true:=decide_eq_true (by omega);have e2:decide ((n:Int)>1)=true:=decide_eq_true (by omega);(conv=>whnf);rw [e1];refine Bl (BN (v:=[45]) (by simp only [UL];omega) (by decide)) ?_;rw [show(⟨#[45]⟩:ByteArray)=bA [45]from rfl,A7];(conv=>whnf);rw [e2];refine Af (Dg (show i+n - 1<256 by omega)) fun H10 ha10=>?_;have st10:=st9.call ha10;refine Af (F5 (show i+n - 1<256 by omega)) fun H11 ha11=>?_;have st11:=st10.call ha11;refine Bl (BN (by simp only [UL,UN];omega) (show(Cy (i+n - 1) (spB Bg (i+n - 1))).length≤4096 by omega)) ?_;rw [A7];(conv=>whnf);rw [w64 (x:=(i:Int)+1) (by omega) (by omega)];refine⟨rfl,i+1,?_,⟨by omega,st11⟩,by omega⟩;rw [hbr];unfold EY;rw [if_pos (by omega),if_pos (by omega)];simp
       ·have d3:decide ((i:Int)>0)=false:=decide_eq_false (by omega);have hpr:i=0∨t (i - 1)=false:=.inl (by omega);(conv=>whnf);rw [d3];(conv=>whnf);refine AH.mk [8] (fun n:Nat=>[.int .i64 (n:Int)]) (fun n H6=>1≤n∧i+n≤256∧(∀k,i<k→k<i+n→t k=true)∧St H H6 [pB 92 p (BW f)]) (fun n _=>256 - n) ?_ ?_
        ·(conv=>whnf);exact⟨1,rfl,UP _,by omega,fun k h1 h2=>by omega,st4⟩
        ·clear st4;rintro n H6 junk6 ⟨hn1,hn2,hrun,st6⟩;by_cases hj2:i+n<256
         ·have d4:decide ((i:Int)+(n:Int)<256)=true:=decide_eq_true (by omega);(conv=>whnf);rw [w64 (x:=(i:Int)+(n:Int)) (by omega) (by omega)];(conv=>whnf);rw [d4];(conv=>whnf);rw [w64 (x:=(i:Int)+(n:Int)) (by omega) (by omega)];refine ixa DQ (by omega) (by omega) ?_;rw [show 0+((i:Int)+(n:Int)).toNat*1=i+n by omega];refine ld1 (v:=.bool (f (i+n))) ct4 (by rw [(st6.blk 0 rfl).cell];exact GV hj2) trivial ?_;refine eqZ (by kernel_rfl) (htk (i+n) hj2) ?_;cases htj:t (i+n)with
          | true=>
            (conv=>whnf);rw [w64 (x:=(n:Int)+1) (by omega) (by omega)];refine⟨rfl,n+1,by simp,⟨by omega,by omega,fun k h1 h2=>?_,st6⟩,by omega⟩;rcases Vr (show k≤i+n by omega)with h2 | rfl
            ·exact hrun k h1 h2
            ·exact htj
          | false=>
            have he:i+n - 1=255∨t (i+n - 1+1)=false:=.inr (by rw [show i+n - 1+1=i+n by omega];exact htj);have hbr:=Jc hti hpr (j:=i+n - 1) (by omega) (by omega) (fun k h1 h2=>hrun k h1 (by omega)) he;have hil:(Cy i (spB Bg i)).length≤4:=CH _ _;have hjl:(Cy (i+n - 1) (spB Bg (i+n - 1))).length≤4:=CH _ _;(conv=>whnf);rw [w8 (x:=(i:Int)) (by omega) (by omega)];refine Af (Dg hi8) fun H8 ha8=>?_;have st8:=st6.call ha8;refine Af (F5 hi8) fun H9 ha9=>?_;have st9:=st8.call ha9;refine Bl (BN (by rw [UL];omega) (show(Cy i (spB Bg i)).length≤4096 by omega)) ?_;rw [A7];(conv=>whnf);rw [w64 (x:=(i:Int)+(n:Int)) (by omega) (by omega)];(conv=>whnf);rw [w64 (x:=(i:Int)+(n:Int) - 1) (by omega) (by omega)];(conv=>whnf);rw [w8 (x:=(i:Int)+(n:Int) - 1) (by omega) (by omega)];rw [show(i:Int)+(n:Int) - 1=((i+n - 1:Nat):Int) by omega];refine Al.run ?_;rcases(show n=1∨n=2∨2<n by omega)with hc3 | hc3 | hc3
            ·have e1:decide ((n:Int)>2)=false:=decide_eq_false (by omega);have e2:decide ((n:Int)>1)=false:=decide_eq_false (by omega);(conv=>whnf);rw [e1];(conv=>whnf);rw [e2];(conv=>whnf);rw [w64 (x:=(i:Int)+1) (by omega) (by omega)];refine⟨rfl,i+1,?_,⟨by omega,st9⟩,by omega⟩;rw [hbr];unfold EY;rw [if_neg (by omega),if_neg (by omega)];simp
            ·have e1:decide ((n:Int)>2)=false:=decide_eq_false (by omega);have e2:decide ((n:Int)>1)=true:=decide_eq_true (by omega);(conv=>whnf);rw [e1];(conv=>whnf);rw [e2];refine Af (Dg (show i+n - 1<256 by omega)) fun H10 ha10=>?_;have st10:=st9.call ha10;refine Af (F5 (show i+n - 1<256 by omega)) fun H11 ha11=>?_;have st11:=st10.call ha11;refine Bl (BN (by simp only [UL,UN];omega) (show(Cy (i+n - 1) (spB Bg (i+n - 1))).length≤4096 by omega)) ?_;rw [A7];(conv=>whnf);rw [w64 (x:=(i:Int)+1) (by omega) (by omega)];refine⟨rfl,i+1,?_,⟨by omega,st11⟩,by omega⟩;rw [hbr];unfold EY;rw [if_neg (by omega),if_pos (by omega)];simp
            ·have e1:decide ((n:Int)>2)=true:=decide_eq_true (by omega);have e2:decide ((n:Int)>1)=true:=decide_eq_true (by omega);(conv=>whnf);rw [e1];refine Bl (BN (v:=[45]) (by simp only [UL];omega) (by decide)) ?_;rw [show(⟨#[45]⟩:ByteArray)=bA [45]from rfl,A7];(conv=>whnf);rw [e2];refine Af (Dg (show i+n - 1<256 by omega)) fun H10 ha10=>?_;have st10:=st9.call ha10;refine Af (F5 (show i+n - 1<256 by omega)) fun H11 ha11=>?_;have st11:=st10.call ha11;refine Bl (BN (by simp only [UL,UN];omega) (show(Cy (i+n - 1) (spB Bg (i+n - 1))).length≤4096 by omega)) ?_;rw [A7];(conv=>whnf);rw [w64 (x:=(i:Int)+1) (by omega) (by omega)];refine⟨rfl,i+1,?_,⟨by omega,st11⟩,by omega⟩;rw [hbr];unfold EY;rw [if_pos (by omega),if_pos (by omega)];simp
         ·have d4:decide ((i:Int)+(n:Int)<256)=false:=decide_eq_false (by omega);have he:i+n - 1=255∨t (i+n - 1+1)=false:=.inl (by omega);(conv=>whnf);rw [w64 (x:=(i:Int)+(n:Int)) (by omega) (by omega)];(conv=>whnf);rw [d4];have hbr:=Jc hti hpr (j:=i+n - 1) (by omega) (by omega) (fun k h1 h2=>hrun k h1 (by omega)) he;have hil:(Cy i (spB Bg i)).length≤4:=CH _ _;have hjl:(Cy (i+n - 1) (spB Bg (i+n - 1))).length≤4:=CH _ _;(conv=>whnf);rw [w8 (x:=(i:Int)) (by omega) (by omega)];refine Af (Dg hi8) fun H8 ha8=>?_;have st8:=st6.call ha8;refine Af (F5 hi8) fun H9 ha9=>?_;have st9:=st8.call ha9;refine Bl (BN (by rw [UL];omega) (show(Cy i (spB Bg i)).length≤4096 by omega)) ?_;rw [A7];(conv=>whnf);rw [w64 (x:=(i:Int)+(n:Int)) (by omega) (by omega)];(conv=>whnf);rw [w64 (x:=(i:Int)+(n:Int) - 1) (by omega) (by omega)];(conv=>whnf);rw [w8 (x:=(i:Int)+(n:Int) - 1) (by omega) (by omega)];rw [show(i:Int)+(n:Int) - 1=((i+n - 1:Nat):Int) by omega];refine Al.run ?_;rcases(show n=1∨n=2∨2<n by omega)with hc3 | hc3 | hc3
          ·have e1:decide ((n:Int)>2)=false:=decide_eq_false (by omega);have e2:decide ((n:Int)>1)=false:=decide_eq_false (by omega);(conv=>whnf);rw [e1];(conv=>whnf);rw [e2];(conv=>whnf);rw [w64 (x:=(i:Int)+1) (by omega) (by omega)];refine⟨rfl,i+1,?_,⟨by omega,st9⟩,by omega⟩;rw [hbr];unfold EY;rw [if_neg (by omega),if_neg (by omega)];simp
          ·have e1:decide ((n:Int)>2)=false:=decide_eq_false (by omega);have e2:decide ((n:Int)>1)=true:=decide_eq_true (by omega);(conv=>whnf);rw [e1];(conv=>whnf);rw [e2];refine Af (Dg (show i+n - 1<256 by omega)) fun H10 ha10=>?_;have st10:=st9.call ha10;refine Af (F5 (show i+n - 1<256 by omega)) fun H11 ha11=>?_;have st11:=st10.call ha11;refine Bl (BN (by simp only [UL,UN];omega) (show(Cy (i+n - 1) (spB Bg (i+n - 1))).length≤4096 by omega)) ?_;rw [A7];(conv=>whnf);rw [w64 (x:=(i:Int)+1) (by omega) (by omega)];refine⟨rfl,i+1,?_,⟨by omega,st11⟩,by omega⟩;rw [hbr];unfold EY;rw [if_neg (by omega),if_pos (by omega)];simp
          ·have e1:decide ((n:Int)>2)=true:=decide_eq_true (by omega);have e2:decide ((n:Int)>1)=true:=decide_eq_true (by omega);(conv=>whnf);rw [e1];refine Bl (BN (v:=[45]) (by simp only [UL];omega) (by decide)) ?_;rw [show(⟨#[45]⟩:ByteArray)=bA [45]from rfl,A7];(conv=>whnf);rw [e2];refine Af (Dg (show i+n - 1<256 by omega)) fun H10 ha10=>?_;have st10:=st9.call ha10;refine Af (F5 (show i+n - 1<256 by omega)) fun H11 ha11=>?_;have st11:=st10.call ha11;refine Bl (BN (by simp only [UL,UN];omega) (show(Cy (i+n - 1) (spB Bg (i+n - 1))).length≤4096 by omega)) ?_;rw [A7];(conv=>whnf);rw [w64 (x:=(i:Int)+1) (by omega) (by omega)];refine⟨rfl,i+1,?_,⟨by omega,st11⟩,by omega⟩;rw [hbr];unfold EY;rw [if_pos (by omega),if_pos (by omega)];simp
    ·obtain rfl:i=256:=by omega
     refine Bl (BN (v:=[93]) (by rw [UL];exact Vu (hbl 256 (UP _)) (by decide)) (by decide)) ?_;rw [show(⟨#[93]⟩:ByteArray)=bA [93]from rfl,A7];(conv=>whnf);exact⟨rfl,st4.old⟩
end Go.Proofs.YtlnmhfhdjnenoaaGreatDoor
